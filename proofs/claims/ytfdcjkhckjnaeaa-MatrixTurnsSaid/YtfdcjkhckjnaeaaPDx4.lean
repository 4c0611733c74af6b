-- PRINTED by print.py (a twelfth state) out of the translation. Not trusted: Lean checks it.
import Derived.Test.YtfdcjkhckjnaeaaPDx0
import Derived.Test.YtfdcjkhckjnaeaaPDx3
namespace Go.Proofs.Ytfdcjkhckjnaeaa.PD
open Go.RowKit Go.Proofs.YtfdcjkhckjnaeaaW.PrintWords Go.Proofs.YtfdcjkhckjnaeaaW.PrintLast Go.Proofs.YtfdcjkhckjnaeaaW.PrintMore
open Bool renaming true → T, false → F
open List renaming setIfInBounds_toArray → q1, set_cons_zero → q2, set_cons_succ → q3
attribute [local go_sem] run_store_func max2_int min2_int max_two min_two max_three min_three max_four min_four   -- for this text's walks alone
set_option linter.unusedVariables false
set_option linter.unusedSimpArgs false

/-! ### bitrow_Get: function 176 -/
def bitrow_Get.f (a0_0 : Int) (l0_1 : List Int) (a1 : Int) : Option (Int × Int) := (bitrow_Right.f a0_0 l0_1).bind fun t168 => (if t168 = true then (if a1 < 0 then (some (0, 3)) else (if a1 ≥ a0_0 then (some (0, 3)) else (if 0 ≤ (wrap64 (Int.tdiv a1 64)) then (if (wrap64 (Int.tdiv a1 64)) < (l0_1.length : Int) then (if 0 ≤ (Int.tmod a1 64) then (some (wrap64 (Go.bits .and .u64 (shr .u64 (rd l0_1 (wrap64 (Int.tdiv a1 64))) (Int.tmod a1 64)) 1), 0)) else (none)) else (none)) else (none)))) else (some (0, 1)))
set_option maxHeartbeats 8000000 in
set_option maxRecDepth 100000 in
theorem bitrow_Get.calls (a0_0 : Int) (A0_1 : Option Addr) (c0_1 : Nat) (l0_1 : List Int) (a1 : Int) (r1 : Int) (r2 : Int) (w : World) (hr0_1 : Kd.C (Kd.int .u64) w A0_1 l0_1.length l0_1) (hc0_1 : l0_1.length ≤ c0_1) (h : bitrow_Get.f a0_0 l0_1 a1 = some (r1, r2)) :
  Calls Try.prog 176 #[.agg #[.int .i64 a0_0, .slice A0_1 l0_1.length c0_1], .int .i64 a1] w fun e w' => e = .returned (.tuple #[.int .i64 r1, .int .i64 r2]) ∧ Below w.heap.size w w' := by
 have hu25 := Try.underlying25
 have HR0_1 := Aside0.mk hr0_1
 have HC0_1 := Aside0.mk hc0_1
 clear hr0_1 hc0_1
 have HB := am (Below.refl w.heap.size w)
 have H : ((bitrow_Right.f a0_0 l0_1).bind fun t168 => (if t168 = true then (if a1 < 0 then (some (0, 3)) else (if a1 ≥ a0_0 then (some (0, 3)) else (if 0 ≤ (wrap64 (Int.tdiv a1 64)) then (if (wrap64 (Int.tdiv a1 64)) < (l0_1.length : Int) then (if 0 ≤ (Int.tmod a1 64) then (some (wrap64 (Go.bits .and .u64 (shr .u64 (rd l0_1 (wrap64 (Int.tdiv a1 64))) (Int.tmod a1 64)) 1), 0)) else (none)) else (none)) else (none)))) else (some (0, 1)))) = some (r1, r2) := h
 clear h
 replace H := Option.bind_eq_some_iff.mp H
 obtain ⟨t168, A30, H⟩ := H
 replace H : (if t168 = true then (if a1 < 0 then (some (0, 3)) else (if a1 ≥ a0_0 then (some (0, 3)) else (if 0 ≤ (wrap64 (Int.tdiv a1 64)) then (if (wrap64 (Int.tdiv a1 64)) < (l0_1.length : Int) then (if 0 ≤ (Int.tmod a1 64) then (some (wrap64 (Go.bits .and .u64 (shr .u64 (rd l0_1 (wrap64 (Int.tdiv a1 64))) (Int.tmod a1 64)) 1), 0)) else (none)) else (none)) else (none)))) else (some (0, 1))) = some (r1, r2) := H
 have A3 := Aside0.mk A30
 clear A30
 by_cases c4 : t168 = true
 ·
  subst c4
  have H1 : (if a1 < 0 then (some (0, 3)) else (if a1 ≥ a0_0 then (some (0, 3)) else (if 0 ≤ (wrap64 (Int.tdiv a1 64)) then (if (wrap64 (Int.tdiv a1 64)) < (l0_1.length : Int) then (if 0 ≤ (Int.tmod a1 64) then (some (wrap64 (Go.bits .and .u64 (shr .u64 (rd l0_1 (wrap64 (Int.tdiv a1 64))) (Int.tmod a1 64)) 1), 0)) else (none)) else (none)) else (none)))) = some (r1, r2) := by rw [if_pos rfl] at H; exact H
  clear H
  have H := H1
  clear H1
  by_cases c5 : a1 < 0
  ·
   rw [if_pos c5] at H
   have c5b0 : decide (a1 < 0) = true := decide_eq_true c5
   clear c5
   simp only [Option.some.injEq, Prod.mk.injEq] at H
   obtain ⟨rfl, rfl⟩ := H
   go_enter Try.func176, Try.ntmps176
   go_wp2_with (first | ((with_reducible refine gate_dst (N := 2) rfl ?_); refine box_event ?hg (N := 2) ?hd (cs := #[.int .i64 a0_0, .slice A0_1 l0_1.length c0_1]) (t := 25) ?hr ?_; (case hd => rfl); (case hg => rfl); (case hr => first | (go_simp; done) | (go_simp; rfl)); intro gb167 hg w6 hbox hb; have n0_ := am (below_step (pb HB) hb); have n1_ := am (hbox); have n2_ := am ((by rw [hg]; exact (below_size (pb HB)) : w.heap.size ≤ gb167)); have n3_ := am ((by rw [hg]; exact (below_size (pb HB)) : w.heap.size ≤ gb167)); clear HB; have HB := n0_; have BK167 := n1_; have GW167 := n2_; have GE167 := n3_; clear n0_ n1_ n2_ n3_ hb hbox hg; have hcz7_0 : w6.cell? ⟨gb167, 0, none⟩ = some (.int .i64 a0_0) := (blk_cell BK167.out 0).trans rfl; have hcz7_1 : w6.cell? ⟨gb167, 1, none⟩ = some (.slice A0_1 l0_1.length c0_1) := (blk_cell BK167.out 1).trans rfl; have hfz7_0 := blk_frozen BK167.out 0; have hfz7_1 := blk_frozen BK167.out 1) | ((with_reducible refine gate_callee (f := 22) rfl ?_); refine goesL_ (some 8) rfl rfl Try.func22 (by kernel_rfl) rfl #[.agg #[.int .i64 a0_0, .slice A0_1 l0_1.length c0_1]] rfl (by (try simp only [List.map_toArray, List.map_cons, List.map_nil]); first | done | rfl | (simp only [List.length_drop, List.length_take]; rfl)) ?_; (with_reducible refine (bitrow_Right.calls a0_0 _ _ l0_1 true _ ?side1 ?side2 A3.out).mono ?_); (case side1 => repeat (first | exact (Kd.C_below HR0_1.out HB.out) | (with_reducible refine Kd.C_alloc ?_ _) | (with_reducible refine Kd.C_drewN ?_ _) | (with_reducible refine Kd.C_drew ?_))); (case side2 => exact HC0_1.out); rintro e w8 ⟨rfl, hb⟩; refine ⟨_, rfl, ?_⟩; have n0_ := bb BK167 hb; have n1_ := am (below_step (pb HB) hb); clear BK167 HB; have BK167 := n0_; have HB := n1_; clear n0_ n1_; (try clear hb); (try clear hb2); (try clear hk); (try clear hi)))
   go_ret2
   exact ⟨by first | rfl | (simp [errW_none, errW_some] <;> rfl) | (simp [*, errW_none, errW_some] <;> rfl), pb HB⟩
  ·
   rw [if_neg c5] at H
   have c5b0 : decide (a1 < 0) = false := decide_eq_false c5
   clear c5
   by_cases c9 : a1 ≥ a0_0
   ·
    rw [if_pos c9] at H
    have c9b0 : decide (a0_0 ≤ a1) = true := decide_eq_true c9
    clear c9
    simp only [Option.some.injEq, Prod.mk.injEq] at H
    obtain ⟨rfl, rfl⟩ := H
    go_enter Try.func176, Try.ntmps176
    go_wp2_with (first | ((with_reducible refine gate_dst (N := 2) rfl ?_); refine box_event ?hg (N := 2) ?hd (cs := #[.int .i64 a0_0, .slice A0_1 l0_1.length c0_1]) (t := 25) ?hr ?_; (case hd => rfl); (case hg => rfl); (case hr => first | (go_simp; done) | (go_simp; rfl)); intro gb167 hg w10 hbox hb; have n0_ := am (below_step (pb HB) hb); have n1_ := am (hbox); have n2_ := am ((by rw [hg]; exact (below_size (pb HB)) : w.heap.size ≤ gb167)); have n3_ := am ((by rw [hg]; exact (below_size (pb HB)) : w.heap.size ≤ gb167)); clear HB; have HB := n0_; have BK167 := n1_; have GW167 := n2_; have GE167 := n3_; clear n0_ n1_ n2_ n3_ hb hbox hg; have hcz11_0 : w10.cell? ⟨gb167, 0, none⟩ = some (.int .i64 a0_0) := (blk_cell BK167.out 0).trans rfl; have hcz11_1 : w10.cell? ⟨gb167, 1, none⟩ = some (.slice A0_1 l0_1.length c0_1) := (blk_cell BK167.out 1).trans rfl; have hfz11_0 := blk_frozen BK167.out 0; have hfz11_1 := blk_frozen BK167.out 1) | ((with_reducible refine gate_callee (f := 22) rfl ?_); refine goesL_ (some 8) rfl rfl Try.func22 (by kernel_rfl) rfl #[.agg #[.int .i64 a0_0, .slice A0_1 l0_1.length c0_1]] rfl (by (try simp only [List.map_toArray, List.map_cons, List.map_nil]); first | done | rfl | (simp only [List.length_drop, List.length_take]; rfl)) ?_; (with_reducible refine (bitrow_Right.calls a0_0 _ _ l0_1 true _ ?side1 ?side2 A3.out).mono ?_); (case side1 => repeat (first | exact (Kd.C_below HR0_1.out HB.out) | (with_reducible refine Kd.C_alloc ?_ _) | (with_reducible refine Kd.C_drewN ?_ _) | (with_reducible refine Kd.C_drew ?_))); (case side2 => exact HC0_1.out); rintro e w12 ⟨rfl, hb⟩; refine ⟨_, rfl, ?_⟩; have n0_ := bb BK167 hb; have n1_ := am (below_step (pb HB) hb); clear BK167 HB; have BK167 := n0_; have HB := n1_; clear n0_ n1_; (try clear hb); (try clear hb2); (try clear hk); (try clear hi); have hcz13_0 : w12.cell? ⟨gb167, 0, none⟩ = some (.int .i64 a0_0) := (blk_cell BK167.out 0).trans rfl; have hcz13_1 : w12.cell? ⟨gb167, 1, none⟩ = some (.slice A0_1 l0_1.length c0_1) := (blk_cell BK167.out 1).trans rfl; have hfz13_0 := blk_frozen BK167.out 0; have hfz13_1 := blk_frozen BK167.out 1))
    go_ret2
    exact ⟨by first | rfl | (simp [errW_none, errW_some] <;> rfl) | (simp [*, errW_none, errW_some] <;> rfl), pb HB⟩
   ·
    rw [if_neg c9] at H
    have c9b0 : decide (a0_0 ≤ a1) = false := decide_eq_false c9
    clear c9
    obtain ⟨ji14, hji14⟩ : ∃ j_ : Int, (wrap64 (Int.tdiv a1 64)) = j_ := ⟨_, rfl⟩
    replace H : (if 0 ≤ (ji14) then (if (ji14) < (l0_1.length : Int) then (if 0 ≤ (Int.tmod a1 64) then (some (wrap64 (Go.bits .and .u64 (shr .u64 (rd l0_1 (ji14)) (Int.tmod a1 64)) 1), 0)) else (none)) else (none)) else (none)) = some (r1, r2) := by first | (rw [hji14] at H; exact H) | (simp only [hji14] at H ⊢; exact H)
    (try rw [hji14] at A3)
    have hji14w : (IntKind.i64.wrap (Int.tdiv a1 64)) = ji14 := (i64_w _).trans hji14
    by_cases c15 : 0 ≤ (ji14)
    ·
     rw [if_pos c15] at H
     have c15b0 : decide (0 ≤ (ji14)) = true := decide_eq_true c15
     clear c15
     by_cases c16 : (ji14) < (l0_1.length : Int)
     ·
      rw [if_pos c16] at H
      have c16b0 : decide ((ji14) < (l0_1.length : Int)) = true := decide_eq_true c16
      clear c16
      obtain ⟨ji17, hji17⟩ : ∃ j_ : Int, (Int.tmod a1 64) = j_ := ⟨_, rfl⟩
      replace H : (if 0 ≤ (ji17) then (some (wrap64 (Go.bits .and .u64 (shr .u64 (rd l0_1 (ji14)) (ji17)) 1), 0)) else (none)) = some (r1, r2) := by first | (rw [hji17] at H; exact H) | (simp only [hji17] at H ⊢; exact H)
      (try rw [hji17] at A3)
      by_cases c18 : 0 ≤ (ji17)
      ·
       rw [if_pos c18] at H
       have c18b0 := eq_true c18
       have c18b1 : decide (0 ≤ (ji17)) = true := decide_eq_true c18
       clear c18
       obtain ⟨ji19, hji19⟩ : ∃ j_ : Int, (shr .u64 (rd l0_1 (ji14)) (ji17)) = j_ := ⟨_, rfl⟩
       replace H : (some (wrap64 (Go.bits .and .u64 (ji19) 1), 0)) = some (r1, r2) := by first | (rw [hji19] at H; exact H) | (simp only [hji19] at H ⊢; exact H)
       (try rw [hji19] at A3)
       have hji19_ : ((rd l0_1 (ji14)) / 2 ^ min (ji17).toNat 64) = ji19 := hji19
       have hji19z : (ji17) ≤ 64 → ((rd l0_1 (ji14)) / 2 ^ (ji17).toNat) = ji19 := shr_small hji19
       simp only [Option.some.injEq, Prod.mk.injEq] at H
       obtain ⟨rfl, rfl⟩ := H
       go_enter Try.func176, Try.ntmps176
       go_wp2_with (first | ((with_reducible refine gate_dst (N := 2) rfl ?_); refine box_event ?hg (N := 2) ?hd (cs := #[.int .i64 a0_0, .slice A0_1 l0_1.length c0_1]) (t := 25) ?hr ?_; (case hd => rfl); (case hg => rfl); (case hr => first | (go_simp; done) | (go_simp; rfl)); intro gb167 hg w20 hbox hb; have n0_ := am (below_step (pb HB) hb); have n1_ := am (hbox); have n2_ := am ((by rw [hg]; exact (below_size (pb HB)) : w.heap.size ≤ gb167)); have n3_ := am ((by rw [hg]; exact (below_size (pb HB)) : w.heap.size ≤ gb167)); clear HB; have HB := n0_; have BK167 := n1_; have GW167 := n2_; have GE167 := n3_; clear n0_ n1_ n2_ n3_ hb hbox hg; have hcz21_0 : w20.cell? ⟨gb167, 0, none⟩ = some (.int .i64 a0_0) := (blk_cell BK167.out 0).trans rfl; have hcz21_1 : w20.cell? ⟨gb167, 1, none⟩ = some (.slice A0_1 l0_1.length c0_1) := (blk_cell BK167.out 1).trans rfl; have hfz21_0 := blk_frozen BK167.out 0; have hfz21_1 := blk_frozen BK167.out 1) | ((with_reducible refine gate_callee (f := 22) rfl ?_); refine goesL_ (some 8) rfl rfl Try.func22 (by kernel_rfl) rfl #[.agg #[.int .i64 a0_0, .slice A0_1 l0_1.length c0_1]] rfl (by (try simp only [List.map_toArray, List.map_cons, List.map_nil]); first | done | rfl | (simp only [List.length_drop, List.length_take]; rfl)) ?_; (with_reducible refine (bitrow_Right.calls a0_0 _ _ l0_1 true _ ?side1 ?side2 A3.out).mono ?_); (case side1 => repeat (first | exact (Kd.C_below HR0_1.out HB.out) | (with_reducible refine Kd.C_alloc ?_ _) | (with_reducible refine Kd.C_drewN ?_ _) | (with_reducible refine Kd.C_drew ?_))); (case side2 => exact HC0_1.out); rintro e w22 ⟨rfl, hb⟩; refine ⟨_, rfl, ?_⟩; have n0_ := bb BK167 hb; have n1_ := am (below_step (pb HB) hb); clear BK167 HB; have BK167 := n0_; have HB := n1_; clear n0_ n1_; (try clear hb); (try clear hb2); (try clear hk); (try clear hi); have hcz23_0 : w22.cell? ⟨gb167, 0, none⟩ = some (.int .i64 a0_0) := (blk_cell BK167.out 0).trans rfl; have hcz23_1 : w22.cell? ⟨gb167, 1, none⟩ = some (.slice A0_1 l0_1.length c0_1) := (blk_cell BK167.out 1).trans rfl; have hfz23_0 := blk_frozen BK167.out 0; have hfz23_1 := blk_frozen BK167.out 1; have p169 : 0 ≤ ((ji14) : Int) := of_decide_eq_true (by first | (with_reducible assumption) | assumption); have q169 : (ji14) < (l0_1.length : Int) := of_decide_eq_true (by first | (with_reducible assumption) | assumption); obtain ⟨ad169, e169, hx169_0⟩ := Kd.at_int HR0_1.out (ji14) p169 q169; cases e169; replace hx169_0 := (HB.out.cell (World.block_lt_of_cell? w _ hx169_0)).trans hx169_0; replace p169 := eq_true p169; replace q169 := eq_true q169))
       go_ret2
       exact ⟨by first | rfl | (simp [errW_none, errW_some] <;> rfl) | (simp only [← hji14, ← hji17, ← hji19]; first | rfl | (simp [errW_none, errW_some] <;> rfl)) | (simp [*, errW_none, errW_some] <;> rfl), pb HB⟩
      ·
       rw [if_neg c18] at H
       exact absurd H (by simp)
     ·
      rw [if_neg c16] at H
      exact absurd H (by simp)
    ·
     rw [if_neg c15] at H
     exact absurd H (by simp)
 ·
  replace c4 := Bool.eq_false_iff.mpr c4
  subst c4
  have H1 : (some (0, 1)) = some (r1, r2) := by rw [if_neg (show ¬ (false = true) by decide)] at H; exact H
  clear H
  have H := H1
  clear H1
  simp only [Option.some.injEq, Prod.mk.injEq] at H
  obtain ⟨rfl, rfl⟩ := H
  go_enter Try.func176, Try.ntmps176
  go_wp2_with (first | ((with_reducible refine gate_dst (N := 2) rfl ?_); refine box_event ?hg (N := 2) ?hd (cs := #[.int .i64 a0_0, .slice A0_1 l0_1.length c0_1]) (t := 25) ?hr ?_; (case hd => rfl); (case hg => rfl); (case hr => first | (go_simp; done) | (go_simp; rfl)); intro gb167 hg w24 hbox hb; have n0_ := am (below_step (pb HB) hb); have n1_ := am (hbox); have n2_ := am ((by rw [hg]; exact (below_size (pb HB)) : w.heap.size ≤ gb167)); have n3_ := am ((by rw [hg]; exact (below_size (pb HB)) : w.heap.size ≤ gb167)); clear HB; have HB := n0_; have BK167 := n1_; have GW167 := n2_; have GE167 := n3_; clear n0_ n1_ n2_ n3_ hb hbox hg; have hcz25_0 : w24.cell? ⟨gb167, 0, none⟩ = some (.int .i64 a0_0) := (blk_cell BK167.out 0).trans rfl; have hcz25_1 : w24.cell? ⟨gb167, 1, none⟩ = some (.slice A0_1 l0_1.length c0_1) := (blk_cell BK167.out 1).trans rfl; have hfz25_0 := blk_frozen BK167.out 0; have hfz25_1 := blk_frozen BK167.out 1) | ((with_reducible refine gate_callee (f := 22) rfl ?_); refine goesL_ (some 8) rfl rfl Try.func22 (by kernel_rfl) rfl #[.agg #[.int .i64 a0_0, .slice A0_1 l0_1.length c0_1]] rfl (by (try simp only [List.map_toArray, List.map_cons, List.map_nil]); first | done | rfl | (simp only [List.length_drop, List.length_take]; rfl)) ?_; (with_reducible refine (bitrow_Right.calls a0_0 _ _ l0_1 false _ ?side1 ?side2 A3.out).mono ?_); (case side1 => repeat (first | exact (Kd.C_below HR0_1.out HB.out) | (with_reducible refine Kd.C_alloc ?_ _) | (with_reducible refine Kd.C_drewN ?_ _) | (with_reducible refine Kd.C_drew ?_))); (case side2 => exact HC0_1.out); rintro e w26 ⟨rfl, hb⟩; refine ⟨_, rfl, ?_⟩; have n0_ := bb BK167 hb; have n1_ := am (below_step (pb HB) hb); clear BK167 HB; have BK167 := n0_; have HB := n1_; clear n0_ n1_; (try clear hb); (try clear hb2); (try clear hk); (try clear hi)))
  go_ret2
  exact ⟨by first | rfl | (simp [errW_none, errW_some] <;> rfl) | (simp [*, errW_none, errW_some] <;> rfl), pb HB⟩

/-! ### matrix_table_column: function 118 -/
def matrix_table_column.l0 : Nat → Int → List Int → List (S25) → Int → Int → Int → List (S25) → Option (Int × List Int)
 | 0, _, _, _, _, _, _, _ => none
 | k + 1, x1, x5, x13, x14, x15, x171000, x171001 => if x15 < x14 then (if 0 ≤ x15 then (if x15 < (x13.length : Int) then ((bitrow_Get.f ((rd_T25 x13 x15).f0) ((rd_T25 x13 x15).f1) x1).bind fun bt174 => (if bt174.1 = 1 then (if x5.length < 17592186044416 then (matrix_table_column.l0 k x1 (x5 ++ [x15]) x13 x14 (wrap64 (x15 + 1)) x171000 x171001) else (none)) else (matrix_table_column.l0 k x1 x5 x13 x14 (wrap64 (x15 + 1)) x171000 x171001))) else (none)) else (none)) else ((bitrow_Of.f k (x171001.length : Int) x5).bind fun bt179 => (some (bt179.1, bt179.2.1)))
def matrix_table_column.f (k : Nat) (a0_0 : Int) (l0_1 : List (S25)) (a1 : Int) : Option (Int × List Int) := matrix_table_column.l0 k a1 ([] : List Int) l0_1 (l0_1.length : Int) 0 a0_0 l0_1
theorem matrix_table_column.mono_l : ∀ k, (∀ y0 y1 y2 y3 y4 y5 y6, LeO (matrix_table_column.l0 k y0 y1 y2 y3 y4 y5 y6) (matrix_table_column.l0 (k + 1) y0 y1 y2 y3 y4 y5 y6))
 | 0 => fun _ _ _ _ _ _ _ r h => by simp [matrix_table_column.l0] at h
 | k + 1 => by
  have ih0 := matrix_table_column.mono_l k
  ·
   intro y0 y1 y2 y3 y4 y5 y6
   unfold matrix_table_column.l0
   repeat' first
   | (with_reducible exact ih0 _ _ _ _ _ _ _)
   | (with_reducible exact bitrow_Of.mono _ _ _)
   | (with_reducible exact LeO.refl _)
   | (with_reducible exact LeO.none _)
   | (with_reducible refine LeO.ite ?_ ?_)
   | (with_reducible refine LeO.bind ?_ (fun _ => ?_))
   | exact ih0 _ _ _ _ _ _ _
   | exact bitrow_Of.mono _ _ _
   | exact LeO.none _
   | refine LeO.ite ?_ ?_
   | refine LeO.bind ?_ (fun _ => ?_)
theorem matrix_table_column.mono : ∀ a0 a1 a2 k, LeO (matrix_table_column.f k a0 a1 a2) (matrix_table_column.f (k + 1) a0 a1 a2) := by
 intro a0 a1 a2 k
 have ih0 := matrix_table_column.mono_l k
 unfold matrix_table_column.f
 repeat' first
   | (with_reducible exact ih0 _ _ _ _ _ _ _)
   | (with_reducible exact bitrow_Of.mono _ _ _)
   | (with_reducible exact LeO.refl _)
   | (with_reducible exact LeO.none _)
   | (with_reducible refine LeO.ite ?_ ?_)
   | (with_reducible refine LeO.bind ?_ (fun _ => ?_))
   | exact ih0 _ _ _ _ _ _ _
   | exact bitrow_Of.mono _ _ _
   | exact LeO.none _
   | refine LeO.ite ?_ ?_
   | refine LeO.bind ?_ (fun _ => ?_)
set_option maxHeartbeats 8000000 in
set_option maxRecDepth 100000 in
theorem matrix_table_column.calls (k : Nat) (a0_0 : Int) (A0_1 : Option Addr) (c0_1 : Nat) (l0_1 : List (S25)) (a1 : Int) (r1 : Int) (r2 : List Int) (w : World) (hr0_1 : Kd.C k25 w A0_1 l0_1.length l0_1) (hc0_1 : l0_1.length ≤ c0_1) (h : matrix_table_column.f k a0_0 l0_1 a1 = some (r1, r2)) :
  Calls Try.prog 118 #[.agg #[.int .i64 a0_0, .slice A0_1 l0_1.length c0_1], .int .i64 a1] w fun e w' => ∃ v1_ : Value, e = .returned (.agg #[.int .i64 r1, v1_]) ∧ Kd.R (Kd.int .u64) 59 w' w.heap.size (fun _ => True) v1_ r2 ∧ Below w.heap.size w w' := by
 have hu154 := Try.underlying154
 have hu25 := Try.underlying25
 have HR0_1 := Aside0.mk hr0_1
 have HC0_1 := Aside0.mk hc0_1
 clear hr0_1 hc0_1
 have HB := am (Below.refl w.heap.size w)
 have H : (matrix_table_column.l0 k a1 ([] : List Int) l0_1 (l0_1.length : Int) 0 a0_0 l0_1) = some (r1, r2) := h
 clear h
 have H' := Aside0.mk H
 clear H
 go_enter Try.func118, Try.ntmps118
 go_wp2_with (first | ((with_reducible refine gate_dst (N := 2) rfl ?_); refine box_event ?hg (N := 2) ?hd (cs := #[.int .i64 a0_0, .slice A0_1 l0_1.length c0_1]) (t := 154) ?hr ?_; (case hd => rfl); (case hg => rfl); (case hr => first | (go_simp; done) | (go_simp; rfl)); intro gb170 hg w3 hbox hb; have n0_ := am (below_step (pb HB) hb); have n1_ := am (hbox); have n2_ := am ((by rw [hg]; exact (below_size (pb HB)) : w.heap.size ≤ gb170)); have n3_ := am ((by rw [hg]; exact (below_size (pb HB)) : w.heap.size ≤ gb170)); clear HB; have HB := n0_; have BK170 := n1_; have GW170 := n2_; have GE170 := n3_; clear n0_ n1_ n2_ n3_ hb hbox hg) | ((with_reducible refine gate_dst (N := 4) rfl ?_); refine box_event ?hg (N := 4) ?hd (cs := #[.int .i64 0, .slice none 0 0]) (t := 25) ?hr ?_; (case hd => rfl); (case hg => rfl); (case hr => first | (go_simp; done) | (go_simp; rfl)); intro gb171 hg w4 hbox hb; have n0_ := bb BK170 hb; have n1_ := am (below_step (pb HB) hb); have n2_ := am (hbox); have n3_ := am ((by rw [hg]; exact (below_size (pb HB)) : w.heap.size ≤ gb171)); have n4_ := am ((by rw [hg]; exact (below_size (pb HB)) : w.heap.size ≤ gb171)); have n5_ := am ((by rw [hg]; exact Nat.ne_of_lt (bl BK170) : gb170 ≠ gb171)); have n6_ := am ((by rw [hg]; exact Nat.ne_of_gt (bl BK170) : gb171 ≠ gb170)); clear BK170 HB; have BK170 := n0_; have HB := n1_; have BK171 := n2_; have GW171 := n3_; have GE171 := n4_; have NB170_171 := n5_; have NB171_170 := n6_; clear n0_ n1_ n2_ n3_ n4_ n5_ n6_ hb hbox hg; have hnb5 := NB170_171.out; have hnc5 := NB171_170.out; have hcz6_0 : w4.cell? ⟨gb170, 0, none⟩ = some (.int .i64 a0_0) := (blk_cell BK170.out 0).trans rfl; have hcz6_1 : w4.cell? ⟨gb170, 1, none⟩ = some (.slice A0_1 l0_1.length c0_1) := (blk_cell BK170.out 1).trans rfl; have hfz6_0 := blk_frozen BK170.out 0; have hfz6_1 := blk_frozen BK170.out 1))
 go_loopg [5, 15] k (fun kq v5 v15 w' => ∃ (x5_1 : List Int) (x15_1 : Int), v15 = .int .i64 x15_1 ∧ Aside0 (matrix_table_column.l0 kq a1 x5_1 l0_1 (l0_1.length : Int) x15_1 a0_0 l0_1 = some (r1, r2)) ∧ Aside0 (kq ≤ k) ∧ Aside0 (Kd.R (Kd.int .i64) 3 w' w.heap.size (fun _ => True) v5 x5_1) ∧ Aside0 (w'.heap[gb170]? = some (.cells #[.int .i64 a0_0, (.slice A0_1 l0_1.length c0_1)] 154 (0, 0))) ∧ Aside0 (w'.heap[gb171]? = some (.cells #[.int .i64 0, (.slice none 0 0)] 25 (0, 0))) ∧ Aside0 (Below w.heap.size w w'))
 case atStart => exact ⟨(([] : List Int)), (0), (by first | rfl | (simp; done) | (simp [*]; done)), H', ⟨Nat.le_refl _⟩, ⟨by first | exact Kd.R_nil _ _ _ _ _ | exact Kd.N_nil _ _ _ _ _ | exact Kd.V_nil _ _ _ _ _ | exact Kd.Q_nil _ _ _ _ _ | exact Kd.S_nil _ _ _ _ _⟩, ⟨by (with_reducible repeat (first | refine blk_drewN ?_ _ | refine blk_drew ?_ | refine blk_alloc ?_ _)); exact BK170.out⟩, ⟨by (with_reducible repeat (first | refine blk_drewN ?_ _ | refine blk_drew ?_ | refine blk_alloc ?_ _)); exact BK171.out⟩, ⟨pb HB⟩⟩
 case round =>
  clear H'
  try clear c1
  try clear p2
  try clear c5
  try clear hcz6_0
  try clear hcz6_1
  try clear hfz6_0
  try clear hfz6_1
  obtain ⟨x5_1, x15_1, rfl, HA, HK1, HO_5, BK170, BK171, HB⟩ := hrel
  cases gk with
  | zero => exact absurd HA.out (by simp [matrix_table_column.l0])
  | succ k1 =>
   have H := HA.out
   clear HA
   simp only [matrix_table_column.l0] at H
   by_cases c7 : x15_1 < (l0_1.length : Int)
   ·
    rw [if_pos c7] at H
    have c7b0 : decide (x15_1 < (l0_1.length : Int)) = true := decide_eq_true c7
    clear c7
    by_cases c8 : 0 ≤ x15_1
    ·
     rw [if_pos c8] at H
     have c8b0 : decide (0 ≤ x15_1) = true := decide_eq_true c8
     clear c8
     by_cases c9 : x15_1 < (l0_1.length : Int)
     ·
      rw [if_pos c9] at H
      have c9b0 : decide (x15_1 < (l0_1.length : Int)) = true := decide_eq_true c9
      clear c9
      replace H := Option.bind_eq_some_iff.mp H
      obtain ⟨⟨t174, t175⟩, A100, H⟩ := H
      replace H : (if t174 = 1 then (if x5_1.length < 17592186044416 then (matrix_table_column.l0 k1 a1 (x5_1 ++ [x15_1]) l0_1 (l0_1.length : Int) (wrap64 (x15_1 + 1)) a0_0 l0_1) else (none)) else (matrix_table_column.l0 k1 a1 x5_1 l0_1 (l0_1.length : Int) (wrap64 (x15_1 + 1)) a0_0 l0_1)) = some (r1, r2) := H
      have A10 := Aside0.mk A100
      clear A100
      by_cases c11 : t174 = 1
      ·
       rw [if_pos c11] at H
       have c11b0 : (t174 == 1) = true := beq_iff_eq.mpr c11
       have c11b1 : (t174 != 1) = false := bne_eq_false_iff_eq.mpr c11
       clear c11
       by_cases c12 : x5_1.length < 17592186044416
       ·
        rw [if_pos c12] at H
        have LMc12 := Aside0.mk c12
        clear c12
        obtain ⟨y176, hy176⟩ : ∃ y_ : List Int, y_ = (x5_1 ++ [x15_1]) := ⟨_, rfl⟩
        replace H : (matrix_table_column.l0 k1 a1 y176 l0_1 (l0_1.length : Int) (wrap64 (x15_1 + 1)) a0_0 l0_1) = some (r1, r2) := by first | (rw [hy176]; with_reducible exact H) | (have H2_ := (Option.bind_some _ _).symm.trans H; rw [hy176]; with_reducible exact H2_) | (have H2_ := (Option.bind_some _ _).symm.trans H; with_reducible exact H2_) | with_reducible exact H | (rw [hy176]; exact H) | exact H
        have Ny176 := Aside0.mk hy176
        clear hy176
        have H' := Aside0.mk H
        clear H
        have p172 : 0 ≤ (x15_1 : Int) := of_decide_eq_true (by first | (with_reducible assumption) | assumption)
        have q172 : x15_1 < (l0_1.length : Int) := of_decide_eq_true (by first | (with_reducible assumption) | assumption)
        obtain ⟨ad172, A172_1, c172_1, e172, hx172_0, hx172_1, hl172_1, hi172_1⟩ := at_T25 HR0_1.out x15_1 p172 q172
        cases e172
        replace hx172_0 := (HB.out.cell (World.block_lt_of_cell? w _ hx172_0)).trans hx172_0
        replace hx172_1 := (HB.out.cell (World.block_lt_of_cell? w _ hx172_1)).trans hx172_1
        have HR172_1 := Aside0.mk hi172_1
        have HC172_1 := Aside0.mk hl172_1
        clear hi172_1 hl172_1
        replace p172 := eq_true p172
        replace q172 := eq_true q172
        go_wp2_with (first | ((with_reducible refine gate_dst (N := 7) rfl ?_); refine box_event ?hg (N := 7) ?hd (cs := #[.int .i64 0, .slice none 0 0]) (t := 25) ?hr ?_; (case hd => rfl); (case hg => rfl); (case hr => first | (go_simp; done) | (go_simp; rfl)); intro gb173 hg w13 hbox hb; have n0_ := am (Kd.R_below (pr HO_5) hb); have n1_ := bb BK170 hb; have n2_ := bb BK171 hb; have n3_ := am (below_step (pb HB) hb); have n4_ := am (hbox); have n5_ := am ((by rw [hg]; exact (below_size (pb HB)) : w.heap.size ≤ gb173)); have n6_ := am ((by rw [hg]; exact (below_size (pb HB)) : w.heap.size ≤ gb173)); have n7_ := am ((by rw [hg]; exact Nat.ne_of_lt (bl BK170) : gb170 ≠ gb173)); have n8_ := am ((by rw [hg]; exact Nat.ne_of_gt (bl BK170) : gb173 ≠ gb170)); have n9_ := am ((by rw [hg]; exact Nat.ne_of_lt (bl BK171) : gb171 ≠ gb173)); have n10_ := am ((by rw [hg]; exact Nat.ne_of_gt (bl BK171) : gb173 ≠ gb171)); clear HO_5 BK170 BK171 HB; have HO_5 := n0_; have BK170 := n1_; have BK171 := n2_; have HB := n3_; have BK173 := n4_; have GW173 := n5_; have GE173 := n6_; have NB170_173 := n7_; have NB173_170 := n8_; have NB171_173 := n9_; have NB173_171 := n10_; clear n0_ n1_ n2_ n3_ n4_ n5_ n6_ n7_ n8_ n9_ n10_ hb hbox hg; have hnb14 := NB173_170.out; have hnc14 := NB170_173.out; have hnb15 := NB173_171.out; have hnc15 := NB171_173.out; have hcz16_0 : w13.cell? ⟨gb173, 0, none⟩ = some (.int .i64 0) := (blk_cell BK173.out 0).trans rfl; have hcz16_1 : w13.cell? ⟨gb173, 1, none⟩ = some (.slice none 0 0) := (blk_cell BK173.out 1).trans rfl; have hfz16_0 := blk_frozen BK173.out 0; have hfz16_1 := blk_frozen BK173.out 1) | ((with_reducible refine gate_callee (f := 176) rfl ?_); refine goesL_ (some 23) rfl rfl Try.func176 (by kernel_rfl) rfl #[.agg #[.int .i64 ((rd_T25 l0_1 x15_1).f0), .slice A172_1 ((rd_T25 l0_1 x15_1).f1).length c172_1], .int .i64 a1] rfl (by (try simp only [List.map_toArray, List.map_cons, List.map_nil]); first | done | rfl | (simp only [List.length_drop, List.length_take]; rfl)) ?_; (with_reducible refine (bitrow_Get.calls ((rd_T25 l0_1 x15_1).f0) _ _ ((rd_T25 l0_1 x15_1).f1) a1 t174 t175 _ ?side1 ?side2 A10.out).mono ?_); (case side1 => exact Kd.C_below HR172_1.out (pb HB)); (case side2 => exact HC172_1.out); rintro e w17 ⟨rfl, hb⟩; refine ⟨_, rfl, ?_⟩; have n0_ := am (Kd.R_below (by (with_reducible repeat (first | apply Kd.R_alloc | apply Kd.R_drewN | apply Kd.R_drew)); exact (Kd.R_mono (Kd.R_far (p := ⟨gb173, 1, none⟩) (Kd.R_far (p := ⟨gb173, 0, none⟩) (Kd.R_types HO_5.out BK173.out (by decide)) (fun _ hk => hk.2) (.int .i64 ((rd_T25 l0_1 x15_1).f0))) (fun _ hk => hk.2) (.slice A172_1 ((rd_T25 l0_1 x15_1).f1).length c172_1)) (fun _ h_ => h_.1))) hb); have n1_ := am (blk_below (g := gb170) (o := .cells #[.int .i64 a0_0, .slice (some ad172) l0_1.length c0_1] 154 (0, 0)) (by (with_reducible repeat (first | refine blk_drewN ?_ _ | refine blk_drew ?_ | refine blk_alloc ?_ _)); refine blk_far ?_ NB170_173.out _; (with_reducible repeat (first | refine blk_drewN ?_ _ | refine blk_drew ?_ | refine blk_alloc ?_ _)); refine blk_far ?_ NB170_173.out _; (with_reducible repeat (first | refine blk_drewN ?_ _ | refine blk_drew ?_ | refine blk_alloc ?_ _)); exact BK170.out) hb); have n2_ := am (blk_below (g := gb171) (o := .cells #[.int .i64 0, .slice none 0 0] 25 (0, 0)) (by (with_reducible repeat (first | refine blk_drewN ?_ _ | refine blk_drew ?_ | refine blk_alloc ?_ _)); refine blk_far ?_ NB171_173.out _; (with_reducible repeat (first | refine blk_drewN ?_ _ | refine blk_drew ?_ | refine blk_alloc ?_ _)); refine blk_far ?_ NB171_173.out _; (with_reducible repeat (first | refine blk_drewN ?_ _ | refine blk_drew ?_ | refine blk_alloc ?_ _)); exact BK171.out) hb); have n3_ := am (blk_below (g := gb173) (o := .cells #[.int .i64 ((rd_T25 l0_1 x15_1).f0), .slice A172_1 ((rd_T25 l0_1 x15_1).f1).length c172_1] 25 (0, 0)) (by (with_reducible repeat (first | refine blk_drewN ?_ _ | refine blk_drew ?_ | refine blk_alloc ?_ _)); refine blk_put (cs := #[.int .i64 ((rd_T25 l0_1 x15_1).f0), .slice none 0 0]) ?_ 1 _ rfl; (with_reducible repeat (first | refine blk_drewN ?_ _ | refine blk_drew ?_ | refine blk_alloc ?_ _)); refine blk_put (cs := #[.int .i64 0, .slice none 0 0]) ?_ 0 _ rfl; (with_reducible repeat (first | refine blk_drewN ?_ _ | refine blk_drew ?_ | refine blk_alloc ?_ _)); exact BK173.out) hb); have n4_ := am (below_step (pb HB) hb); clear HO_5 BK170 BK171 BK173 HB; have HO_5 := n0_; have BK170 := n1_; have BK171 := n2_; have BK173 := n3_; have HB := n4_; clear n0_ n1_ n2_ n3_ n4_; (try clear hb); (try clear hb2); (try clear hk); (try clear hi)) | ((with_reducible refine gate_builtin (b := .append) (xs := #[.tmp 28, .tmp 30]) rfl ?_); at_builtin; refine Kd.R_append (Kd.int .i64) (w0 := w) w.heap.size rfl (.tmp 28) (.tmp 30) 22 3 (.int .i64 0) 8 rfl Try.underlying22 info3 rfl (by decide) (by omega) u5 x5_1 x15_1 [.int .i64 x15_1] (fun _ => True) (fun _ => False) rfl rfl ?aP (fun _ hk => hk.elim) ?aF ?aO ?aB ?aS ?aL ?_; (case aP => exact rfl); (case aB => exact (pb HB)); (case aF => exact (fun _ _ => trivial)); (case aO => exact (pr HO_5)); (case aS => exact (below_size (pb HB))); (case aL => have := LMc12.out; omega); intro v177 w18 ho hb hg hat; rw [← Ny176.out] at ho; have n0_ := am (blk_grown (g := gb170) (o := .cells #[.int .i64 a0_0, .slice (some ad172) l0_1.length c0_1] 154 (0, 0)) (pk BK170) hg (Kd.R_ne HO_5.out BK170.out (by decide))); have n1_ := am (blk_grown (g := gb171) (o := .cells #[.int .i64 0, .slice none 0 0] 25 (0, 0)) (pk BK171) hg (Kd.R_ne HO_5.out BK171.out (by decide))); have n2_ := am (blk_grown (g := gb173) (o := .cells #[.int .i64 ((rd_T25 l0_1 x15_1).f0), .slice A172_1 ((rd_T25 l0_1 x15_1).f1).length c172_1] 25 (0, 0)) (pk BK173) hg (Kd.R_ne HO_5.out BK173.out (by decide))); have n3_ := am (hb); have n4_ := am (ho); clear BK170 BK171 BK173 HB HO_5; have BK170 := n0_; have BK171 := n1_; have BK173 := n2_; have HB := n3_; have HO178 := n4_; clear n0_ n1_ n2_ n3_ n4_ ho hb hg hat))
        go_roundg k1
        case measure => have := HK1.out; omega
        case rel => exact ⟨(y176), (wrap64 (x15_1 + 1)), (by first | rfl | (simp; done) | (simp [*]; done)), H', ⟨by have := HK1.out; omega⟩, ⟨by (with_reducible repeat (first | apply Kd.R_alloc | apply Kd.R_drewN | apply Kd.R_drew)); exact HO178.out⟩, ⟨by (with_reducible repeat (first | refine blk_drewN ?_ _ | refine blk_drew ?_ | refine blk_alloc ?_ _)); exact BK170.out⟩, ⟨by (with_reducible repeat (first | refine blk_drewN ?_ _ | refine blk_drew ?_ | refine blk_alloc ?_ _)); exact BK171.out⟩, ⟨pb HB⟩⟩
       ·
        rw [if_neg c12] at H
        exact absurd H (by simp)
      ·
       rw [if_neg c11] at H
       have c11b0 : (t174 == 1) = false := beq_eq_false_iff_ne.mpr c11
       have c11b1 : (t174 != 1) = true := bne_iff_ne.mpr c11
       have H' := Aside0.mk H
       clear H
       have p172 : 0 ≤ (x15_1 : Int) := of_decide_eq_true (by first | (with_reducible assumption) | assumption)
       have q172 : x15_1 < (l0_1.length : Int) := of_decide_eq_true (by first | (with_reducible assumption) | assumption)
       obtain ⟨ad172, A172_1, c172_1, e172, hx172_0, hx172_1, hl172_1, hi172_1⟩ := at_T25 HR0_1.out x15_1 p172 q172
       cases e172
       replace hx172_0 := (HB.out.cell (World.block_lt_of_cell? w _ hx172_0)).trans hx172_0
       replace hx172_1 := (HB.out.cell (World.block_lt_of_cell? w _ hx172_1)).trans hx172_1
       have HR172_1 := Aside0.mk hi172_1
       have HC172_1 := Aside0.mk hl172_1
       clear hi172_1 hl172_1
       replace p172 := eq_true p172
       replace q172 := eq_true q172
       go_wp2_with (first | ((with_reducible refine gate_dst (N := 7) rfl ?_); refine box_event ?hg (N := 7) ?hd (cs := #[.int .i64 0, .slice none 0 0]) (t := 25) ?hr ?_; (case hd => rfl); (case hg => rfl); (case hr => first | (go_simp; done) | (go_simp; rfl)); intro gb173 hg w19 hbox hb; have n0_ := am (Kd.R_below (pr HO_5) hb); have n1_ := bb BK170 hb; have n2_ := bb BK171 hb; have n3_ := am (below_step (pb HB) hb); have n4_ := am (hbox); have n5_ := am ((by rw [hg]; exact (below_size (pb HB)) : w.heap.size ≤ gb173)); have n6_ := am ((by rw [hg]; exact (below_size (pb HB)) : w.heap.size ≤ gb173)); have n7_ := am ((by rw [hg]; exact Nat.ne_of_lt (bl BK170) : gb170 ≠ gb173)); have n8_ := am ((by rw [hg]; exact Nat.ne_of_gt (bl BK170) : gb173 ≠ gb170)); have n9_ := am ((by rw [hg]; exact Nat.ne_of_lt (bl BK171) : gb171 ≠ gb173)); have n10_ := am ((by rw [hg]; exact Nat.ne_of_gt (bl BK171) : gb173 ≠ gb171)); clear HO_5 BK170 BK171 HB; have HO_5 := n0_; have BK170 := n1_; have BK171 := n2_; have HB := n3_; have BK173 := n4_; have GW173 := n5_; have GE173 := n6_; have NB170_173 := n7_; have NB173_170 := n8_; have NB171_173 := n9_; have NB173_171 := n10_; clear n0_ n1_ n2_ n3_ n4_ n5_ n6_ n7_ n8_ n9_ n10_ hb hbox hg; have hnb20 := NB173_170.out; have hnc20 := NB170_173.out; have hnb21 := NB173_171.out; have hnc21 := NB171_173.out; have hcz22_0 : w19.cell? ⟨gb173, 0, none⟩ = some (.int .i64 0) := (blk_cell BK173.out 0).trans rfl; have hcz22_1 : w19.cell? ⟨gb173, 1, none⟩ = some (.slice none 0 0) := (blk_cell BK173.out 1).trans rfl; have hfz22_0 := blk_frozen BK173.out 0; have hfz22_1 := blk_frozen BK173.out 1) | ((with_reducible refine gate_callee (f := 176) rfl ?_); refine goesL_ (some 23) rfl rfl Try.func176 (by kernel_rfl) rfl #[.agg #[.int .i64 ((rd_T25 l0_1 x15_1).f0), .slice A172_1 ((rd_T25 l0_1 x15_1).f1).length c172_1], .int .i64 a1] rfl (by (try simp only [List.map_toArray, List.map_cons, List.map_nil]); first | done | rfl | (simp only [List.length_drop, List.length_take]; rfl)) ?_; (with_reducible refine (bitrow_Get.calls ((rd_T25 l0_1 x15_1).f0) _ _ ((rd_T25 l0_1 x15_1).f1) a1 t174 t175 _ ?side1 ?side2 A10.out).mono ?_); (case side1 => exact Kd.C_below HR172_1.out (pb HB)); (case side2 => exact HC172_1.out); rintro e w23 ⟨rfl, hb⟩; refine ⟨_, rfl, ?_⟩; have n0_ := am (Kd.R_below (by (with_reducible repeat (first | apply Kd.R_alloc | apply Kd.R_drewN | apply Kd.R_drew)); exact (Kd.R_mono (Kd.R_far (p := ⟨gb173, 1, none⟩) (Kd.R_far (p := ⟨gb173, 0, none⟩) (Kd.R_types HO_5.out BK173.out (by decide)) (fun _ hk => hk.2) (.int .i64 ((rd_T25 l0_1 x15_1).f0))) (fun _ hk => hk.2) (.slice A172_1 ((rd_T25 l0_1 x15_1).f1).length c172_1)) (fun _ h_ => h_.1))) hb); have n1_ := am (blk_below (g := gb170) (o := .cells #[.int .i64 a0_0, .slice (some ad172) l0_1.length c0_1] 154 (0, 0)) (by (with_reducible repeat (first | refine blk_drewN ?_ _ | refine blk_drew ?_ | refine blk_alloc ?_ _)); refine blk_far ?_ NB170_173.out _; (with_reducible repeat (first | refine blk_drewN ?_ _ | refine blk_drew ?_ | refine blk_alloc ?_ _)); refine blk_far ?_ NB170_173.out _; (with_reducible repeat (first | refine blk_drewN ?_ _ | refine blk_drew ?_ | refine blk_alloc ?_ _)); exact BK170.out) hb); have n2_ := am (blk_below (g := gb171) (o := .cells #[.int .i64 0, .slice none 0 0] 25 (0, 0)) (by (with_reducible repeat (first | refine blk_drewN ?_ _ | refine blk_drew ?_ | refine blk_alloc ?_ _)); refine blk_far ?_ NB171_173.out _; (with_reducible repeat (first | refine blk_drewN ?_ _ | refine blk_drew ?_ | refine blk_alloc ?_ _)); refine blk_far ?_ NB171_173.out _; (with_reducible repeat (first | refine blk_drewN ?_ _ | refine blk_drew ?_ | refine blk_alloc ?_ _)); exact BK171.out) hb); have n3_ := am (blk_below (g := gb173) (o := .cells #[.int .i64 ((rd_T25 l0_1 x15_1).f0), .slice A172_1 ((rd_T25 l0_1 x15_1).f1).length c172_1] 25 (0, 0)) (by (with_reducible repeat (first | refine blk_drewN ?_ _ | refine blk_drew ?_ | refine blk_alloc ?_ _)); refine blk_put (cs := #[.int .i64 ((rd_T25 l0_1 x15_1).f0), .slice none 0 0]) ?_ 1 _ rfl; (with_reducible repeat (first | refine blk_drewN ?_ _ | refine blk_drew ?_ | refine blk_alloc ?_ _)); refine blk_put (cs := #[.int .i64 0, .slice none 0 0]) ?_ 0 _ rfl; (with_reducible repeat (first | refine blk_drewN ?_ _ | refine blk_drew ?_ | refine blk_alloc ?_ _)); exact BK173.out) hb); have n4_ := am (below_step (pb HB) hb); clear HO_5 BK170 BK171 BK173 HB; have HO_5 := n0_; have BK170 := n1_; have BK171 := n2_; have BK173 := n3_; have HB := n4_; clear n0_ n1_ n2_ n3_ n4_; (try clear hb); (try clear hb2); (try clear hk); (try clear hi)))
       go_roundg k1
       case measure => have := HK1.out; omega
       case rel => exact ⟨(x5_1), (wrap64 (x15_1 + 1)), (by first | rfl | (simp; done) | (simp [*]; done)), H', ⟨by have := HK1.out; omega⟩, ⟨by (with_reducible repeat (first | apply Kd.R_alloc | apply Kd.R_drewN | apply Kd.R_drew)); exact HO_5.out⟩, ⟨by (with_reducible repeat (first | refine blk_drewN ?_ _ | refine blk_drew ?_ | refine blk_alloc ?_ _)); exact BK170.out⟩, ⟨by (with_reducible repeat (first | refine blk_drewN ?_ _ | refine blk_drew ?_ | refine blk_alloc ?_ _)); exact BK171.out⟩, ⟨pb HB⟩⟩
     ·
      rw [if_neg c9] at H
      exact absurd H (by simp)
    ·
     rw [if_neg c8] at H
     exact absurd H (by simp)
   ·
    rw [if_neg c7] at H
    have c7b0 : decide (x15_1 < (l0_1.length : Int)) = false := decide_eq_false c7
    clear c7
    replace H := Option.bind_eq_some_iff.mp H
    obtain ⟨⟨t179, t180, t183⟩, A240, H⟩ := H
    replace H : (some (t179, t180)) = some (r1, r2) := H
    have A24 := Aside0.mk A240
    clear A240
    simp only [Option.some.injEq, Prod.mk.injEq] at H
    obtain ⟨rfl, rfl⟩ := H
    have hnb25 := NB170_171.out
    have hnc25 := NB171_170.out
    have hcz26_0 : wr.cell? ⟨gb170, 0, none⟩ = some (.int .i64 a0_0) := (blk_cell BK170.out 0).trans rfl
    have hcz26_1 : wr.cell? ⟨gb170, 1, none⟩ = some (.slice A0_1 l0_1.length c0_1) := (blk_cell BK170.out 1).trans rfl
    have hfz26_0 := blk_frozen BK170.out 0
    have hfz26_1 := blk_frozen BK170.out 1
    obtain ⟨Ao27, co27, eo27⟩ := Kd.R_slice HO_5.out
    subst eo27
    go_wp2_with (first | ((with_reducible refine gate_callee (f := 21) rfl ?_); refine goesL_ (some 38) rfl rfl Try.func21 (by kernel_rfl) rfl #[.int .i64 (l0_1.length : Int), .slice Ao27 x5_1.length co27] rfl (by (try simp only [List.map_toArray, List.map_cons, List.map_nil]); first | done | rfl | (simp only [List.length_drop, List.length_take]; rfl)) ?_; (with_reducible refine (bitrow_Of.calls k1 (l0_1.length : Int) _ _ x5_1 t179 t180 t183 _ ?side1 ?side2 A24.out).mono ?_); (case side1 => repeat (first | exact (Kd.R_reads' HO_5.out).2.2 | (with_reducible refine Kd.C_alloc ?_ _) | (with_reducible refine Kd.C_drewN ?_ _) | (with_reducible refine Kd.C_drew ?_))); (case side2 => exact (Kd.R_reads' HO_5.out).2.1); rintro e w28 ⟨v181, rfl, ho0, hb⟩; refine ⟨_, rfl, ?_⟩; have n0_ := am (Kd.R_below (pr HO_5) hb); have n1_ := am (Kd.R_lower ho0 (below_size (pb HB))); have n2_ := bb BK170 hb; have n3_ := bb BK171 hb; have n4_ := am (below_step (pb HB) hb); clear HO_5 BK170 BK171 HB; have HO_5 := n0_; have HO182 := n1_; have BK170 := n2_; have BK171 := n3_; have HB := n4_; clear n0_ n1_ n2_ n3_ n4_; (try clear hb); (try clear hb2); (try clear hk); (try clear hi); (try clear ho0)) | ((with_reducible refine gate_dst (N := 10) rfl ?_); refine box_event ?hg (N := 10) ?hd (cs := #[.int .i64 0, .slice none 0 0]) (t := 25) ?hr ?_; (case hd => rfl); (case hg => rfl); (case hr => first | (go_simp; done) | (go_simp; rfl)); intro gb184 hg w29 hbox hb; have n0_ := am (Kd.R_below (pr HO_5) hb); have n1_ := am (Kd.R_below (pr HO182) hb); have n2_ := bb BK170 hb; have n3_ := bb BK171 hb; have n4_ := am (below_step (pb HB) hb); have n5_ := am (hbox); have n6_ := am ((by rw [hg]; exact (below_size (pb HB)) : w.heap.size ≤ gb184)); have n7_ := am ((by rw [hg]; exact (below_size (pb HB)) : w.heap.size ≤ gb184)); have n8_ := am ((by rw [hg]; exact Nat.ne_of_lt (bl BK170) : gb170 ≠ gb184)); have n9_ := am ((by rw [hg]; exact Nat.ne_of_gt (bl BK170) : gb184 ≠ gb170)); have n10_ := am ((by rw [hg]; exact Nat.ne_of_lt (bl BK171) : gb171 ≠ gb184)); have n11_ := am ((by rw [hg]; exact Nat.ne_of_gt (bl BK171) : gb184 ≠ gb171)); clear HO_5 HO182 BK170 BK171 HB; have HO_5 := n0_; have HO182 := n1_; have BK170 := n2_; have BK171 := n3_; have HB := n4_; have BK184 := n5_; have GW184 := n6_; have GE184 := n7_; have NB170_184 := n8_; have NB184_170 := n9_; have NB171_184 := n10_; have NB184_171 := n11_; clear n0_ n1_ n2_ n3_ n4_ n5_ n6_ n7_ n8_ n9_ n10_ n11_ hb hbox hg; have hnb30 := NB184_170.out; have hnc30 := NB170_184.out; have hnb31 := NB184_171.out; have hnc31 := NB171_184.out; have hcz32_0 : w29.cell? ⟨gb184, 0, none⟩ = some (.int .i64 0) := (blk_cell BK184.out 0).trans rfl; have hcz32_1 : w29.cell? ⟨gb184, 1, none⟩ = some (.slice none 0 0) := (blk_cell BK184.out 1).trans rfl; have hfz32_0 := blk_frozen BK184.out 0; have hfz32_1 := blk_frozen BK184.out 1; obtain ⟨Ao33, co33, eo33⟩ := Kd.R_slice HO182.out; subst eo33; have hcz34_0 : w29.cell? ⟨gb171, 0, none⟩ = some (.int .i64 0) := (blk_cell BK171.out 0).trans rfl; have hcz34_1 : w29.cell? ⟨gb171, 1, none⟩ = some (.slice none 0 0) := (blk_cell BK171.out 1).trans rfl; have hfz34_0 := blk_frozen BK171.out 0; have hfz34_1 := blk_frozen BK171.out 1))
    refine bodyPost_ret (results_cell_row rfl _ _ gb171 25 #[.int .i64 t179, .slice Ao33 t180.length co33] (0, 0) _ rfl (by (with_reducible repeat (first | refine blk_drewN ?_ _ | refine blk_drew ?_ | refine blk_alloc ?_ _)); refine blk_put (cs := #[.int .i64 t179, .slice none 0 0]) ?_ 1 _ rfl; (with_reducible repeat (first | refine blk_drewN ?_ _ | refine blk_drew ?_ | refine blk_alloc ?_ _)); refine blk_put (cs := #[.int .i64 0, .slice none 0 0]) ?_ 0 _ rfl; (with_reducible repeat (first | refine blk_drewN ?_ _ | refine blk_drew ?_ | refine blk_alloc ?_ _)); refine blk_far ?_ NB171_184.out _; (with_reducible repeat (first | refine blk_drewN ?_ _ | refine blk_drew ?_ | refine blk_alloc ?_ _)); refine blk_far ?_ NB171_184.out _; (with_reducible repeat (first | refine blk_drewN ?_ _ | refine blk_drew ?_ | refine blk_alloc ?_ _)); exact BK171.out) Try.underlying25 rfl (by kernel_rfl)) rfl ?_
    exact ⟨_, by first | rfl | (simp [errW_none, errW_some] <;> rfl) | (simp [*, errW_none, errW_some] <;> rfl), by (with_reducible repeat (first | apply Kd.R_alloc | apply Kd.R_drewN | apply Kd.R_drew)); exact Kd.R_mono (Kd.R_far (p := ⟨gb171, 1, none⟩) (Kd.R_far (p := ⟨gb171, 0, none⟩) (Kd.R_far (p := ⟨gb184, 1, none⟩) (Kd.R_far (p := ⟨gb184, 0, none⟩) (Kd.R_types (Kd.R_types HO182.out BK184.out (by decide)) BK171.out (by decide)) (fun _ hk => hk.1.2) (.int .i64 t179)) (fun _ hk => hk.1.2) (.slice Ao33 t180.length co33)) (fun _ hk => hk.2) (.int .i64 t179)) (fun _ hk => hk.2) (.slice Ao33 t180.length co33)) (fun _ hk => trivial), pb HB⟩

/-! ### matrix_Turn_1: function 121 -/
def matrix_Turn_1.f (k : Nat) (a0 : Int) (a1_0 : Unit) (a2_0 : Int) (l2_1 : List (S25)) : Option (Int × List Int) := (matrix_table_column.f k a2_0 l2_1 a0).bind fun bt188 => (some (bt188.1, bt188.2))
theorem matrix_Turn_1.mono : ∀ a0 a1 a2 a3 k, LeO (matrix_Turn_1.f k a0 a1 a2 a3) (matrix_Turn_1.f (k + 1) a0 a1 a2 a3) := by
 intro a0 a1 a2 a3 k
 unfold matrix_Turn_1.f
 repeat' first
   | (with_reducible exact matrix_table_column.mono _ _ _ _)
   | (with_reducible exact LeO.refl _)
   | (with_reducible exact LeO.none _)
   | (with_reducible refine LeO.ite ?_ ?_)
   | (with_reducible refine LeO.bind ?_ (fun _ => ?_))
   | exact matrix_table_column.mono _ _ _ _
   | exact LeO.none _
   | refine LeO.ite ?_ ?_
   | refine LeO.bind ?_ (fun _ => ?_)
set_option maxHeartbeats 8000000 in
set_option maxRecDepth 100000 in
theorem matrix_Turn_1.calls (k : Nat) (a0 : Int) (gb1_ : Nat) (a1_0 : Unit) (gb2_ : Nat) (a2_0 : Int) (A2_1 : Option Addr) (c2_1 : Nat) (l2_1 : List (S25)) (r1 : Int) (r2 : List Int) (w : World) (hb1_ : w.heap[gb1_]? = some (.cells #[.func (.func 118) #[] #[]] 153 (0, 0))) (hb2_ : w.heap[gb2_]? = some (.cells #[.int .i64 a2_0, .slice A2_1 l2_1.length c2_1] 42 (0, 0))) (hr2_1 : Kd.C k25 w A2_1 l2_1.length l2_1) (hc2_1 : l2_1.length ≤ c2_1) (h : matrix_Turn_1.f k a0 a1_0 a2_0 l2_1 = some (r1, r2)) :
  Calls Try.prog 121 #[.int .i64 a0, .pointer (some ⟨gb1_, 0, none⟩), .pointer (some ⟨gb2_, 0, none⟩)] w fun e w' => ∃ v1_ : Value, e = .returned (.agg #[.int .i64 r1, v1_]) ∧ Kd.R (Kd.int .u64) 59 w' w.heap.size (fun _ => True) v1_ r2 ∧ Below w.heap.size w w' := by
 have hu25 := Try.underlying25
 have hu42 := Try.underlying42
 have HR2_1 := Aside0.mk hr2_1
 have HC2_1 := Aside0.mk hc2_1
 clear hr2_1 hc2_1
 have BK185 := Aside0.mk hb1_
 clear hb1_
 have BK186 := Aside0.mk hb2_
 clear hb2_
 have HB := am (Below.refl w.heap.size w)
 have H : ((matrix_table_column.f k a2_0 l2_1 a0).bind fun bt188 => (some (bt188.1, bt188.2))) = some (r1, r2) := h
 clear h
 replace H := Option.bind_eq_some_iff.mp H
 obtain ⟨⟨t188, t189⟩, A40, H⟩ := H
 replace H : (some (t188, t189)) = some (r1, r2) := H
 have A4 := Aside0.mk A40
 clear A40
 simp only [Option.some.injEq, Prod.mk.injEq] at H
 obtain ⟨rfl, rfl⟩ := H
 go_enter Try.func121, Try.ntmps121
 go_wp2_with (first | ((with_reducible refine gate_dst (N := 4) rfl ?_); refine box_event ?hg (N := 4) ?hd (cs := #[.int .i64 0, .slice none 0 0]) (t := 25) ?hr ?_; (case hd => rfl); (case hg => rfl); (case hr => first | (go_simp; done) | (go_simp; rfl)); intro gb187 hg w5 hbox hb; have n0_ := am (blk_below (g := gb1_) (o := .cells #[.func (.func 118) #[] #[]] 153 (0, 0)) (pk BK185) hb); have n1_ := am (blk_below (g := gb2_) (o := .cells #[.int .i64 a2_0, .slice A2_1 l2_1.length c2_1] 42 (0, 0)) (pk BK186) hb); have n2_ := am (below_step (pb HB) hb); have n3_ := am (hbox); have n4_ := am ((by rw [hg]; exact (below_size (pb HB)) : w.heap.size ≤ gb187)); have n5_ := am ((by rw [hg]; exact (below_size (pb HB)) : w.heap.size ≤ gb187)); have n6_ := am ((by rw [hg]; exact Nat.ne_of_lt (blk_lt (g := gb1_) (o := .cells #[.func (.func 118) #[] #[]] 153 (0, 0)) (pk BK185)) : gb1_ ≠ gb187)); have n7_ := am ((by rw [hg]; exact Nat.ne_of_gt (blk_lt (g := gb1_) (o := .cells #[.func (.func 118) #[] #[]] 153 (0, 0)) (pk BK185)) : gb187 ≠ gb1_)); have n8_ := am ((by rw [hg]; exact Nat.ne_of_lt (blk_lt (g := gb2_) (o := .cells #[.int .i64 a2_0, .slice A2_1 l2_1.length c2_1] 42 (0, 0)) (pk BK186)) : gb2_ ≠ gb187)); have n9_ := am ((by rw [hg]; exact Nat.ne_of_gt (blk_lt (g := gb2_) (o := .cells #[.int .i64 a2_0, .slice A2_1 l2_1.length c2_1] 42 (0, 0)) (pk BK186)) : gb187 ≠ gb2_)); clear BK185 BK186 HB; have BK185 := n0_; have BK186 := n1_; have HB := n2_; have BK187 := n3_; have GW187 := n4_; have GE187 := n5_; have NB185_187 := n6_; have NB187_185 := n7_; have NB186_187 := n8_; have NB187_186 := n9_; clear n0_ n1_ n2_ n3_ n4_ n5_ n6_ n7_ n8_ n9_ hb hbox hg; have hnb6 := NB185_187.out; have hnc6 := NB187_185.out; have hcz7_0 : w5.cell? ⟨gb1_, 0, none⟩ = some (.func (.func 118) #[] #[]) := (blk_cell BK185.out 0).trans rfl; have hfz7_0 := blk_frozen BK185.out 0; have hnb8 := NB186_187.out; have hnc8 := NB187_186.out; have hcz9_0 : w5.cell? ⟨gb2_, 0, none⟩ = some (.int .i64 a2_0) := (blk_cell BK186.out 0).trans rfl; have hcz9_1 : w5.cell? ⟨gb2_, 1, none⟩ = some (.slice A2_1 l2_1.length c2_1) := (blk_cell BK186.out 1).trans rfl; have hfz9_0 := blk_frozen BK186.out 0; have hfz9_1 := blk_frozen BK186.out 1) | ((with_reducible refine gate_calleeT (t := 5) rfl ?_); refine goesLT_ 5 (some 8) rfl rfl Try.func118 (by kernel_rfl) rfl #[.agg #[.int .i64 a2_0, .slice A2_1 l2_1.length c2_1], .int .i64 a0] #[] #[.agg #[.int .i64 a2_0, .slice A2_1 l2_1.length c2_1], .int .i64 a0] rfl (by rfl) (by (try simp only [List.map_toArray, List.map_cons, List.map_nil]); first | done | rfl | (simp only [List.length_drop, List.length_take]; rfl)) (by rfl) ?_; (with_reducible refine (matrix_table_column.calls k a2_0 _ _ l2_1 a0 t188 t189 _ ?side1 ?side2 A4.out).mono ?_); (case side1 => repeat (first | exact (Kd.C_below HR2_1.out HB.out) | (with_reducible refine Kd.C_alloc ?_ _) | (with_reducible refine Kd.C_drewN ?_ _) | (with_reducible refine Kd.C_drew ?_))); (case side2 => exact HC2_1.out); rintro e w10 ⟨v190, rfl, ho0, hb⟩; refine ⟨_, rfl, ?_⟩; have n0_ := am (Kd.R_lower ho0 (below_size (pb HB))); have n1_ := am (blk_below (g := gb1_) (o := .cells #[.func (.func 118) #[] #[]] 153 (0, 0)) (pk BK185) hb); have n2_ := am (blk_below (g := gb2_) (o := .cells #[.int .i64 a2_0, .slice A2_1 l2_1.length c2_1] 42 (0, 0)) (pk BK186) hb); have n3_ := bb BK187 hb; have n4_ := am (below_step (pb HB) hb); clear BK185 BK186 BK187 HB; have HO191 := n0_; have BK185 := n1_; have BK186 := n2_; have BK187 := n3_; have HB := n4_; clear n0_ n1_ n2_ n3_ n4_; (try clear hb); (try clear hb2); (try clear hk); (try clear hi); (try clear ho0); have hcz11_0 : w10.cell? ⟨gb187, 0, none⟩ = some (.int .i64 0) := (blk_cell BK187.out 0).trans rfl; have hcz11_1 : w10.cell? ⟨gb187, 1, none⟩ = some (.slice none 0 0) := (blk_cell BK187.out 1).trans rfl; have hfz11_0 := blk_frozen BK187.out 0; have hfz11_1 := blk_frozen BK187.out 1; obtain ⟨Ao12, co12, eo12⟩ := Kd.R_slice HO191.out; subst eo12))
 refine bodyPost_ret (results_cell_row rfl _ _ gb187 25 #[.int .i64 t188, .slice Ao12 t189.length co12] (0, 0) _ rfl (by (with_reducible repeat (first | refine blk_drewN ?_ _ | refine blk_drew ?_ | refine blk_alloc ?_ _)); refine blk_put (cs := #[.int .i64 t188, .slice none 0 0]) ?_ 1 _ rfl; (with_reducible repeat (first | refine blk_drewN ?_ _ | refine blk_drew ?_ | refine blk_alloc ?_ _)); refine blk_put (cs := #[.int .i64 0, .slice none 0 0]) ?_ 0 _ rfl; (with_reducible repeat (first | refine blk_drewN ?_ _ | refine blk_drew ?_ | refine blk_alloc ?_ _)); exact BK187.out) Try.underlying25 rfl (by kernel_rfl)) rfl ?_
 exact ⟨_, by first | rfl | (simp [errW_none, errW_some] <;> rfl) | (simp [*, errW_none, errW_some] <;> rfl), by (with_reducible repeat (first | apply Kd.R_alloc | apply Kd.R_drewN | apply Kd.R_drew)); exact Kd.R_mono (Kd.R_far (p := ⟨gb187, 1, none⟩) (Kd.R_far (p := ⟨gb187, 0, none⟩) (Kd.R_types HO191.out BK187.out (by decide)) (fun _ hk => hk.2) (.int .i64 t188)) (fun _ hk => hk.2) (.slice Ao12 t189.length co12)) (fun _ hk => trivial), pb HB⟩

/-! ### matrix_each_int_121: function 119 -/
def matrix_each_int_121.l0 : Nat → List Int → Int → Int → Unit → Int → List (S25) → Int → List (S25) → Option (Int × (List (S25)))
 | 0, _, _, _, _, _, _, _, _ => none
 | k + 1, x12, x13, x14, x193000, x194000, x194001, x196000, x196001 => if x14 < x13 then (if 0 ≤ x14 then (if x14 < (x12.length : Int) then ((matrix_Turn_1.f k (rd x12 x14) x193000 x194000 x194001).bind fun bt197 => (if x196001.length < 4398046511104 then (matrix_each_int_121.l0 k x12 x13 (wrap64 (x14 + 1)) x193000 x194000 x194001 x196000 (x196001 ++ [(⟨bt197.1, bt197.2⟩ : S25)])) else (none))) else (none)) else (none)) else (some (x196000, x196001))
def matrix_each_int_121.f (k : Nat) (a0 : Int) (l1 : List Int)  (a3_0 : Unit) (a4_0 : Int) (l4_1 : List (S25)) : Option (Int × (List (S25))) := matrix_each_int_121.l0 k l1 (l1.length : Int) 0 a3_0 a4_0 l4_1 a0 ([] : List (S25))
theorem matrix_each_int_121.mono_l : ∀ k, (∀ y0 y1 y2 y3 y4 y5 y6 y7, LeO (matrix_each_int_121.l0 k y0 y1 y2 y3 y4 y5 y6 y7) (matrix_each_int_121.l0 (k + 1) y0 y1 y2 y3 y4 y5 y6 y7))
 | 0 => fun _ _ _ _ _ _ _ _ r h => by simp [matrix_each_int_121.l0] at h
 | k + 1 => by
  have ih0 := matrix_each_int_121.mono_l k
  ·
   intro y0 y1 y2 y3 y4 y5 y6 y7
   unfold matrix_each_int_121.l0
   repeat' first
   | (with_reducible exact ih0 _ _ _ _ _ _ _ _)
   | (with_reducible exact matrix_Turn_1.mono _ _ _ _ _)
   | (with_reducible exact LeO.refl _)
   | (with_reducible exact LeO.none _)
   | (with_reducible refine LeO.ite ?_ ?_)
   | (with_reducible refine LeO.bind ?_ (fun _ => ?_))
   | exact ih0 _ _ _ _ _ _ _ _
   | exact matrix_Turn_1.mono _ _ _ _ _
   | exact LeO.none _
   | refine LeO.ite ?_ ?_
   | refine LeO.bind ?_ (fun _ => ?_)
theorem matrix_each_int_121.mono : ∀ a0 a1 a2 a3 a4 k, LeO (matrix_each_int_121.f k a0 a1 a2 a3 a4) (matrix_each_int_121.f (k + 1) a0 a1 a2 a3 a4) := by
 intro a0 a1 a2 a3 a4 k
 have ih0 := matrix_each_int_121.mono_l k
 unfold matrix_each_int_121.f
 repeat' first
   | (with_reducible exact ih0 _ _ _ _ _ _ _ _)
   | (with_reducible exact matrix_Turn_1.mono _ _ _ _ _)
   | (with_reducible exact LeO.refl _)
   | (with_reducible exact LeO.none _)
   | (with_reducible refine LeO.ite ?_ ?_)
   | (with_reducible refine LeO.bind ?_ (fun _ => ?_))
   | exact ih0 _ _ _ _ _ _ _ _
   | exact matrix_Turn_1.mono _ _ _ _ _
   | exact LeO.none _
   | refine LeO.ite ?_ ?_
   | refine LeO.bind ?_ (fun _ => ?_)
def matrix_each_int_121.T5 : Bool × List (List Nat × List Nat) := (true, [([], []), ([0], [0]), ([], []), ([], []), ([2, 3], [2, 3]), ([4], [4]), ([1, 5, 4], [1, 5]), ([0, 1, 2, 3, 4, 5, 6], []), ([7, 6, 6, 0, 1, 2, 3, 4, 5, 6], [6, 7])])
def matrix_each_int_121.B5 : List Nat := [0, 1, 0, 0, 12, 28, 63, 127, 255]
theorem matrix_each_int_121.tab5 : rtab .any (opsOf Try.f119 5) = matrix_each_int_121.T5 := by kernel_rfl
theorem matrix_each_int_121.bits5 : waitsOk matrix_each_int_121.T5.2 matrix_each_int_121.B5 = true := by kernel_rfl
set_option maxHeartbeats 8000000 in
set_option maxRecDepth 100000 in
theorem matrix_each_int_121.calls (k : Nat) (a0 : Int) (A1 : Option Addr) (c1 : Nat) (l1 : List Int)  (gb3_ : Nat) (a3_0 : Unit) (gb4_ : Nat) (a4_0 : Int) (A4_1 : Option Addr) (c4_1 : Nat) (l4_1 : List (S25)) (r1 : Int) (r2 : List (S25)) (w : World) (hr1 : Kd.C (Kd.int .i64) w A1 l1.length l1) (hc1 : l1.length ≤ c1) (hb3_ : w.heap[gb3_]? = some (.cells #[.func (.func 118) #[] #[]] 153 (0, 0))) (hb4_ : w.heap[gb4_]? = some (.cells #[.int .i64 a4_0, .slice A4_1 l4_1.length c4_1] 42 (0, 0))) (hr4_1 : Kd.C k25 w A4_1 l4_1.length l4_1) (hc4_1 : l4_1.length ≤ c4_1) (h : matrix_each_int_121.f k a0 l1 a3_0 a4_0 l4_1 = some (r1, r2)) :
  Calls Try.prog 119 #[.int .i64 a0, .slice A1 l1.length c1, (.func (.func 121) #[] #[.pointer (some ⟨gb3_, 0, none⟩), .pointer (some ⟨gb4_, 0, none⟩)])] w fun e w' => ∃ v1_ : Value, e = .returned (.agg #[.int .i64 r1, v1_]) ∧ Kd.S k25 25 w' w.heap.size (fun _ => True) v1_ r2 ∧ Below w.heap.size w w' := by
 have hu42 := Try.underlying42
 have HR1 := Aside0.mk hr1
 have HC1 := Aside0.mk hc1
 clear hr1 hc1
 have HR4_1 := Aside0.mk hr4_1
 have HC4_1 := Aside0.mk hc4_1
 clear hr4_1 hc4_1
 have BK192 := Aside0.mk hb3_
 clear hb3_
 have BK193 := Aside0.mk hb4_
 clear hb4_
 have HB := am (Below.refl w.heap.size w)
 have H : (matrix_each_int_121.l0 k l1 (l1.length : Int) 0 a3_0 a4_0 l4_1 a0 ([] : List (S25))) = some (r1, r2) := h
 clear h
 have H' := Aside0.mk H
 clear H
 go_enter Try.func119, Try.ntmps119
 go_wp2_with (first | ((with_reducible refine gate_dst (N := 6) rfl ?_); refine box_event ?hg (N := 6) ?hd (cs := #[.int .i64 0, .slice none 0 0]) (t := 42) ?hr ?_; (case hd => rfl); (case hg => rfl); (case hr => first | (go_simp; done) | (go_simp; rfl)); intro gb194 hg w6 hbox hb; have n0_ := am (blk_below (g := gb3_) (o := .cells #[.func (.func 118) #[] #[]] 153 (0, 0)) (pk BK192) hb); have n1_ := am (blk_below (g := gb4_) (o := .cells #[.int .i64 a4_0, .slice A4_1 l4_1.length c4_1] 42 (0, 0)) (pk BK193) hb); have n2_ := am (below_step (pb HB) hb); have n3_ := am (hbox); have n4_ := am ((by rw [hg]; exact (below_size (pb HB)) : w.heap.size ≤ gb194)); have n5_ := am ((by rw [hg]; exact (below_size (pb HB)) : w.heap.size ≤ gb194)); have n6_ := am ((by rw [hg]; exact Nat.ne_of_lt (blk_lt (g := gb3_) (o := .cells #[.func (.func 118) #[] #[]] 153 (0, 0)) (pk BK192)) : gb3_ ≠ gb194)); have n7_ := am ((by rw [hg]; exact Nat.ne_of_gt (blk_lt (g := gb3_) (o := .cells #[.func (.func 118) #[] #[]] 153 (0, 0)) (pk BK192)) : gb194 ≠ gb3_)); have n8_ := am ((by rw [hg]; exact Nat.ne_of_lt (blk_lt (g := gb4_) (o := .cells #[.int .i64 a4_0, .slice A4_1 l4_1.length c4_1] 42 (0, 0)) (pk BK193)) : gb4_ ≠ gb194)); have n9_ := am ((by rw [hg]; exact Nat.ne_of_gt (blk_lt (g := gb4_) (o := .cells #[.int .i64 a4_0, .slice A4_1 l4_1.length c4_1] 42 (0, 0)) (pk BK193)) : gb194 ≠ gb4_)); clear BK192 BK193 HB; have BK192 := n0_; have BK193 := n1_; have HB := n2_; have BK194 := n3_; have GW194 := n4_; have GE194 := n5_; have NB192_194 := n6_; have NB194_192 := n7_; have NB193_194 := n8_; have NB194_193 := n9_; clear n0_ n1_ n2_ n3_ n4_ n5_ n6_ n7_ n8_ n9_ hb hbox hg) | ((with_reducible refine gate_dst (N := 7) rfl ?_); refine box_event ?hg (N := 7) ?hd (cs := #[.int .i64 0, .slice none 0 0]) (t := 42) ?hr ?_; (case hd => rfl); (case hg => rfl); (case hr => first | (go_simp; done) | (go_simp; rfl)); intro gb195 hg w7 hbox hb; have n0_ := am (blk_below (g := gb3_) (o := .cells #[.func (.func 118) #[] #[]] 153 (0, 0)) (pk BK192) hb); have n1_ := am (blk_below (g := gb4_) (o := .cells #[.int .i64 a4_0, .slice A4_1 l4_1.length c4_1] 42 (0, 0)) (pk BK193) hb); have n2_ := bb BK194 hb; have n3_ := am (below_step (pb HB) hb); have n4_ := am (hbox); have n5_ := am ((by rw [hg]; exact (below_size (pb HB)) : w.heap.size ≤ gb195)); have n6_ := am ((by rw [hg]; exact (below_size (pb HB)) : w.heap.size ≤ gb195)); have n7_ := am ((by rw [hg]; exact Nat.ne_of_lt (blk_lt (g := gb3_) (o := .cells #[.func (.func 118) #[] #[]] 153 (0, 0)) (pk BK192)) : gb3_ ≠ gb195)); have n8_ := am ((by rw [hg]; exact Nat.ne_of_gt (blk_lt (g := gb3_) (o := .cells #[.func (.func 118) #[] #[]] 153 (0, 0)) (pk BK192)) : gb195 ≠ gb3_)); have n9_ := am ((by rw [hg]; exact Nat.ne_of_lt (blk_lt (g := gb4_) (o := .cells #[.int .i64 a4_0, .slice A4_1 l4_1.length c4_1] 42 (0, 0)) (pk BK193)) : gb4_ ≠ gb195)); have n10_ := am ((by rw [hg]; exact Nat.ne_of_gt (blk_lt (g := gb4_) (o := .cells #[.int .i64 a4_0, .slice A4_1 l4_1.length c4_1] 42 (0, 0)) (pk BK193)) : gb195 ≠ gb4_)); have n11_ := am ((by rw [hg]; exact Nat.ne_of_lt (bl BK194) : gb194 ≠ gb195)); have n12_ := am ((by rw [hg]; exact Nat.ne_of_gt (bl BK194) : gb195 ≠ gb194)); clear BK192 BK193 BK194 HB; have BK192 := n0_; have BK193 := n1_; have BK194 := n2_; have HB := n3_; have BK195 := n4_; have GW195 := n5_; have GE195 := n6_; have NB192_195 := n7_; have NB195_192 := n8_; have NB193_195 := n9_; have NB195_193 := n10_; have NB194_195 := n11_; have NB195_194 := n12_; clear n0_ n1_ n2_ n3_ n4_ n5_ n6_ n7_ n8_ n9_ n10_ n11_ n12_ hb hbox hg; have hnb8 := NB195_192.out; have hnc8 := NB192_195.out; have hnb9 := NB195_193.out; have hnc9 := NB193_195.out; have hnb10 := NB195_194.out; have hnc10 := NB194_195.out; have hcz11_0 : w7.cell? ⟨gb195, 0, none⟩ = some (.int .i64 0) := (blk_cell BK195.out 0).trans rfl; have hcz11_1 : w7.cell? ⟨gb195, 1, none⟩ = some (.slice none 0 0) := (blk_cell BK195.out 1).trans rfl; have hfz11_0 := blk_frozen BK195.out 0; have hfz11_1 := blk_frozen BK195.out 1))
 go_loopg [14] k (fun kq v14 w' => ∃ (x14_1 : Int) (x196001_1 : List (S25)) (u196001 : Value), v14 = .int .i64 x14_1 ∧ Aside0 (matrix_each_int_121.l0 kq l1 (l1.length : Int) x14_1 a3_0 a4_0 l4_1 a0 x196001_1 = some (r1, r2)) ∧ Aside0 (kq ≤ k) ∧ Aside0 (Kd.S k25 25 w' w.heap.size (fun _ => True) u196001 x196001_1) ∧ Aside0 (w'.heap[gb3_]? = some (.cells #[.func (.func 118) #[] #[]] 153 (0, 0))) ∧ Aside0 (w'.heap[gb4_]? = some (.cells #[.int .i64 a4_0, (.slice A4_1 l4_1.length c4_1)] 42 (0, 0))) ∧ Aside0 (w'.heap[gb194]? = some (.cells #[.int .i64 0, (.slice none 0 0)] 42 (0, 0))) ∧ Aside0 (w'.heap[gb195]? = some (.cells #[.int .i64 a0, u196001] 42 (0, 0))) ∧ Aside0 (Below w.heap.size w w'))
 case atStart => exact ⟨(0), (([] : List (S25))), (.slice none 0 0), (by first | rfl | (simp; done) | (simp [*]; done)), H', ⟨Nat.le_refl _⟩, ⟨by first | exact Kd.S_nil _ _ _ _ _ | exact Kd.N_nil _ _ _ _ _ | exact Kd.V_nil _ _ _ _ _ | exact Kd.Q_nil _ _ _ _ _ | exact Kd.R_nil _ _ _ _ _⟩, ⟨by (with_reducible repeat (first | refine blk_drewN ?_ _ | refine blk_drew ?_ | refine blk_alloc ?_ _)); refine blk_far ?_ NB192_195.out _; (with_reducible repeat (first | refine blk_drewN ?_ _ | refine blk_drew ?_ | refine blk_alloc ?_ _)); refine blk_far ?_ NB192_195.out _; (with_reducible repeat (first | refine blk_drewN ?_ _ | refine blk_drew ?_ | refine blk_alloc ?_ _)); exact BK192.out⟩, ⟨by (with_reducible repeat (first | refine blk_drewN ?_ _ | refine blk_drew ?_ | refine blk_alloc ?_ _)); refine blk_far ?_ NB193_195.out _; (with_reducible repeat (first | refine blk_drewN ?_ _ | refine blk_drew ?_ | refine blk_alloc ?_ _)); refine blk_far ?_ NB193_195.out _; (with_reducible repeat (first | refine blk_drewN ?_ _ | refine blk_drew ?_ | refine blk_alloc ?_ _)); exact BK193.out⟩, ⟨by (with_reducible repeat (first | refine blk_drewN ?_ _ | refine blk_drew ?_ | refine blk_alloc ?_ _)); refine blk_far ?_ NB194_195.out _; (with_reducible repeat (first | refine blk_drewN ?_ _ | refine blk_drew ?_ | refine blk_alloc ?_ _)); refine blk_far ?_ NB194_195.out _; (with_reducible repeat (first | refine blk_drewN ?_ _ | refine blk_drew ?_ | refine blk_alloc ?_ _)); exact BK194.out⟩, ⟨by (with_reducible repeat (first | refine blk_drewN ?_ _ | refine blk_drew ?_ | refine blk_alloc ?_ _)); refine blk_put (cs := #[.int .i64 a0, .slice none 0 0]) ?_ 1 _ rfl; (with_reducible repeat (first | refine blk_drewN ?_ _ | refine blk_drew ?_ | refine blk_alloc ?_ _)); refine blk_put (cs := #[.int .i64 0, .slice none 0 0]) ?_ 0 _ rfl; (with_reducible repeat (first | refine blk_drewN ?_ _ | refine blk_drew ?_ | refine blk_alloc ?_ _)); exact BK195.out⟩, ⟨pb HB⟩⟩
 case round =>
  clear H'
  try clear c1
  try clear p2
  try clear c4
  try clear c8
  try clear c9
  try clear c10
  try clear hcz11_0
  try clear hcz11_1
  try clear hfz11_0
  try clear hfz11_1
  obtain ⟨x14_1, x196001_1, u196001, rfl, HA, HK1, HO_196001, BK192, BK193, BK194, BK195, HB⟩ := hrel
  cases gk with
  | zero => exact absurd HA.out (by simp [matrix_each_int_121.l0])
  | succ k1 =>
   have H := HA.out
   clear HA
   simp only [matrix_each_int_121.l0] at H
   by_cases c12 : x14_1 < (l1.length : Int)
   ·
    rw [if_pos c12] at H
    have c12b0 : decide (x14_1 < (l1.length : Int)) = true := decide_eq_true c12
    clear c12
    by_cases c13 : 0 ≤ x14_1
    ·
     rw [if_pos c13] at H
     have c13b0 : decide (0 ≤ x14_1) = true := decide_eq_true c13
     clear c13
     by_cases c14 : x14_1 < (l1.length : Int)
     ·
      rw [if_pos c14] at H
      have c14b0 : decide (x14_1 < (l1.length : Int)) = true := decide_eq_true c14
      clear c14
      replace H := Option.bind_eq_some_iff.mp H
      obtain ⟨⟨t197, t198⟩, A150, H⟩ := H
      replace H : (if x196001_1.length < 4398046511104 then (matrix_each_int_121.l0 k1 l1 (l1.length : Int) (wrap64 (x14_1 + 1)) a3_0 a4_0 l4_1 a0 (x196001_1 ++ [(⟨t197, t198⟩ : S25)])) else (none)) = some (r1, r2) := H
      have A15 := Aside0.mk A150
      clear A150
      by_cases c16 : x196001_1.length < 4398046511104
      ·
       rw [if_pos c16] at H
       have LMc16 := Aside0.mk c16
       clear c16
       obtain ⟨y201, hy201⟩ : ∃ y_ : List (S25), y_ = (x196001_1 ++ [(⟨t197, t198⟩ : S25)]) := ⟨_, rfl⟩
       replace H : (matrix_each_int_121.l0 k1 l1 (l1.length : Int) (wrap64 (x14_1 + 1)) a3_0 a4_0 l4_1 a0 y201) = some (r1, r2) := by first | (rw [hy201]; with_reducible exact H) | (have H2_ := (Option.bind_some _ _).symm.trans H; rw [hy201]; with_reducible exact H2_) | (have H2_ := (Option.bind_some _ _).symm.trans H; with_reducible exact H2_) | with_reducible exact H | (rw [hy201]; exact H) | exact H
       have Ny201 := Aside0.mk hy201
       clear hy201
       have H' := Aside0.mk H
       clear H
       have p196 : 0 ≤ (x14_1 : Int) := of_decide_eq_true (by first | (with_reducible assumption) | assumption)
       have q196 : x14_1 < (l1.length : Int) := of_decide_eq_true (by first | (with_reducible assumption) | assumption)
       obtain ⟨ad196, e196, hx196_0⟩ := Kd.at_int HR1.out x14_1 p196 q196
       cases e196
       replace hx196_0 := (HB.out.cell (World.block_lt_of_cell? w _ hx196_0)).trans hx196_0
       replace p196 := eq_true p196
       replace q196 := eq_true q196
       try go_wp2
       have n0_ := am (Kd.S_drew HO_196001.out)
       have n1_ := am (blk_drew BK192.out)
       have n2_ := am (blk_drew BK193.out)
       have n3_ := am (blk_drew BK194.out)
       have n4_ := am (blk_drew BK195.out)
       have n5_ := am (below_drew1 HB.out)
       clear HO_196001
       clear BK192
       clear BK193
       clear BK194
       clear BK195
       clear HB
       have HO_196001 := n0_
       have BK192 := n1_
       have BK193 := n2_
       have BK194 := n3_
       have BK195 := n4_
       have HB := n5_
       clear n0_ n1_ n2_ n3_ n4_ n5_
       refine start_ (n := 9) (S := fun w' => w'.cell? ⟨gb195, 0, none⟩ = some (.int .i64 a0) ∧ w'.cell? ⟨gb195, 1, none⟩ = some (u196001)) (ds := [8]) #[F, F, F, F, F, F, F, F, F] (by kernel_rfl) rfl rfl ⟨(blk_cell BK195.out 0).trans rfl, (blk_cell BK195.out 1).trans rfl⟩ (fun hHeld => ?_); refine with_tabW matrix_each_int_121.tab5 matrix_each_int_121.bits5 (fun HT_ HW_ => ?_)
       generalize wr.drew = w17 at HO_196001 BK192 BK193 BK194 BK195 HB hHeld ⊢
       refine pure_ (i := 0) (N := some 18) (v := ?_) (a' := ?_) #[T, F, F, F, F, F, F, F, F] rfl rfl (any_of HT_.out (by kernel_rfl)) (fun _ _ _ h => h) (Or.inl ⟨by rfl, ?_⟩) ?_ ?_
       rotate_left
       ·
        intro w'
        go_simp
        with_reducible rfl
       rotate_left
       ·
        simp only [Act.put, q1, q2, q3, i64_w, i32_w]
        rfl
       refine pure_ (i := 2) (N := some 20) (v := ?_) (a' := ?_) #[T, F, T, F, F, F, F, F, F] rfl rfl (any_of HT_.out (by kernel_rfl)) (fun _ _ _ h => h) (Or.inl ⟨by rfl, ?_⟩) ?_ ?_
       rotate_left
       ·
        intro w'
        go_simp
        with_reducible rfl
       rotate_left
       ·
        simp only [Act.put, q1, q2, q3, i64_w, i32_w]
        rfl
       refine pure_ (i := 3) (N := some 21) (v := ?_) (a' := ?_) #[T, F, T, T, F, F, F, F, F] rfl rfl (any_of HT_.out (by kernel_rfl)) (fun _ _ _ h => h) (Or.inl ⟨by rfl, ?_⟩) ?_ ?_
       rotate_left
       ·
        intro w'
        go_simp
        with_reducible rfl
       rotate_left
       ·
        simp only [Act.put, q1, q2, q3, i64_w, i32_w]
        rfl
       refine take_ (i := 1) (N := some 19) (v := ?_) (a' := ?_) #[T, T, T, T, F, F, F, F, F] rfl rfl (take_ofW HT_.out HW_.out (by kernel_rfl)) (fun _ _ _ h => h) (Or.inl ⟨by rfl, ?_⟩) hHeld ?_ ?_
       rotate_left
       ·
        rintro w' ⟨s0, s1⟩
        go_simp
        with_reducible rfl
       rotate_left
       ·
        simp only [Act.put, q1, q2, q3, i64_w, i32_w]
        rfl
       refine one_ (i := 4) (N := some 22) #[T, T, T, T, T, F, F, F, F] rfl rfl (one_of HT_.out (by kernel_rfl)) (by decide) (fun K hK => ?_)
       refine goesT_ 20 Try.func121 (by kernel_rfl) rfl #[.int .i64 (rd l1 x14_1)] #[.pointer (some ⟨gb3_, 0, none⟩), .pointer (some ⟨gb4_, 0, none⟩)] #[.int .i64 (rd l1 x14_1), .pointer (some ⟨gb3_, 0, none⟩), .pointer (some ⟨gb4_, 0, none⟩)] (by rfl) rfl rfl (by rfl) (by (try simp only [List.map_toArray, List.map_cons, List.map_nil]); first | done | rfl | (simp only [List.length_drop, List.length_take]; rfl)) (by rfl) ?_
       with_reducible refine (matrix_Turn_1.calls k1 (rd l1 x14_1) gb3_ a3_0 gb4_ a4_0 A4_1 c4_1 l4_1 t197 t198 _ ?side1 ?side2 ?side3 ?side4 A15.out).mono ?_
       (case side1 => (with_reducible repeat (first | refine blk_drewN ?_ _ | refine blk_drew ?_ | refine blk_alloc ?_ _)); exact BK192.out)
       (case side2 => (with_reducible repeat (first | refine blk_drewN ?_ _ | refine blk_drew ?_ | refine blk_alloc ?_ _)); exact BK193.out)
       (case side3 => repeat (first | exact (Kd.C_below HR4_1.out HB.out) | (with_reducible refine Kd.C_alloc ?_ _) | (with_reducible refine Kd.C_drewN ?_ _) | (with_reducible refine Kd.C_drew ?_)))
       (case side4 => exact HC4_1.out)
       rintro e w18 ⟨v199, rfl, ho0, hb⟩
       refine ⟨_, rfl, ?_⟩
       have n0_ := am (Kd.S_elder' (by (with_reducible repeat (first | apply Kd.S_alloc | apply Kd.S_drewN | apply Kd.S_drew)); exact HO_196001.out) (Kd.R_base ho0) hb)
       have n1_ := am (Kd.R_lower ho0 (below_size (pb HB)))
       have n2_ := am (blk_below (g := gb3_) (o := .cells #[.func (.func 118) #[] #[]] 153 (0, 0)) (pk BK192) hb)
       have n3_ := am (blk_below (g := gb4_) (o := .cells #[.int .i64 a4_0, .slice A4_1 l4_1.length c4_1] 42 (0, 0)) (pk BK193) hb)
       have n4_ := bb BK194 hb
       have n5_ := bb BK195 hb
       have n6_ := am (below_step (pb HB) hb)
       clear HO_196001
       clear BK192
       clear BK193
       clear BK194
       clear BK195
       clear HB
       have HO_196001 := n0_
       have HO200 := n1_
       have BK192 := n2_
       have BK193 := n3_
       have BK194 := n4_
       have BK195 := n5_
       have HB := n6_
       clear n0_ n1_ n2_ n3_ n4_ n5_ n6_
       (try clear hb)
       (try clear hb2)
       (try clear hk)
       (try clear hi)
       (try clear ho0)
       obtain ⟨Ao20, co20, eo20⟩ := Kd.R_slice HO200.out
       (first | subst eo20 | (injection eo20 with f1_ f2_ f3_; have f4_ := f1_.symm; have f5_ := f3_.symm; clear f1_ f2_ f3_; subst f4_; subst f5_))
       refine hK.out _ _ ⟨(blk_cell BK195.out 0).trans rfl, (blk_cell BK195.out 1).trans rfl⟩ (fun hHeld => ?_)
       clear hK K
       refine norm_ (a' := ?_) ?_ ?_
       rotate_left
       ·
        show Act.put _ (some 22) _ = _
        simp only [Act.put, q1, q2, q3, i64_w, i32_w]
        rfl
       refine one_ (i := 5) (N := some 23) #[T, T, T, T, T, T, F, F, F] rfl rfl (one_of HT_.out (by kernel_rfl)) (by decide) (fun K hK => ?_)
       refine value_ (w1 := ?_) (v := ?_) (by rfl) rfl ?_ ?_
       rotate_left 2
       ·
        go_simp
        constructor
        ·
         rfl
        ·
         rfl
       refine hK.out _ _ ⟨(blk_cell (blk_alloc BK195.out _) 0).trans rfl, (blk_cell (blk_alloc BK195.out _) 1).trans rfl⟩ (fun hHeld => ?_)
       clear hK K
       refine norm_ (a' := ?_) ?_ ?_
       rotate_left
       ·
        show Act.put _ (some 23) _ = _
        simp only [Act.put, q1, q2, q3, i64_w, i32_w]
        rfl
       refine one_ (i := 6) (N := some 24) #[T, T, T, T, T, T, T, F, F] rfl rfl (one_of HT_.out (by kernel_rfl)) (by decide) (fun K hK => ?_)
       refine Kd.S_append_step k25 (w0 := w) w.heap.size (by rfl) (.tmp 19) (.tmp 23) 40 25 (.agg #[(.int .i64 0), (.slice none 0 0)]) 32 rfl Try.underlying40 info25 rfl (by decide) (by omega) u196001 x196001_1 (⟨t197, t198⟩ : S25) [.int .i64 t197, .slice Ao20 t198.length co20] (fun _ => True) (fun k_ => some k_ = (.slice Ao20 t198.length co20 : Value).ownBlock) rfl rfl ?aP (fun k_ hk_ => ((Kd.R_mono (ok' := fun k_ => ((fun _ => True)) k_ ∧ some k_ ≠ (u196001 : Value).ownBlock) (Kd.R_apart' (HO200.out) (Kd.S_typed HO_196001.out) (by decide)) (fun k_ hk => ⟨trivial, hk.2⟩))).1 k_ hk_.symm) ?aF ?aO ?aB ?aS ?aL ?_
       (case aP => exact k25_mkM _ _ _ (⟨t197, t198⟩ : S25) (Kd.R_mono (Kd.R_tight rfl (Kd.R_mono (ok' := fun k_ => ((fun _ => True)) k_ ∧ some k_ ≠ (u196001 : Value).ownBlock) (Kd.R_apart' (HO200.out) (Kd.S_typed HO_196001.out) (by decide)) (fun k_ hk => ⟨trivial, hk.2⟩))) (fun _ h_ => h_)))
       (case aB => exact (pb HB))
       (case aF => exact (fun _ _ => trivial))
       (case aO => exact (by (with_reducible repeat (first | apply Kd.S_alloc | apply Kd.S_drewN | apply Kd.S_drew)); exact Kd.S_mono HO_196001.out (fun k_ hk => ⟨trivial, fun e_ => hk.2 e_⟩)))
       (case aS => exact (below_size (pb HB)))
       (case aL => have := LMc16.out; omega)
       intro v202 w19 ho hb hg hat
       rw [← Ny201.out] at ho
       have n0_ := am (blk_grown (g := gb3_) (o := .cells #[.func (.func 118) #[] #[]] 153 (0, 0)) (pk BK192) hg (Kd.S_ne HO_196001.out BK192.out (by decide)))
       have n1_ := am (blk_grown (g := gb4_) (o := .cells #[.int .i64 a4_0, .slice A4_1 l4_1.length c4_1] 42 (0, 0)) (pk BK193) hg (Kd.S_ne HO_196001.out BK193.out (by decide)))
       have n2_ := am (blk_grown (g := gb194) (o := .cells #[.int .i64 0, .slice none 0 0] 42 (0, 0)) (pk BK194) hg (Kd.S_ne HO_196001.out BK194.out (by decide)))
       have n3_ := am (blk_grown (g := gb195) (o := .cells #[.int .i64 a0, u196001] 42 (0, 0)) (pk BK195) hg (Kd.S_ne HO_196001.out BK195.out (by decide)))
       have n4_ := am (hb)
       have n5_ := am (ho)
       clear BK192
       clear BK193
       clear BK194
       clear BK195
       clear HB
       clear HO_196001
       clear HO200
       have BK192 := n0_
       have BK193 := n1_
       have BK194 := n2_
       have BK195 := n3_
       have HB := n4_
       have HO203 := n5_
       clear n0_ n1_ n2_ n3_ n4_ n5_
       clear ho hb hg hat
       obtain ⟨Ao21, co21, eo21⟩ := Kd.S_slice HO203.out
       (first | subst eo21 | (injection eo21 with f1_ f2_ f3_; have f4_ := f1_.symm; have f5_ := f3_.symm; clear f1_ f2_ f3_; subst f4_; subst f5_))
       refine hK.out _ _ ⟨(blk_cell BK195.out 0).trans rfl, (blk_cell BK195.out 1).trans rfl⟩ (fun hHeld => ?_)
       clear hK K
       refine norm_ (a' := ?_) ?_ ?_
       rotate_left
       ·
        show Act.put _ (some 24) _ = _
        simp only [Act.put, q1, q2, q3, i64_w, i32_w]
        rfl
       refine pure_ (i := 7) (N := some 25) (v := ?_) (a' := ?_) #[T, T, T, T, T, T, T, T, F] rfl rfl (any_of HT_.out (by kernel_rfl)) (fun _ _ _ h => h) (Or.inl ⟨by rfl, ?_⟩) ?_ ?_
       rotate_left
       ·
        intro w'
        go_simp
        with_reducible rfl
       rotate_left
       ·
        simp only [Act.put, q1, q2, q3, i64_w, i32_w]
        rfl
       refine last_ (i := 8) (N := none) #[T, T, T, T, T, T, T, T, T] rfl rfl (one_of HT_.out (by kernel_rfl)) (by decide) (fun K hK => ?_)
       have hs22 : w19.cell? ⟨gb195, 1, none⟩ = some (u196001) := (blk_cell BK195.out 1).trans rfl
       have hfs22 := blk_frozen BK195.out 1
       have hns22_0 := NB192_195.out
       have hns22_1 := NB193_195.out
       have hns22_2 := NB194_195.out
       have hms22_0 := NB195_192.out
       have hms22_1 := NB195_193.out
       have hms22_2 := NB195_194.out
       refine skip_ (w1 := ?_) (by rfl) rfl ?_ ?_
       rotate_left
       ·
        go_simp
        rfl
       refine hK.out _ _ ?_
       clear hK K
       refine done_ (done_of HT_.out (by kernel_rfl)) ?_
       try go_wp2
       go_roundg k1
       case measure => have := HK1.out; omega
       case rel => exact ⟨(wrap64 (x14_1 + 1)), (y201), (.slice Ao21 y201.length co21), (by first | rfl | (simp; done) | (simp [*]; done)), H', ⟨by have := HK1.out; omega⟩, ⟨by (with_reducible repeat (first | apply Kd.S_alloc | apply Kd.S_drewN | apply Kd.S_drew)); exact Kd.S_mono (Kd.S_far (p := ⟨gb195, 1, none⟩) (Kd.S_types HO203.out BK195.out (by decide)) (fun _ hk => hk.2) (.slice Ao21 y201.length co21)) (fun _ hk => trivial)⟩, ⟨by (with_reducible repeat (first | refine blk_drewN ?_ _ | refine blk_drew ?_ | refine blk_alloc ?_ _)); refine blk_far ?_ NB192_195.out _; (with_reducible repeat (first | refine blk_drewN ?_ _ | refine blk_drew ?_ | refine blk_alloc ?_ _)); exact BK192.out⟩, ⟨by (with_reducible repeat (first | refine blk_drewN ?_ _ | refine blk_drew ?_ | refine blk_alloc ?_ _)); refine blk_far ?_ NB193_195.out _; (with_reducible repeat (first | refine blk_drewN ?_ _ | refine blk_drew ?_ | refine blk_alloc ?_ _)); exact BK193.out⟩, ⟨by (with_reducible repeat (first | refine blk_drewN ?_ _ | refine blk_drew ?_ | refine blk_alloc ?_ _)); refine blk_far ?_ NB194_195.out _; (with_reducible repeat (first | refine blk_drewN ?_ _ | refine blk_drew ?_ | refine blk_alloc ?_ _)); exact BK194.out⟩, ⟨by (with_reducible repeat (first | refine blk_drewN ?_ _ | refine blk_drew ?_ | refine blk_alloc ?_ _)); refine blk_put (cs := #[.int .i64 a0, u196001]) ?_ 1 _ rfl; (with_reducible repeat (first | refine blk_drewN ?_ _ | refine blk_drew ?_ | refine blk_alloc ?_ _)); exact BK195.out⟩, ⟨pb HB⟩⟩
      ·
       rw [if_neg c16] at H
       exact absurd H (by simp)
     ·
      rw [if_neg c14] at H
      exact absurd H (by simp)
    ·
     rw [if_neg c13] at H
     exact absurd H (by simp)
   ·
    rw [if_neg c12] at H
    have c12b0 : decide (x14_1 < (l1.length : Int)) = false := decide_eq_false c12
    clear c12
    simp only [Option.some.injEq, Prod.mk.injEq] at H
    obtain ⟨rfl, rfl⟩ := H
    have hnb23 := NB195_192.out
    have hnc23 := NB192_195.out
    have hnb24 := NB195_193.out
    have hnc24 := NB193_195.out
    have hnb25 := NB195_194.out
    have hnc25 := NB194_195.out
    have hcz26_0 : wr.cell? ⟨gb195, 0, none⟩ = some (.int .i64 a0) := (blk_cell BK195.out 0).trans rfl
    have hcz26_1 : wr.cell? ⟨gb195, 1, none⟩ = some (u196001) := (blk_cell BK195.out 1).trans rfl
    have hfz26_0 := blk_frozen BK195.out 0
    have hfz26_1 := blk_frozen BK195.out 1
    have hnb27 := NB194_192.out
    have hnc27 := NB192_194.out
    have hnb28 := NB194_193.out
    have hnc28 := NB193_194.out
    have hcz29_0 : wr.cell? ⟨gb194, 0, none⟩ = some (.int .i64 0) := (blk_cell BK194.out 0).trans rfl
    have hcz29_1 : wr.cell? ⟨gb194, 1, none⟩ = some (.slice none 0 0) := (blk_cell BK194.out 1).trans rfl
    have hfz29_0 := blk_frozen BK194.out 0
    have hfz29_1 := blk_frozen BK194.out 1
    obtain ⟨Ao30, co30, eo30⟩ := Kd.S_slice HO_196001.out
    subst eo30
    go_wp2
    refine bodyPost_ret (results_cell_row rfl _ _ gb194 42 #[.int .i64 a0, .slice Ao30 x196001_1.length co30] (0, 0) _ rfl (by (with_reducible repeat (first | refine blk_drewN ?_ _ | refine blk_drew ?_ | refine blk_alloc ?_ _)); refine blk_put (cs := #[.int .i64 a0, .slice none 0 0]) ?_ 1 _ rfl; (with_reducible repeat (first | refine blk_drewN ?_ _ | refine blk_drew ?_ | refine blk_alloc ?_ _)); refine blk_put (cs := #[.int .i64 0, .slice none 0 0]) ?_ 0 _ rfl; (with_reducible repeat (first | refine blk_drewN ?_ _ | refine blk_drew ?_ | refine blk_alloc ?_ _)); exact BK194.out) Try.underlying42 rfl (by kernel_rfl)) rfl ?_
    exact ⟨_, by first | rfl | (simp [errW_none, errW_some] <;> rfl) | (simp [*, errW_none, errW_some] <;> rfl), by (with_reducible repeat (first | apply Kd.S_alloc | apply Kd.S_drewN | apply Kd.S_drew)); exact Kd.S_mono (Kd.S_far (p := ⟨gb194, 1, none⟩) (Kd.S_far (p := ⟨gb194, 0, none⟩) (Kd.S_types HO_196001.out BK194.out (by decide)) (fun _ hk => hk.2) (.int .i64 a0)) (fun _ hk => hk.2) (.slice Ao30 x196001_1.length co30)) (fun _ hk => trivial), pb HB⟩

/-! ### matrix_Turn: function 43 -/
def matrix_Turn.f (k : Nat) (a0_0 : Int) (l0_1 : List (S25)) : Option (Int × (List (S25)) × Int) := (matrix_Right.f k a0_0 l0_1).bind fun t206 => (if t206 = true then ((matrix_numbers.f k a0_0).bind fun t208 => ((matrix_each_int_121.f k (l0_1.length : Int) t208 () a0_0 l0_1).bind fun bt211 => (some (bt211.1, bt211.2, 0)))) else (some (0, ([] : List (S25)), 1)))
theorem matrix_Turn.mono : ∀ a0 a1 k, LeO (matrix_Turn.f k a0 a1) (matrix_Turn.f (k + 1) a0 a1) := by
 intro a0 a1 k
 unfold matrix_Turn.f
 repeat' first
   | (with_reducible exact matrix_Right.mono _ _ _)
   | (with_reducible exact matrix_each_int_121.mono _ _ _ _ _ _)
   | (with_reducible exact matrix_numbers.mono _ _)
   | (with_reducible exact LeO.refl _)
   | (with_reducible exact LeO.none _)
   | (with_reducible refine LeO.ite ?_ ?_)
   | (with_reducible refine LeO.bind ?_ (fun _ => ?_))
   | exact matrix_Right.mono _ _ _
   | exact matrix_each_int_121.mono _ _ _ _ _ _
   | exact matrix_numbers.mono _ _
   | exact LeO.none _
   | refine LeO.ite ?_ ?_
   | refine LeO.bind ?_ (fun _ => ?_)
def matrix_Turn.T4 : Bool × List (List Nat × List Nat) := (true, [([], []), ([0], [0]), ([1], [1]), ([], []), ([3], [3]), ([4], [4]), ([], []), ([2, 5, 6, 5], [2, 5, 6]), ([7, 7, 0, 1, 2, 3, 4, 5, 6, 7], [7]), ([8, 0, 1, 2, 3, 4, 5, 6, 7, 8], [])])
def matrix_Turn.B4 : List Nat := [0, 1, 3, 0, 8, 24, 0, 127, 255, 511]
theorem matrix_Turn.tab4 : rtab .any (opsOf Try.f43 4) = matrix_Turn.T4 := by kernel_rfl
theorem matrix_Turn.bits4 : waitsOk matrix_Turn.T4.2 matrix_Turn.B4 = true := by kernel_rfl
set_option maxHeartbeats 8000000 in
set_option maxRecDepth 100000 in
theorem matrix_Turn.calls (k : Nat) (a0_0 : Int) (A0_1 : Option Addr) (c0_1 : Nat) (l0_1 : List (S25)) (r1 : Int) (r2 : List (S25)) (r3 : Int) (w : World) (hr0_1 : Kd.C k25 w A0_1 l0_1.length l0_1) (hc0_1 : l0_1.length ≤ c0_1) (h : matrix_Turn.f k a0_0 l0_1 = some (r1, r2, r3)) :
  Calls Try.prog 43 #[.agg #[.int .i64 a0_0, .slice A0_1 l0_1.length c0_1]] w fun e w' => ∃ v1_ : Value, e = .returned (.tuple #[.agg #[.int .i64 r1, v1_], .int .i64 r3]) ∧ Kd.S k25 25 w' w.heap.size (fun _ => True) v1_ r2 ∧ Below w.heap.size w w' := by
 have hu42 := Try.underlying42
 have HR0_1 := Aside0.mk hr0_1
 have HC0_1 := Aside0.mk hc0_1
 clear hr0_1 hc0_1
 have HB := am (Below.refl w.heap.size w)
 have H : ((matrix_Right.f k a0_0 l0_1).bind fun t206 => (if t206 = true then ((matrix_numbers.f k a0_0).bind fun t208 => ((matrix_each_int_121.f k (l0_1.length : Int) t208 () a0_0 l0_1).bind fun bt211 => (some (bt211.1, bt211.2, 0)))) else (some (0, ([] : List (S25)), 1)))) = some (r1, r2, r3) := h
 clear h
 replace H := Option.bind_eq_some_iff.mp H
 obtain ⟨t206, A20, H⟩ := H
 replace H : (if t206 = true then ((matrix_numbers.f k a0_0).bind fun t208 => ((matrix_each_int_121.f k (l0_1.length : Int) t208 () a0_0 l0_1).bind fun bt211 => (some (bt211.1, bt211.2, 0)))) else (some (0, ([] : List (S25)), 1))) = some (r1, r2, r3) := H
 have A2 := Aside0.mk A20
 clear A20
 by_cases c3 : t206 = true
 ·
  subst c3
  have H1 : ((matrix_numbers.f k a0_0).bind fun t208 => ((matrix_each_int_121.f k (l0_1.length : Int) t208 () a0_0 l0_1).bind fun bt211 => (some (bt211.1, bt211.2, 0)))) = some (r1, r2, r3) := by rw [if_pos rfl] at H; exact H
  clear H
  have H := H1
  clear H1
  replace H := Option.bind_eq_some_iff.mp H
  obtain ⟨t208, A40, H⟩ := H
  replace H : ((matrix_each_int_121.f k (l0_1.length : Int) t208 () a0_0 l0_1).bind fun bt211 => (some (bt211.1, bt211.2, 0))) = some (r1, r2, r3) := H
  have A4 := Aside0.mk A40
  clear A40
  replace H := Option.bind_eq_some_iff.mp H
  obtain ⟨⟨t211, t212⟩, A50, H⟩ := H
  replace H : (some (t211, t212, 0)) = some (r1, r2, r3) := H
  have A5 := Aside0.mk A50
  clear A50
  simp only [Option.some.injEq, Prod.mk.injEq] at H
  obtain ⟨rfl, rfl, rfl⟩ := H
  go_enter Try.func43, Try.ntmps43
  try go_wp2_with (first | ((with_reducible refine gate_dst (N := 1) rfl ?_); refine box_event ?hg (N := 1) ?hd (cs := #[.int .i64 a0_0, .slice A0_1 l0_1.length c0_1]) (t := 42) ?hr ?_; (case hd => rfl); (case hg => rfl); (case hr => first | (go_simp; done) | (go_simp; rfl)); intro gb204 hg w6 hbox hb; have n0_ := am (below_step (pb HB) hb); have n1_ := am (hbox); have n2_ := am ((by rw [hg]; exact (below_size (pb HB)) : w.heap.size ≤ gb204)); have n3_ := am ((by rw [hg]; exact (below_size (pb HB)) : w.heap.size ≤ gb204)); clear HB; have HB := n0_; have BK204 := n1_; have GW204 := n2_; have GE204 := n3_; clear n0_ n1_ n2_ n3_ hb hbox hg) | ((with_reducible refine gate_dst (N := 2) rfl ?_); refine box_event ?hg (N := 2) ?hd (cs := #[.int .i64 0, .slice none 0 0]) (t := 42) ?hr ?_; (case hd => rfl); (case hg => rfl); (case hr => first | (go_simp; done) | (go_simp; rfl)); intro gb205 hg w7 hbox hb; have n0_ := bb BK204 hb; have n1_ := am (below_step (pb HB) hb); have n2_ := am (hbox); have n3_ := am ((by rw [hg]; exact (below_size (pb HB)) : w.heap.size ≤ gb205)); have n4_ := am ((by rw [hg]; exact (below_size (pb HB)) : w.heap.size ≤ gb205)); have n5_ := am ((by rw [hg]; exact Nat.ne_of_lt (bl BK204) : gb204 ≠ gb205)); have n6_ := am ((by rw [hg]; exact Nat.ne_of_gt (bl BK204) : gb205 ≠ gb204)); clear BK204 HB; have BK204 := n0_; have HB := n1_; have BK205 := n2_; have GW205 := n3_; have GE205 := n4_; have NB204_205 := n5_; have NB205_204 := n6_; clear n0_ n1_ n2_ n3_ n4_ n5_ n6_ hb hbox hg; have hnb8 := NB204_205.out; have hnc8 := NB205_204.out; have hcz9_0 : w7.cell? ⟨gb204, 0, none⟩ = some (.int .i64 a0_0) := (blk_cell BK204.out 0).trans rfl; have hcz9_1 : w7.cell? ⟨gb204, 1, none⟩ = some (.slice A0_1 l0_1.length c0_1) := (blk_cell BK204.out 1).trans rfl; have hfz9_0 := blk_frozen BK204.out 0; have hfz9_1 := blk_frozen BK204.out 1) | ((with_reducible refine gate_callee (f := 45) rfl ?_); refine goesL_ (some 6) rfl rfl Try.func45 (by kernel_rfl) rfl #[.agg #[.int .i64 a0_0, .slice A0_1 l0_1.length c0_1]] rfl (by (try simp only [List.map_toArray, List.map_cons, List.map_nil]); first | done | rfl | (simp only [List.length_drop, List.length_take]; rfl)) ?_; (with_reducible refine (matrix_Right.calls k a0_0 _ _ l0_1 true _ ?side1 ?side2 A2.out).mono ?_); (case side1 => repeat (first | exact (Kd.C_below HR0_1.out HB.out) | (with_reducible refine Kd.C_alloc ?_ _) | (with_reducible refine Kd.C_drewN ?_ _) | (with_reducible refine Kd.C_drew ?_))); (case side2 => exact HC0_1.out); rintro e w10 ⟨rfl, hb⟩; refine ⟨_, rfl, ?_⟩; have n0_ := bb BK204 hb; have n1_ := bb BK205 hb; have n2_ := am (below_step (pb HB) hb); clear BK204 BK205 HB; have BK204 := n0_; have BK205 := n1_; have HB := n2_; clear n0_ n1_ n2_; (try clear hb); (try clear hb2); (try clear hk); (try clear hi)) | ((with_reducible refine gate_dst (N := 4) rfl ?_); refine box_event ?hg (N := 4) ?hd (cs := #[.nilFunc]) (t := 153) ?hr ?_; (case hd => rfl); (case hg => rfl); (case hr => first | (go_simp; done) | (go_simp; rfl)); intro gb207 hg w11 hbox hb; have n0_ := bb BK204 hb; have n1_ := bb BK205 hb; have n2_ := am (below_step (pb HB) hb); have n3_ := am (hbox); have n4_ := am ((by rw [hg]; exact (below_size (pb HB)) : w.heap.size ≤ gb207)); have n5_ := am ((by rw [hg]; exact (below_size (pb HB)) : w.heap.size ≤ gb207)); have n6_ := am ((by rw [hg]; exact Nat.ne_of_lt (bl BK204) : gb204 ≠ gb207)); have n7_ := am ((by rw [hg]; exact Nat.ne_of_gt (bl BK204) : gb207 ≠ gb204)); have n8_ := am ((by rw [hg]; exact Nat.ne_of_lt (bl BK205) : gb205 ≠ gb207)); have n9_ := am ((by rw [hg]; exact Nat.ne_of_gt (bl BK205) : gb207 ≠ gb205)); clear BK204 BK205 HB; have BK204 := n0_; have BK205 := n1_; have HB := n2_; have BK207 := n3_; have GW207 := n4_; have GE207 := n5_; have NB204_207 := n6_; have NB207_204 := n7_; have NB205_207 := n8_; have NB207_205 := n9_; clear n0_ n1_ n2_ n3_ n4_ n5_ n6_ n7_ n8_ n9_ hb hbox hg; have hnb12 := NB207_204.out; have hnc12 := NB204_207.out; have hnb13 := NB207_205.out; have hnc13 := NB205_207.out; have hcz14_0 : w11.cell? ⟨gb207, 0, none⟩ = some (.nilFunc) := (blk_cell BK207.out 0).trans rfl; have hfz14_0 := blk_frozen BK207.out 0))
  have n0_ : Aside0 ((w11.setCell ⟨gb207, 0, none⟩ (.func (.func 118) #[] #[])).heap[gb204]? = some (.cells #[.int .i64 a0_0, .slice A0_1 l0_1.length c0_1] 42 (0, 0))) := ⟨by (with_reducible repeat (first | refine blk_drewN ?_ _ | refine blk_drew ?_ | refine blk_alloc ?_ _)); refine blk_far ?_ NB204_207.out _; (with_reducible repeat (first | refine blk_drewN ?_ _ | refine blk_drew ?_ | refine blk_alloc ?_ _)); exact BK204.out⟩
  have n1_ : Aside0 ((w11.setCell ⟨gb207, 0, none⟩ (.func (.func 118) #[] #[])).heap[gb205]? = some (.cells #[.int .i64 0, .slice none 0 0] 42 (0, 0))) := ⟨by (with_reducible repeat (first | refine blk_drewN ?_ _ | refine blk_drew ?_ | refine blk_alloc ?_ _)); refine blk_far ?_ NB205_207.out _; (with_reducible repeat (first | refine blk_drewN ?_ _ | refine blk_drew ?_ | refine blk_alloc ?_ _)); exact BK205.out⟩
  have n2_ : Aside0 ((w11.setCell ⟨gb207, 0, none⟩ (.func (.func 118) #[] #[])).heap[gb207]? = some (.cells #[.func (.func 118) #[] #[]] 153 (0, 0))) := ⟨by (with_reducible repeat (first | refine blk_drewN ?_ _ | refine blk_drew ?_ | refine blk_alloc ?_ _)); refine blk_put (cs := #[.nilFunc]) ?_ 0 _ rfl; (with_reducible repeat (first | refine blk_drewN ?_ _ | refine blk_drew ?_ | refine blk_alloc ?_ _)); exact BK207.out⟩
  have n3_ : Aside0 (Below w.heap.size w (w11.setCell ⟨gb207, 0, none⟩ (.func (.func 118) #[] #[]))) := ⟨pb HB⟩
  (try clear BK204)
  (try clear BK205)
  (try clear BK207)
  (try clear HB)
  generalize (w11.setCell ⟨gb207, 0, none⟩ (.func (.func 118) #[] #[])) = w15 at n0_ n1_ n2_ n3_ ⊢
  have BK204 := n0_
  have BK205 := n1_
  have BK207 := n2_
  have HB := n3_
  clear n0_ n1_ n2_ n3_
  have n0_ := am (blk_drew BK204.out)
  have n1_ := am (blk_drew BK205.out)
  have n2_ := am (blk_drew BK207.out)
  have n3_ := am (below_drew1 HB.out)
  clear BK204
  clear BK205
  clear BK207
  clear HB
  have BK204 := n0_
  have BK205 := n1_
  have BK207 := n2_
  have HB := n3_
  clear n0_ n1_ n2_ n3_
  refine start_ (n := 10) (S := fun w' => w'.cell? ⟨gb204, 0, none⟩ = some (.int .i64 a0_0) ∧ w'.cell? ⟨gb204, 1, none⟩ = some (.slice A0_1 l0_1.length c0_1)) (ds := []) #[F, F, F, F, F, F, F, F, F, F] (by kernel_rfl) rfl rfl ⟨(blk_cell BK204.out 0).trans rfl, (blk_cell BK204.out 1).trans rfl⟩ (fun hHeld => ?_); refine with_tabW matrix_Turn.tab4 matrix_Turn.bits4 (fun HT_ HW_ => ?_)
  generalize w15.drew = w16 at BK204 BK205 BK207 HB hHeld ⊢
  refine pure_ (i := 0) (N := some 9) (v := ?_) (a' := ?_) #[T, F, F, F, F, F, F, F, F, F] rfl rfl (any_of HT_.out (by kernel_rfl)) (fun _ _ _ h => h) (Or.inl ⟨by rfl, ?_⟩) ?_ ?_
  rotate_left
  ·
   intro w'
   go_simp
   with_reducible rfl
  rotate_left
  ·
   simp only [Act.put, q1, q2, q3, i64_w, i32_w]
   rfl
  refine pure_ (i := 3) (N := some 12) (v := ?_) (a' := ?_) #[T, F, F, T, F, F, F, F, F, F] rfl rfl (any_of HT_.out (by kernel_rfl)) (fun _ _ _ h => h) (Or.inl ⟨by rfl, ?_⟩) ?_ ?_
  rotate_left
  ·
   intro w'
   go_simp
   with_reducible rfl
  rotate_left
  ·
   simp only [Act.put, q1, q2, q3, i64_w, i32_w]
   rfl
  refine pure_ (i := 6) (N := some 15) (v := ?_) (a' := ?_) #[T, F, F, T, F, F, T, F, F, F] rfl rfl (any_of HT_.out (by kernel_rfl)) (fun _ _ _ h => h) (Or.inl ⟨by rfl, ?_⟩) ?_ ?_
  rotate_left
  ·
   intro w'
   go_simp
   with_reducible rfl
  rotate_left
  ·
   simp only [Act.put, q1, q2, q3, i64_w, i32_w]
   rfl
  refine take_ (i := 1) (N := some 10) (v := ?_) (a' := ?_) #[T, T, F, T, F, F, T, F, F, F] rfl rfl (take_ofW HT_.out HW_.out (by kernel_rfl)) (fun _ _ _ h => h) (Or.inl ⟨by rfl, ?_⟩) hHeld ?_ ?_
  rotate_left
  ·
   rintro w' ⟨s0, s1⟩
   go_simp
   with_reducible rfl
  rotate_left
  ·
   simp only [Act.put, q1, q2, q3, i64_w, i32_w]
   rfl
  refine pure_ (i := 2) (N := some 11) (v := ?_) (a' := ?_) #[T, T, T, T, F, F, T, F, F, F] rfl rfl (any_of HT_.out (by kernel_rfl)) (fun _ _ _ h => h) (Or.inl ⟨by rfl, ?_⟩) ?_ ?_
  rotate_left
  ·
   intro w'
   go_simp
   with_reducible rfl
  rotate_left
  ·
   simp only [Act.put, q1, q2, q3, i64_w, i32_w]
   rfl
  refine take_ (i := 4) (N := some 13) (v := ?_) (a' := ?_) #[T, T, T, T, T, F, T, F, F, F] rfl rfl (take_ofW HT_.out HW_.out (by kernel_rfl)) (fun _ _ _ h => h) (Or.inl ⟨by rfl, ?_⟩) hHeld ?_ ?_
  rotate_left
  ·
   rintro w' ⟨s0, s1⟩
   go_simp
   with_reducible rfl
  rotate_left
  ·
   simp only [Act.put, q1, q2, q3, i64_w, i32_w]
   rfl
  refine one_ (i := 5) (N := some 14) #[T, T, T, T, T, T, T, F, F, F] rfl rfl (one_of HT_.out (by kernel_rfl)) (by decide) (fun K hK => ?_)
  refine goes_ Try.func120 (by kernel_rfl) rfl #[.int .i64 a0_0] (by rfl) rfl rfl (by (try simp only [List.map_toArray, List.map_cons, List.map_nil]); first | done | rfl | (simp only [List.length_drop, List.length_take]; rfl)) ?_
  with_reducible refine (matrix_numbers.calls k a0_0 t208 _ A4.out).mono ?_
  rintro e w17 ⟨v209, rfl, ho0, hb⟩
  refine ⟨_, rfl, ?_⟩
  have n0_ := am (Kd.R_lower ho0 (below_size (pb HB)))
  have n1_ := bb BK204 hb
  have n2_ := bb BK205 hb
  have n3_ := bb BK207 hb
  have n4_ := am (below_step (pb HB) hb)
  clear BK204
  clear BK205
  clear BK207
  clear HB
  have HO210 := n0_
  have BK204 := n1_
  have BK205 := n2_
  have BK207 := n3_
  have HB := n4_
  clear n0_ n1_ n2_ n3_ n4_
  (try clear hb)
  (try clear hb2)
  (try clear hk)
  (try clear hi)
  (try clear ho0)
  obtain ⟨Ao18, co18, eo18⟩ := Kd.R_slice HO210.out
  (first | subst eo18 | (injection eo18 with f1_ f2_ f3_; have f4_ := f1_.symm; have f5_ := f3_.symm; clear f1_ f2_ f3_; subst f4_; subst f5_))
  refine hK.out _ _ ⟨(blk_cell BK204.out 0).trans rfl, (blk_cell BK204.out 1).trans rfl⟩ (fun hHeld => ?_)
  clear hK K
  refine norm_ (a' := ?_) ?_ ?_
  rotate_left
  ·
   show Act.put _ (some 14) _ = _
   simp only [Act.put, q1, q2, q3, i64_w, i32_w]
   rfl
  refine one_ (i := 7) (N := some 16) #[T, T, T, T, T, T, T, T, F, F] rfl rfl (one_of HT_.out (by kernel_rfl)) (by decide) (fun K hK => ?_)
  refine goes_ Try.func119 (by kernel_rfl) rfl #[.int .i64 (l0_1.length : Int), .slice Ao18 t208.length co18, (.func (.func 121) #[] #[.pointer (some ⟨gb207, 0, none⟩), .pointer (some ⟨gb204, 0, none⟩)])] (by rfl) rfl rfl (by (try simp only [List.map_toArray, List.map_cons, List.map_nil]); first | done | rfl | (simp only [List.length_drop, List.length_take]; rfl)) ?_
  with_reducible refine (matrix_each_int_121.calls k (l0_1.length : Int) _ _ t208  gb207 () gb204 a0_0 A0_1 c0_1 l0_1 t211 t212 _ ?side1 ?side2 ?side3 ?side4 ?side5 ?side6 A5.out).mono ?_
  (case side1 => repeat (first | exact (Kd.R_reads' HO210.out).2.2 | (with_reducible refine Kd.C_alloc ?_ _) | (with_reducible refine Kd.C_drewN ?_ _) | (with_reducible refine Kd.C_drew ?_)))
  (case side2 => exact (Kd.R_reads' HO210.out).2.1)
  (case side3 => (with_reducible repeat (first | refine blk_drewN ?_ _ | refine blk_drew ?_ | refine blk_alloc ?_ _)); exact BK207.out)
  (case side4 => (with_reducible repeat (first | refine blk_drewN ?_ _ | refine blk_drew ?_ | refine blk_alloc ?_ _)); exact BK204.out)
  (case side5 => repeat (first | exact (Kd.C_below HR0_1.out HB.out) | (with_reducible refine Kd.C_alloc ?_ _) | (with_reducible refine Kd.C_drewN ?_ _) | (with_reducible refine Kd.C_drew ?_)))
  (case side6 => exact HC0_1.out)
  rintro e w19 ⟨v213, rfl, ho0, hb⟩
  refine ⟨_, rfl, ?_⟩
  have n0_ := am (Kd.R_below (pr HO210) hb)
  have n1_ := am (Kd.S_lower ho0 (below_size (pb HB)))
  have n2_ := bb BK204 hb
  have n3_ := bb BK205 hb
  have n4_ := bb BK207 hb
  have n5_ := am (below_step (pb HB) hb)
  clear HO210
  clear BK204
  clear BK205
  clear BK207
  clear HB
  have HO210 := n0_
  have HO214 := n1_
  have BK204 := n2_
  have BK205 := n3_
  have BK207 := n4_
  have HB := n5_
  clear n0_ n1_ n2_ n3_ n4_ n5_
  (try clear hb)
  (try clear hb2)
  (try clear hk)
  (try clear hi)
  (try clear ho0)
  obtain ⟨Ao21, co21, eo21⟩ := Kd.S_slice HO214.out
  (first | subst eo21 | (injection eo21 with f1_ f2_ f3_; have f4_ := f1_.symm; have f5_ := f3_.symm; clear f1_ f2_ f3_; subst f4_; subst f5_))
  refine hK.out _ _ ⟨(blk_cell BK204.out 0).trans rfl, (blk_cell BK204.out 1).trans rfl⟩ (fun hHeld => ?_)
  clear hK K
  refine norm_ (a' := ?_) ?_ ?_
  rotate_left
  ·
   show Act.put _ (some 16) _ = _
   simp only [Act.put, q1, q2, q3, i64_w, i32_w]
   rfl
  refine one_ (i := 8) (N := none) #[T, T, T, T, T, T, T, T, T, F] rfl rfl (one_of HT_.out (by kernel_rfl)) (by decide) (fun K hK => ?_)
  have hs20 : w19.cell? ⟨gb205, 0, none⟩ = some (.int .i64 0) := (blk_cell BK205.out 0).trans rfl
  have hfs20 := blk_frozen BK205.out 0
  have hns20_0 := NB204_205.out
  have hns20_2 := NB207_205.out
  have hms20_0 := NB205_204.out
  have hms20_2 := NB205_207.out
  have hs22 : w19.cell? ⟨gb205, 1, none⟩ = some (.slice none 0 0) := (blk_cell BK205.out 1).trans rfl
  have hfs22 := blk_frozen BK205.out 1
  have hns22_0 := NB204_205.out
  have hns22_2 := NB207_205.out
  have hms22_0 := NB205_204.out
  have hms22_2 := NB205_207.out
  refine skip_ (w1 := ?_) (by rfl) rfl ?_ ?_
  rotate_left
  ·
   go_simp
   rfl
  refine hK.out _ _ ⟨((cell_far (p := ⟨gb205, _, none⟩) NB204_205.out _).trans (((cell_far (p := ⟨gb205, _, none⟩) NB204_205.out _).trans (hHeld.1)))), ((cell_far (p := ⟨gb205, _, none⟩) NB204_205.out _).trans (((cell_far (p := ⟨gb205, _, none⟩) NB204_205.out _).trans (hHeld.2))))⟩ (fun hHeld => ?_)
  clear hK K
  refine pure_ (i := 9) (N := some 3) (v := ?_) (a' := ?_) #[T, T, T, T, T, T, T, T, T, T] rfl rfl (any_of HT_.out (by kernel_rfl)) (fun _ _ _ h => h) (Or.inl ⟨by rfl, ?_⟩) ?_ ?_
  rotate_left
  ·
   intro w'
   go_simp
   with_reducible rfl
  rotate_left
  ·
   simp only [Act.put, q1, q2, q3, i64_w, i32_w]
   rfl
  refine done_ (done_of HT_.out (by kernel_rfl)) ?_
  try go_wp2
  refine bodyPost_ret (results_ct rfl _ _ gb205 42 #[.int .i64 t211, .slice Ao21 t212.length co21] (0, 0) _ rfl (by (with_reducible repeat (first | refine blk_drewN ?_ _ | refine blk_drew ?_ | refine blk_alloc ?_ _)); refine blk_put (cs := #[.int .i64 t211, .slice none 0 0]) ?_ 1 _ rfl; (with_reducible repeat (first | refine blk_drewN ?_ _ | refine blk_drew ?_ | refine blk_alloc ?_ _)); refine blk_put (cs := #[.int .i64 0, .slice none 0 0]) ?_ 0 _ rfl; (with_reducible repeat (first | refine blk_drewN ?_ _ | refine blk_drew ?_ | refine blk_alloc ?_ _)); exact BK205.out) Try.underlying42 rfl (by kernel_rfl)) rfl ?_
  exact ⟨_, by first | rfl | (simp [errW_none, errW_some] <;> rfl) | (simp [*, errW_none, errW_some] <;> rfl), by (with_reducible repeat (first | apply Kd.S_alloc | apply Kd.S_drewN | apply Kd.S_drew)); exact Kd.S_mono (Kd.S_far (p := ⟨gb205, 1, none⟩) (Kd.S_far (p := ⟨gb205, 0, none⟩) (Kd.S_types HO214.out BK205.out (by decide)) (fun _ hk => hk.2) (.int .i64 t211)) (fun _ hk => hk.2) (.slice Ao21 t212.length co21)) (fun _ hk => trivial), pb HB⟩
 ·
  replace c3 := Bool.eq_false_iff.mpr c3
  subst c3
  have H1 : (some (0, ([] : List (S25)), 1)) = some (r1, r2, r3) := by rw [if_neg (show ¬ (false = true) by decide)] at H; exact H
  clear H
  have H := H1
  clear H1
  simp only [Option.some.injEq, Prod.mk.injEq] at H
  obtain ⟨rfl, rfl, rfl⟩ := H
  go_enter Try.func43, Try.ntmps43
  go_wp2_with (first | ((with_reducible refine gate_dst (N := 1) rfl ?_); refine box_event ?hg (N := 1) ?hd (cs := #[.int .i64 a0_0, .slice A0_1 l0_1.length c0_1]) (t := 42) ?hr ?_; (case hd => rfl); (case hg => rfl); (case hr => first | (go_simp; done) | (go_simp; rfl)); intro gb204 hg w23 hbox hb; have n0_ := am (below_step (pb HB) hb); have n1_ := am (hbox); have n2_ := am ((by rw [hg]; exact (below_size (pb HB)) : w.heap.size ≤ gb204)); have n3_ := am ((by rw [hg]; exact (below_size (pb HB)) : w.heap.size ≤ gb204)); clear HB; have HB := n0_; have BK204 := n1_; have GW204 := n2_; have GE204 := n3_; clear n0_ n1_ n2_ n3_ hb hbox hg) | ((with_reducible refine gate_dst (N := 2) rfl ?_); refine box_event ?hg (N := 2) ?hd (cs := #[.int .i64 0, .slice none 0 0]) (t := 42) ?hr ?_; (case hd => rfl); (case hg => rfl); (case hr => first | (go_simp; done) | (go_simp; rfl)); intro gb205 hg w24 hbox hb; have n0_ := bb BK204 hb; have n1_ := am (below_step (pb HB) hb); have n2_ := am (hbox); have n3_ := am ((by rw [hg]; exact (below_size (pb HB)) : w.heap.size ≤ gb205)); have n4_ := am ((by rw [hg]; exact (below_size (pb HB)) : w.heap.size ≤ gb205)); have n5_ := am ((by rw [hg]; exact Nat.ne_of_lt (bl BK204) : gb204 ≠ gb205)); have n6_ := am ((by rw [hg]; exact Nat.ne_of_gt (bl BK204) : gb205 ≠ gb204)); clear BK204 HB; have BK204 := n0_; have HB := n1_; have BK205 := n2_; have GW205 := n3_; have GE205 := n4_; have NB204_205 := n5_; have NB205_204 := n6_; clear n0_ n1_ n2_ n3_ n4_ n5_ n6_ hb hbox hg; have hnb25 := NB204_205.out; have hnc25 := NB205_204.out; have hcz26_0 : w24.cell? ⟨gb204, 0, none⟩ = some (.int .i64 a0_0) := (blk_cell BK204.out 0).trans rfl; have hcz26_1 : w24.cell? ⟨gb204, 1, none⟩ = some (.slice A0_1 l0_1.length c0_1) := (blk_cell BK204.out 1).trans rfl; have hfz26_0 := blk_frozen BK204.out 0; have hfz26_1 := blk_frozen BK204.out 1) | ((with_reducible refine gate_callee (f := 45) rfl ?_); refine goesL_ (some 6) rfl rfl Try.func45 (by kernel_rfl) rfl #[.agg #[.int .i64 a0_0, .slice A0_1 l0_1.length c0_1]] rfl (by (try simp only [List.map_toArray, List.map_cons, List.map_nil]); first | done | rfl | (simp only [List.length_drop, List.length_take]; rfl)) ?_; (with_reducible refine (matrix_Right.calls k a0_0 _ _ l0_1 false _ ?side1 ?side2 A2.out).mono ?_); (case side1 => repeat (first | exact (Kd.C_below HR0_1.out HB.out) | (with_reducible refine Kd.C_alloc ?_ _) | (with_reducible refine Kd.C_drewN ?_ _) | (with_reducible refine Kd.C_drew ?_))); (case side2 => exact HC0_1.out); rintro e w27 ⟨rfl, hb⟩; refine ⟨_, rfl, ?_⟩; have n0_ := bb BK204 hb; have n1_ := bb BK205 hb; have n2_ := am (below_step (pb HB) hb); clear BK204 BK205 HB; have BK204 := n0_; have BK205 := n1_; have HB := n2_; clear n0_ n1_ n2_; (try clear hb); (try clear hb2); (try clear hk); (try clear hi); have hcz28_0 : w27.cell? ⟨gb205, 0, none⟩ = some (.int .i64 0) := (blk_cell BK205.out 0).trans rfl; have hcz28_1 : w27.cell? ⟨gb205, 1, none⟩ = some (.slice none 0 0) := (blk_cell BK205.out 1).trans rfl; have hfz28_0 := blk_frozen BK205.out 0; have hfz28_1 := blk_frozen BK205.out 1))
  refine bodyPost_ret (results_ct rfl _ _ gb205 42 #[.int .i64 0, .slice none 0 0] (0, 0) _ rfl (by (with_reducible repeat (first | refine blk_drewN ?_ _ | refine blk_drew ?_ | refine blk_alloc ?_ _)); refine blk_put (cs := #[.int .i64 0, .slice none 0 0]) ?_ 1 _ rfl; (with_reducible repeat (first | refine blk_drewN ?_ _ | refine blk_drew ?_ | refine blk_alloc ?_ _)); refine blk_put (cs := #[.int .i64 0, .slice none 0 0]) ?_ 0 _ rfl; (with_reducible repeat (first | refine blk_drewN ?_ _ | refine blk_drew ?_ | refine blk_alloc ?_ _)); exact BK205.out) Try.underlying42 rfl (by kernel_rfl)) rfl ?_
  exact ⟨_, by first | rfl | (simp [errW_none, errW_some] <;> rfl) | (simp [*, errW_none, errW_some] <;> rfl), by first | exact Kd.S_nil _ _ _ _ _ | exact Kd.N_nil _ _ _ _ _ | exact Kd.V_nil _ _ _ _ _ | exact Kd.Q_nil _ _ _ _ _ | exact Kd.R_nil _ _ _ _ _, pb HB⟩

end Go.Proofs.Ytfdcjkhckjnaeaa.PD
