-- PRINTED by print.py (a twelfth state) out of the translation. Not trusted: Lean checks it.
import Derived.Test.YtfdcjkhckjnaeaaPDx0
import Derived.Test.YtfdcjkhckjnaeaaPDx2
namespace Go.Proofs.Ytfdcjkhckjnaeaa.PD
open Go.RowKit Go.Proofs.YtfdcjkhckjnaeaaW.PrintWords Go.Proofs.YtfdcjkhckjnaeaaW.PrintLast Go.Proofs.YtfdcjkhckjnaeaaW.PrintMore
open Bool renaming true → T, false → F
open List renaming setIfInBounds_toArray → q1, set_cons_zero → q2, set_cons_succ → q3
attribute [local go_sem] run_store_func max2_int min2_int max_two min_two max_three min_three max_four min_four   -- for this text's walks alone
set_option linter.unusedVariables false
set_option linter.unusedSimpArgs false

/-! ### bitrow_Right: function 22 -/
def bitrow_Right.f (a0_0 : Int) (l0_1 : List Int) : Option (Bool) := (bitrow_sized.f a0_0).bind fun t137 => (if t137 = true then (if (l0_1.length : Int) = (wrap64 (Int.tdiv (wrap64 ((wrap64 (a0_0 + 64)) - 1)) 64)) then (if (Int.tmod a0_0 64) = 0 then (some true) else (if 0 ≤ (wrap64 ((l0_1.length : Int) - 1)) then (if (wrap64 ((l0_1.length : Int) - 1)) < (l0_1.length : Int) then (if 0 ≤ (Int.tmod a0_0 64) then (some ((shr .u64 (rd l0_1 (wrap64 ((l0_1.length : Int) - 1))) (Int.tmod a0_0 64)) == 0)) else (none)) else (none)) else (none))) else (some false)) else (some false))
set_option maxHeartbeats 8000000 in
set_option maxRecDepth 100000 in
theorem bitrow_Right.calls (a0_0 : Int) (A0_1 : Option Addr) (c0_1 : Nat) (l0_1 : List Int) (r : Bool) (w : World) (hr0_1 : Kd.C (Kd.int .u64) w A0_1 l0_1.length l0_1) (hc0_1 : l0_1.length ≤ c0_1) (h : bitrow_Right.f a0_0 l0_1 = some r) :
  Calls Try.prog 22 #[.agg #[.int .i64 a0_0, .slice A0_1 l0_1.length c0_1]] w fun e w' => e = .returned (.bool r) ∧ Below w.heap.size w w' := by
 have hu25 := Try.underlying25
 have HR0_1 := Aside0.mk hr0_1
 have HC0_1 := Aside0.mk hc0_1
 clear hr0_1 hc0_1
 have HB := am (Below.refl w.heap.size w)
 have H : ((bitrow_sized.f a0_0).bind fun t137 => (if t137 = true then (if (l0_1.length : Int) = (wrap64 (Int.tdiv (wrap64 ((wrap64 (a0_0 + 64)) - 1)) 64)) then (if (Int.tmod a0_0 64) = 0 then (some true) else (if 0 ≤ (wrap64 ((l0_1.length : Int) - 1)) then (if (wrap64 ((l0_1.length : Int) - 1)) < (l0_1.length : Int) then (if 0 ≤ (Int.tmod a0_0 64) then (some ((shr .u64 (rd l0_1 (wrap64 ((l0_1.length : Int) - 1))) (Int.tmod a0_0 64)) == 0)) else (none)) else (none)) else (none))) else (some false)) else (some false))) = some r := h
 clear h
 replace H := Option.bind_eq_some_iff.mp H
 obtain ⟨t137, A20, H⟩ := H
 replace H : (if t137 = true then (if (l0_1.length : Int) = (wrap64 (Int.tdiv (wrap64 ((wrap64 (a0_0 + 64)) - 1)) 64)) then (if (Int.tmod a0_0 64) = 0 then (some true) else (if 0 ≤ (wrap64 ((l0_1.length : Int) - 1)) then (if (wrap64 ((l0_1.length : Int) - 1)) < (l0_1.length : Int) then (if 0 ≤ (Int.tmod a0_0 64) then (some ((shr .u64 (rd l0_1 (wrap64 ((l0_1.length : Int) - 1))) (Int.tmod a0_0 64)) == 0)) else (none)) else (none)) else (none))) else (some false)) else (some false)) = some r := H
 have A2 := Aside0.mk A20
 clear A20
 by_cases c3 : t137 = true
 ·
  subst c3
  have H1 : (if (l0_1.length : Int) = (wrap64 (Int.tdiv (wrap64 ((wrap64 (a0_0 + 64)) - 1)) 64)) then (if (Int.tmod a0_0 64) = 0 then (some true) else (if 0 ≤ (wrap64 ((l0_1.length : Int) - 1)) then (if (wrap64 ((l0_1.length : Int) - 1)) < (l0_1.length : Int) then (if 0 ≤ (Int.tmod a0_0 64) then (some ((shr .u64 (rd l0_1 (wrap64 ((l0_1.length : Int) - 1))) (Int.tmod a0_0 64)) == 0)) else (none)) else (none)) else (none))) else (some false)) = some r := by rw [if_pos rfl] at H; exact H
  clear H
  have H := H1
  clear H1
  by_cases c4 : (l0_1.length : Int) = (wrap64 (Int.tdiv (wrap64 ((wrap64 (a0_0 + 64)) - 1)) 64))
  ·
   rw [if_pos c4] at H
   have c4b0 : ((l0_1.length : Int) == (wrap64 (Int.tdiv (wrap64 ((wrap64 (a0_0 + 64)) - 1)) 64))) = true := beq_iff_eq.mpr c4
   have c4b1 : ((l0_1.length : Int) != (wrap64 (Int.tdiv (wrap64 ((wrap64 (a0_0 + 64)) - 1)) 64))) = false := bne_eq_false_iff_eq.mpr c4
   clear c4
   by_cases c5 : (Int.tmod a0_0 64) = 0
   ·
    rw [if_pos c5] at H
    have c5b0 : ((Int.tmod a0_0 64) == 0) = true := beq_iff_eq.mpr c5
    have c5b1 : ((Int.tmod a0_0 64) != 0) = false := bne_eq_false_iff_eq.mpr c5
    clear c5
    obtain rfl := Option.some.inj H
    go_enter Try.func22, Try.ntmps22
    go_wp2_with (first | ((with_reducible refine gate_dst (N := 1) rfl ?_); (try (refine gate_guard (by rfl) ?_; dsimp only)); refine box_event ?hg (N := 1) ?hd (cs := #[.int .i64 a0_0, .slice A0_1 l0_1.length c0_1]) (t := 25) ?hr ?_; (case hd => rfl); (case hg => rfl); (case hr => first | (go_simp; done) | (go_simp; rfl)); intro gb136 hg w6 hbox hb; have n0_ := am (below_step (pb HB) hb); have n1_ := am (hbox); have n2_ := am ((by rw [hg]; exact (below_size (pb HB)) : w.heap.size ≤ gb136)); have n3_ := am ((by rw [hg]; exact (below_size (pb HB)) : w.heap.size ≤ gb136)); clear HB; have HB := n0_; have BK136 := n1_; have GW136 := n2_; have GE136 := n3_; clear n0_ n1_ n2_ n3_ hb hbox hg; have hcz7_0 : w6.cell? ⟨gb136, 0, none⟩ = some (.int .i64 a0_0) := (blk_cell BK136.out 0).trans rfl; have hcz7_1 : w6.cell? ⟨gb136, 1, none⟩ = some (.slice A0_1 l0_1.length c0_1) := (blk_cell BK136.out 1).trans rfl; have hfz7_0 := blk_frozen BK136.out 0; have hfz7_1 := blk_frozen BK136.out 1) | (go_at_call 103; (with_reducible refine (bitrow_sized.calls a0_0 true _ A2.out).mono ?_); rintro e w' ⟨rfl, ⟨nd, rfl⟩⟩; (try first | exact ⟨rfl, _, World.drewN_drewN _ _ _⟩ | exact ⟨rfl, _, Eq.trans (World.drewN_drewN _ _ _) (congrArg (World.drewN _) (Nat.add_assoc _ _ _))⟩)))
    repeat (go_quiet (first | ((with_reducible refine gate_dst (N := 1) rfl ?_); (try (refine gate_guard (by rfl) ?_; dsimp only)); refine box_event ?hg (N := 1) ?hd (cs := #[.int .i64 a0_0, .slice A0_1 l0_1.length c0_1]) (t := 25) ?hr ?_; (case hd => rfl); (case hg => rfl); (case hr => first | (go_simp; done) | (go_simp; rfl)); intro gb136 hg w6 hbox hb; have n0_ := am (below_step (pb HB) hb); have n1_ := am (hbox); have n2_ := am ((by rw [hg]; exact (below_size (pb HB)) : w.heap.size ≤ gb136)); have n3_ := am ((by rw [hg]; exact (below_size (pb HB)) : w.heap.size ≤ gb136)); clear HB; have HB := n0_; have BK136 := n1_; have GW136 := n2_; have GE136 := n3_; clear n0_ n1_ n2_ n3_ hb hbox hg; have hcz7_0 : w6.cell? ⟨gb136, 0, none⟩ = some (.int .i64 a0_0) := (blk_cell BK136.out 0).trans rfl; have hcz7_1 : w6.cell? ⟨gb136, 1, none⟩ = some (.slice A0_1 l0_1.length c0_1) := (blk_cell BK136.out 1).trans rfl; have hfz7_0 := blk_frozen BK136.out 0; have hfz7_1 := blk_frozen BK136.out 1) | (go_at_call 103; (with_reducible refine (bitrow_sized.calls a0_0 true _ A2.out).mono ?_); rintro e w' ⟨rfl, ⟨nd, rfl⟩⟩; (try first | exact ⟨rfl, _, World.drewN_drewN _ _ _⟩ | exact ⟨rfl, _, Eq.trans (World.drewN_drewN _ _ _) (congrArg (World.drewN _) (Nat.add_assoc _ _ _))⟩))); try go_wp2_with (first | ((with_reducible refine gate_dst (N := 1) rfl ?_); (try (refine gate_guard (by rfl) ?_; dsimp only)); refine box_event ?hg (N := 1) ?hd (cs := #[.int .i64 a0_0, .slice A0_1 l0_1.length c0_1]) (t := 25) ?hr ?_; (case hd => rfl); (case hg => rfl); (case hr => first | (go_simp; done) | (go_simp; rfl)); intro gb136 hg w6 hbox hb; have n0_ := am (below_step (pb HB) hb); have n1_ := am (hbox); have n2_ := am ((by rw [hg]; exact (below_size (pb HB)) : w.heap.size ≤ gb136)); have n3_ := am ((by rw [hg]; exact (below_size (pb HB)) : w.heap.size ≤ gb136)); clear HB; have HB := n0_; have BK136 := n1_; have GW136 := n2_; have GE136 := n3_; clear n0_ n1_ n2_ n3_ hb hbox hg; have hcz7_0 : w6.cell? ⟨gb136, 0, none⟩ = some (.int .i64 a0_0) := (blk_cell BK136.out 0).trans rfl; have hcz7_1 : w6.cell? ⟨gb136, 1, none⟩ = some (.slice A0_1 l0_1.length c0_1) := (blk_cell BK136.out 1).trans rfl; have hfz7_0 := blk_frozen BK136.out 0; have hfz7_1 := blk_frozen BK136.out 1) | (go_at_call 103; (with_reducible refine (bitrow_sized.calls a0_0 true _ A2.out).mono ?_); rintro e w' ⟨rfl, ⟨nd, rfl⟩⟩; (try first | exact ⟨rfl, _, World.drewN_drewN _ _ _⟩ | exact ⟨rfl, _, Eq.trans (World.drewN_drewN _ _ _) (congrArg (World.drewN _) (Nat.add_assoc _ _ _))⟩))))
    go_ret
    exact ⟨by first | rfl | (simp [errW_none, errW_some] <;> rfl) | (simp [*, errW_none, errW_some] <;> rfl), pb HB⟩
   ·
    rw [if_neg c5] at H
    have c5b0 : ((Int.tmod a0_0 64) == 0) = false := beq_eq_false_iff_ne.mpr c5
    have c5b1 : ((Int.tmod a0_0 64) != 0) = true := bne_iff_ne.mpr c5
    obtain ⟨ji8, hji8⟩ : ∃ j_ : Int, (wrap64 ((l0_1.length : Int) - 1)) = j_ := ⟨_, rfl⟩
    replace H : (if 0 ≤ (ji8) then (if (ji8) < (l0_1.length : Int) then (if 0 ≤ (Int.tmod a0_0 64) then (some ((shr .u64 (rd l0_1 (ji8)) (Int.tmod a0_0 64)) == 0)) else (none)) else (none)) else (none)) = some r := by first | (rw [hji8] at H; exact H) | (simp only [hji8] at H ⊢; exact H)
    (try rw [hji8] at A2)
    have hji8w : (IntKind.i64.wrap ((l0_1.length : Int) - 1)) = ji8 := (i64_w _).trans hji8
    by_cases c9 : 0 ≤ (ji8)
    ·
     rw [if_pos c9] at H
     have c9b0 : decide (0 ≤ (ji8)) = true := decide_eq_true c9
     clear c9
     by_cases c10 : (ji8) < (l0_1.length : Int)
     ·
      rw [if_pos c10] at H
      have c10b0 : decide ((ji8) < (l0_1.length : Int)) = true := decide_eq_true c10
      clear c10
      obtain ⟨ji11, hji11⟩ : ∃ j_ : Int, (Int.tmod a0_0 64) = j_ := ⟨_, rfl⟩
      replace H : (if 0 ≤ (ji11) then (some ((shr .u64 (rd l0_1 (ji8)) (ji11)) == 0)) else (none)) = some r := by first | (rw [hji11] at H; exact H) | (simp only [hji11] at H ⊢; exact H)
      (try rw [hji11] at c5b0)
      (try rw [hji11] at c5b1)
      (try rw [hji11] at A2)
      by_cases c12 : 0 ≤ (ji11)
      ·
       rw [if_pos c12] at H
       have c12b0 := eq_true c12
       have c12b1 : decide (0 ≤ (ji11)) = true := decide_eq_true c12
       clear c12
       obtain ⟨ji13, hji13⟩ : ∃ j_ : Int, (shr .u64 (rd l0_1 (ji8)) (ji11)) = j_ := ⟨_, rfl⟩
       replace H : (some ((ji13) == 0)) = some r := by first | (rw [hji13] at H; exact H) | (simp only [hji13] at H ⊢; exact H)
       (try rw [hji13] at A2)
       have hji13_ : ((rd l0_1 (ji8)) / 2 ^ min (ji11).toNat 64) = ji13 := hji13
       have hji13z : (ji11) ≤ 64 → ((rd l0_1 (ji8)) / 2 ^ (ji11).toNat) = ji13 := shr_small hji13
       obtain rfl := Option.some.inj H
       go_enter Try.func22, Try.ntmps22
       go_wp2_with (first | ((with_reducible refine gate_dst (N := 1) rfl ?_); (try (refine gate_guard (by rfl) ?_; dsimp only)); refine box_event ?hg (N := 1) ?hd (cs := #[.int .i64 a0_0, .slice A0_1 l0_1.length c0_1]) (t := 25) ?hr ?_; (case hd => rfl); (case hg => rfl); (case hr => first | (go_simp; done) | (go_simp; rfl)); intro gb136 hg w14 hbox hb; have n0_ := am (below_step (pb HB) hb); have n1_ := am (hbox); have n2_ := am ((by rw [hg]; exact (below_size (pb HB)) : w.heap.size ≤ gb136)); have n3_ := am ((by rw [hg]; exact (below_size (pb HB)) : w.heap.size ≤ gb136)); clear HB; have HB := n0_; have BK136 := n1_; have GW136 := n2_; have GE136 := n3_; clear n0_ n1_ n2_ n3_ hb hbox hg; have hcz15_0 : w14.cell? ⟨gb136, 0, none⟩ = some (.int .i64 a0_0) := (blk_cell BK136.out 0).trans rfl; have hcz15_1 : w14.cell? ⟨gb136, 1, none⟩ = some (.slice A0_1 l0_1.length c0_1) := (blk_cell BK136.out 1).trans rfl; have hfz15_0 := blk_frozen BK136.out 0; have hfz15_1 := blk_frozen BK136.out 1) | (go_at_call 103; (with_reducible refine (bitrow_sized.calls a0_0 true _ A2.out).mono ?_); rintro e w' ⟨rfl, ⟨nd, rfl⟩⟩; (try first | exact ⟨rfl, _, World.drewN_drewN _ _ _⟩ | exact ⟨rfl, _, Eq.trans (World.drewN_drewN _ _ _) (congrArg (World.drewN _) (Nat.add_assoc _ _ _))⟩); have p138 : 0 ≤ ((ji8) : Int) := of_decide_eq_true (by first | (with_reducible assumption) | assumption); have q138 : (ji8) < (l0_1.length : Int) := of_decide_eq_true (by first | (with_reducible assumption) | assumption); obtain ⟨ad138, e138, hx138_0⟩ := Kd.at_int HR0_1.out (ji8) p138 q138; cases e138; replace hx138_0 := (HB.out.cell (World.block_lt_of_cell? w _ hx138_0)).trans hx138_0; replace p138 := eq_true p138; replace q138 := eq_true q138))
       repeat (go_quiet (first | ((with_reducible refine gate_dst (N := 1) rfl ?_); (try (refine gate_guard (by rfl) ?_; dsimp only)); refine box_event ?hg (N := 1) ?hd (cs := #[.int .i64 a0_0, .slice A0_1 l0_1.length c0_1]) (t := 25) ?hr ?_; (case hd => rfl); (case hg => rfl); (case hr => first | (go_simp; done) | (go_simp; rfl)); intro gb136 hg w14 hbox hb; have n0_ := am (below_step (pb HB) hb); have n1_ := am (hbox); have n2_ := am ((by rw [hg]; exact (below_size (pb HB)) : w.heap.size ≤ gb136)); have n3_ := am ((by rw [hg]; exact (below_size (pb HB)) : w.heap.size ≤ gb136)); clear HB; have HB := n0_; have BK136 := n1_; have GW136 := n2_; have GE136 := n3_; clear n0_ n1_ n2_ n3_ hb hbox hg; have hcz15_0 : w14.cell? ⟨gb136, 0, none⟩ = some (.int .i64 a0_0) := (blk_cell BK136.out 0).trans rfl; have hcz15_1 : w14.cell? ⟨gb136, 1, none⟩ = some (.slice A0_1 l0_1.length c0_1) := (blk_cell BK136.out 1).trans rfl; have hfz15_0 := blk_frozen BK136.out 0; have hfz15_1 := blk_frozen BK136.out 1) | (go_at_call 103; (with_reducible refine (bitrow_sized.calls a0_0 true _ A2.out).mono ?_); rintro e w' ⟨rfl, ⟨nd, rfl⟩⟩; (try first | exact ⟨rfl, _, World.drewN_drewN _ _ _⟩ | exact ⟨rfl, _, Eq.trans (World.drewN_drewN _ _ _) (congrArg (World.drewN _) (Nat.add_assoc _ _ _))⟩); have p138 : 0 ≤ ((ji8) : Int) := of_decide_eq_true (by first | (with_reducible assumption) | assumption); have q138 : (ji8) < (l0_1.length : Int) := of_decide_eq_true (by first | (with_reducible assumption) | assumption); obtain ⟨ad138, e138, hx138_0⟩ := Kd.at_int HR0_1.out (ji8) p138 q138; cases e138; replace hx138_0 := (HB.out.cell (World.block_lt_of_cell? w _ hx138_0)).trans hx138_0; replace p138 := eq_true p138; replace q138 := eq_true q138)); try go_wp2_with (first | ((with_reducible refine gate_dst (N := 1) rfl ?_); (try (refine gate_guard (by rfl) ?_; dsimp only)); refine box_event ?hg (N := 1) ?hd (cs := #[.int .i64 a0_0, .slice A0_1 l0_1.length c0_1]) (t := 25) ?hr ?_; (case hd => rfl); (case hg => rfl); (case hr => first | (go_simp; done) | (go_simp; rfl)); intro gb136 hg w14 hbox hb; have n0_ := am (below_step (pb HB) hb); have n1_ := am (hbox); have n2_ := am ((by rw [hg]; exact (below_size (pb HB)) : w.heap.size ≤ gb136)); have n3_ := am ((by rw [hg]; exact (below_size (pb HB)) : w.heap.size ≤ gb136)); clear HB; have HB := n0_; have BK136 := n1_; have GW136 := n2_; have GE136 := n3_; clear n0_ n1_ n2_ n3_ hb hbox hg; have hcz15_0 : w14.cell? ⟨gb136, 0, none⟩ = some (.int .i64 a0_0) := (blk_cell BK136.out 0).trans rfl; have hcz15_1 : w14.cell? ⟨gb136, 1, none⟩ = some (.slice A0_1 l0_1.length c0_1) := (blk_cell BK136.out 1).trans rfl; have hfz15_0 := blk_frozen BK136.out 0; have hfz15_1 := blk_frozen BK136.out 1) | (go_at_call 103; (with_reducible refine (bitrow_sized.calls a0_0 true _ A2.out).mono ?_); rintro e w' ⟨rfl, ⟨nd, rfl⟩⟩; (try first | exact ⟨rfl, _, World.drewN_drewN _ _ _⟩ | exact ⟨rfl, _, Eq.trans (World.drewN_drewN _ _ _) (congrArg (World.drewN _) (Nat.add_assoc _ _ _))⟩); have p138 : 0 ≤ ((ji8) : Int) := of_decide_eq_true (by first | (with_reducible assumption) | assumption); have q138 : (ji8) < (l0_1.length : Int) := of_decide_eq_true (by first | (with_reducible assumption) | assumption); obtain ⟨ad138, e138, hx138_0⟩ := Kd.at_int HR0_1.out (ji8) p138 q138; cases e138; replace hx138_0 := (HB.out.cell (World.block_lt_of_cell? w _ hx138_0)).trans hx138_0; replace p138 := eq_true p138; replace q138 := eq_true q138)))
       go_ret
       exact ⟨by first | rfl | (simp [errW_none, errW_some] <;> rfl) | (simp only [← hji8, ← hji11, ← hji13]; first | rfl | (simp [errW_none, errW_some] <;> rfl)) | (simp [*, errW_none, errW_some] <;> rfl), pb HB⟩
      ·
       rw [if_neg c12] at H
       exact absurd H (by simp)
     ·
      rw [if_neg c10] at H
      exact absurd H (by simp)
    ·
     rw [if_neg c9] at H
     exact absurd H (by simp)
  ·
   rw [if_neg c4] at H
   have c4b0 : ((l0_1.length : Int) == (wrap64 (Int.tdiv (wrap64 ((wrap64 (a0_0 + 64)) - 1)) 64))) = false := beq_eq_false_iff_ne.mpr c4
   have c4b1 : ((l0_1.length : Int) != (wrap64 (Int.tdiv (wrap64 ((wrap64 (a0_0 + 64)) - 1)) 64))) = true := bne_iff_ne.mpr c4
   obtain rfl := Option.some.inj H
   go_enter Try.func22, Try.ntmps22
   go_wp2_with (first | ((with_reducible refine gate_dst (N := 1) rfl ?_); (try (refine gate_guard (by rfl) ?_; dsimp only)); refine box_event ?hg (N := 1) ?hd (cs := #[.int .i64 a0_0, .slice A0_1 l0_1.length c0_1]) (t := 25) ?hr ?_; (case hd => rfl); (case hg => rfl); (case hr => first | (go_simp; done) | (go_simp; rfl)); intro gb136 hg w16 hbox hb; have n0_ := am (below_step (pb HB) hb); have n1_ := am (hbox); have n2_ := am ((by rw [hg]; exact (below_size (pb HB)) : w.heap.size ≤ gb136)); have n3_ := am ((by rw [hg]; exact (below_size (pb HB)) : w.heap.size ≤ gb136)); clear HB; have HB := n0_; have BK136 := n1_; have GW136 := n2_; have GE136 := n3_; clear n0_ n1_ n2_ n3_ hb hbox hg; have hcz17_0 : w16.cell? ⟨gb136, 0, none⟩ = some (.int .i64 a0_0) := (blk_cell BK136.out 0).trans rfl; have hcz17_1 : w16.cell? ⟨gb136, 1, none⟩ = some (.slice A0_1 l0_1.length c0_1) := (blk_cell BK136.out 1).trans rfl; have hfz17_0 := blk_frozen BK136.out 0; have hfz17_1 := blk_frozen BK136.out 1) | (go_at_call 103; (with_reducible refine (bitrow_sized.calls a0_0 true _ A2.out).mono ?_); rintro e w' ⟨rfl, ⟨nd, rfl⟩⟩; (try first | exact ⟨rfl, _, World.drewN_drewN _ _ _⟩ | exact ⟨rfl, _, Eq.trans (World.drewN_drewN _ _ _) (congrArg (World.drewN _) (Nat.add_assoc _ _ _))⟩)))
   repeat (go_quiet (first | ((with_reducible refine gate_dst (N := 1) rfl ?_); (try (refine gate_guard (by rfl) ?_; dsimp only)); refine box_event ?hg (N := 1) ?hd (cs := #[.int .i64 a0_0, .slice A0_1 l0_1.length c0_1]) (t := 25) ?hr ?_; (case hd => rfl); (case hg => rfl); (case hr => first | (go_simp; done) | (go_simp; rfl)); intro gb136 hg w16 hbox hb; have n0_ := am (below_step (pb HB) hb); have n1_ := am (hbox); have n2_ := am ((by rw [hg]; exact (below_size (pb HB)) : w.heap.size ≤ gb136)); have n3_ := am ((by rw [hg]; exact (below_size (pb HB)) : w.heap.size ≤ gb136)); clear HB; have HB := n0_; have BK136 := n1_; have GW136 := n2_; have GE136 := n3_; clear n0_ n1_ n2_ n3_ hb hbox hg; have hcz17_0 : w16.cell? ⟨gb136, 0, none⟩ = some (.int .i64 a0_0) := (blk_cell BK136.out 0).trans rfl; have hcz17_1 : w16.cell? ⟨gb136, 1, none⟩ = some (.slice A0_1 l0_1.length c0_1) := (blk_cell BK136.out 1).trans rfl; have hfz17_0 := blk_frozen BK136.out 0; have hfz17_1 := blk_frozen BK136.out 1) | (go_at_call 103; (with_reducible refine (bitrow_sized.calls a0_0 true _ A2.out).mono ?_); rintro e w' ⟨rfl, ⟨nd, rfl⟩⟩; (try first | exact ⟨rfl, _, World.drewN_drewN _ _ _⟩ | exact ⟨rfl, _, Eq.trans (World.drewN_drewN _ _ _) (congrArg (World.drewN _) (Nat.add_assoc _ _ _))⟩))); try go_wp2_with (first | ((with_reducible refine gate_dst (N := 1) rfl ?_); (try (refine gate_guard (by rfl) ?_; dsimp only)); refine box_event ?hg (N := 1) ?hd (cs := #[.int .i64 a0_0, .slice A0_1 l0_1.length c0_1]) (t := 25) ?hr ?_; (case hd => rfl); (case hg => rfl); (case hr => first | (go_simp; done) | (go_simp; rfl)); intro gb136 hg w16 hbox hb; have n0_ := am (below_step (pb HB) hb); have n1_ := am (hbox); have n2_ := am ((by rw [hg]; exact (below_size (pb HB)) : w.heap.size ≤ gb136)); have n3_ := am ((by rw [hg]; exact (below_size (pb HB)) : w.heap.size ≤ gb136)); clear HB; have HB := n0_; have BK136 := n1_; have GW136 := n2_; have GE136 := n3_; clear n0_ n1_ n2_ n3_ hb hbox hg; have hcz17_0 : w16.cell? ⟨gb136, 0, none⟩ = some (.int .i64 a0_0) := (blk_cell BK136.out 0).trans rfl; have hcz17_1 : w16.cell? ⟨gb136, 1, none⟩ = some (.slice A0_1 l0_1.length c0_1) := (blk_cell BK136.out 1).trans rfl; have hfz17_0 := blk_frozen BK136.out 0; have hfz17_1 := blk_frozen BK136.out 1) | (go_at_call 103; (with_reducible refine (bitrow_sized.calls a0_0 true _ A2.out).mono ?_); rintro e w' ⟨rfl, ⟨nd, rfl⟩⟩; (try first | exact ⟨rfl, _, World.drewN_drewN _ _ _⟩ | exact ⟨rfl, _, Eq.trans (World.drewN_drewN _ _ _) (congrArg (World.drewN _) (Nat.add_assoc _ _ _))⟩))))
   go_ret
   exact ⟨by first | rfl | (simp [errW_none, errW_some] <;> rfl) | (simp [*, errW_none, errW_some] <;> rfl), pb HB⟩
 ·
  replace c3 := Bool.eq_false_iff.mpr c3
  subst c3
  have H1 : (some false) = some r := by rw [if_neg (show ¬ (false = true) by decide)] at H; exact H
  clear H
  have H := H1
  clear H1
  obtain rfl := Option.some.inj H
  go_enter Try.func22, Try.ntmps22
  go_wp2_with (first | ((with_reducible refine gate_dst (N := 1) rfl ?_); (try (refine gate_guard (by rfl) ?_; dsimp only)); refine box_event ?hg (N := 1) ?hd (cs := #[.int .i64 a0_0, .slice A0_1 l0_1.length c0_1]) (t := 25) ?hr ?_; (case hd => rfl); (case hg => rfl); (case hr => first | (go_simp; done) | (go_simp; rfl)); intro gb136 hg w18 hbox hb; have n0_ := am (below_step (pb HB) hb); have n1_ := am (hbox); have n2_ := am ((by rw [hg]; exact (below_size (pb HB)) : w.heap.size ≤ gb136)); have n3_ := am ((by rw [hg]; exact (below_size (pb HB)) : w.heap.size ≤ gb136)); clear HB; have HB := n0_; have BK136 := n1_; have GW136 := n2_; have GE136 := n3_; clear n0_ n1_ n2_ n3_ hb hbox hg; have hcz19_0 : w18.cell? ⟨gb136, 0, none⟩ = some (.int .i64 a0_0) := (blk_cell BK136.out 0).trans rfl; have hcz19_1 : w18.cell? ⟨gb136, 1, none⟩ = some (.slice A0_1 l0_1.length c0_1) := (blk_cell BK136.out 1).trans rfl; have hfz19_0 := blk_frozen BK136.out 0; have hfz19_1 := blk_frozen BK136.out 1) | (go_at_call 103; (with_reducible refine (bitrow_sized.calls a0_0 false _ A2.out).mono ?_); rintro e w' ⟨rfl, ⟨nd, rfl⟩⟩; (try first | exact ⟨rfl, _, World.drewN_drewN _ _ _⟩ | exact ⟨rfl, _, Eq.trans (World.drewN_drewN _ _ _) (congrArg (World.drewN _) (Nat.add_assoc _ _ _))⟩)))
  repeat (go_quiet (first | ((with_reducible refine gate_dst (N := 1) rfl ?_); (try (refine gate_guard (by rfl) ?_; dsimp only)); refine box_event ?hg (N := 1) ?hd (cs := #[.int .i64 a0_0, .slice A0_1 l0_1.length c0_1]) (t := 25) ?hr ?_; (case hd => rfl); (case hg => rfl); (case hr => first | (go_simp; done) | (go_simp; rfl)); intro gb136 hg w18 hbox hb; have n0_ := am (below_step (pb HB) hb); have n1_ := am (hbox); have n2_ := am ((by rw [hg]; exact (below_size (pb HB)) : w.heap.size ≤ gb136)); have n3_ := am ((by rw [hg]; exact (below_size (pb HB)) : w.heap.size ≤ gb136)); clear HB; have HB := n0_; have BK136 := n1_; have GW136 := n2_; have GE136 := n3_; clear n0_ n1_ n2_ n3_ hb hbox hg; have hcz19_0 : w18.cell? ⟨gb136, 0, none⟩ = some (.int .i64 a0_0) := (blk_cell BK136.out 0).trans rfl; have hcz19_1 : w18.cell? ⟨gb136, 1, none⟩ = some (.slice A0_1 l0_1.length c0_1) := (blk_cell BK136.out 1).trans rfl; have hfz19_0 := blk_frozen BK136.out 0; have hfz19_1 := blk_frozen BK136.out 1) | (go_at_call 103; (with_reducible refine (bitrow_sized.calls a0_0 false _ A2.out).mono ?_); rintro e w' ⟨rfl, ⟨nd, rfl⟩⟩; (try first | exact ⟨rfl, _, World.drewN_drewN _ _ _⟩ | exact ⟨rfl, _, Eq.trans (World.drewN_drewN _ _ _) (congrArg (World.drewN _) (Nat.add_assoc _ _ _))⟩))); try go_wp2_with (first | ((with_reducible refine gate_dst (N := 1) rfl ?_); (try (refine gate_guard (by rfl) ?_; dsimp only)); refine box_event ?hg (N := 1) ?hd (cs := #[.int .i64 a0_0, .slice A0_1 l0_1.length c0_1]) (t := 25) ?hr ?_; (case hd => rfl); (case hg => rfl); (case hr => first | (go_simp; done) | (go_simp; rfl)); intro gb136 hg w18 hbox hb; have n0_ := am (below_step (pb HB) hb); have n1_ := am (hbox); have n2_ := am ((by rw [hg]; exact (below_size (pb HB)) : w.heap.size ≤ gb136)); have n3_ := am ((by rw [hg]; exact (below_size (pb HB)) : w.heap.size ≤ gb136)); clear HB; have HB := n0_; have BK136 := n1_; have GW136 := n2_; have GE136 := n3_; clear n0_ n1_ n2_ n3_ hb hbox hg; have hcz19_0 : w18.cell? ⟨gb136, 0, none⟩ = some (.int .i64 a0_0) := (blk_cell BK136.out 0).trans rfl; have hcz19_1 : w18.cell? ⟨gb136, 1, none⟩ = some (.slice A0_1 l0_1.length c0_1) := (blk_cell BK136.out 1).trans rfl; have hfz19_0 := blk_frozen BK136.out 0; have hfz19_1 := blk_frozen BK136.out 1) | (go_at_call 103; (with_reducible refine (bitrow_sized.calls a0_0 false _ A2.out).mono ?_); rintro e w' ⟨rfl, ⟨nd, rfl⟩⟩; (try first | exact ⟨rfl, _, World.drewN_drewN _ _ _⟩ | exact ⟨rfl, _, Eq.trans (World.drewN_drewN _ _ _) (congrArg (World.drewN _) (Nat.add_assoc _ _ _))⟩))))
  go_ret
  exact ⟨by first | rfl | (simp [errW_none, errW_some] <;> rfl) | (simp [*, errW_none, errW_some] <;> rfl), pb HB⟩

/-! ### matrix_Right_1: function 125 -/
def matrix_Right_1.f (a0_0 : Int) (l0_1 : List Int) (a1_0 : Int) (l1_1 : List (S25)) : Option (Bool) := if a0_0 = a1_0 then ((bitrow_Right.f a0_0 l0_1).bind fun t141 => (some (!t141))) else (some true)
set_option maxHeartbeats 8000000 in
set_option maxRecDepth 100000 in
theorem matrix_Right_1.calls (a0_0 : Int) (A0_1 : Option Addr) (c0_1 : Nat) (l0_1 : List Int) (gb1_ : Nat) (a1_0 : Int) (A1_1 : Option Addr) (c1_1 : Nat) (l1_1 : List (S25)) (r : Bool) (w : World) (hr0_1 : Kd.C (Kd.int .u64) w A0_1 l0_1.length l0_1) (hc0_1 : l0_1.length ≤ c0_1) (hb1_ : w.heap[gb1_]? = some (.cells #[.int .i64 a1_0, .slice A1_1 l1_1.length c1_1] 42 (0, 0))) (hr1_1 : Kd.C k25 w A1_1 l1_1.length l1_1) (hc1_1 : l1_1.length ≤ c1_1) (h : matrix_Right_1.f a0_0 l0_1 a1_0 l1_1 = some r) :
  Calls Try.prog 125 #[.agg #[.int .i64 a0_0, .slice A0_1 l0_1.length c0_1], .pointer (some ⟨gb1_, 0, none⟩)] w fun e w' => e = .returned (.bool r) ∧ Below w.heap.size w w' := by
 have hu25 := Try.underlying25
 have HR0_1 := Aside0.mk hr0_1
 have HC0_1 := Aside0.mk hc0_1
 clear hr0_1 hc0_1
 have HR1_1 := Aside0.mk hr1_1
 have HC1_1 := Aside0.mk hc1_1
 clear hr1_1 hc1_1
 have BK139 := Aside0.mk hb1_
 clear hb1_
 have HB := am (Below.refl w.heap.size w)
 have H : (if a0_0 = a1_0 then ((bitrow_Right.f a0_0 l0_1).bind fun t141 => (some (!t141))) else (some true)) = some r := h
 clear h
 by_cases c3 : a0_0 = a1_0
 ·
  rw [if_pos c3] at H
  have c3b0 : (a0_0 == a1_0) = true := beq_iff_eq.mpr c3
  have c3b1 : (a0_0 != a1_0) = false := bne_eq_false_iff_eq.mpr c3
  clear c3
  replace H := Option.bind_eq_some_iff.mp H
  obtain ⟨t141, A40, H⟩ := H
  replace H : (some (!t141)) = some r := H
  have A4 := Aside0.mk A40
  clear A40
  obtain rfl := Option.some.inj H
  go_enter Try.func125, Try.ntmps125
  go_wp2_with (first | ((with_reducible refine gate_dst (N := 2) rfl ?_); refine box_event ?hg (N := 2) ?hd (cs := #[.int .i64 a0_0, .slice A0_1 l0_1.length c0_1]) (t := 25) ?hr ?_; (case hd => rfl); (case hg => rfl); (case hr => first | (go_simp; done) | (go_simp; rfl)); intro gb140 hg w5 hbox hb; have n0_ := am (blk_below (g := gb1_) (o := .cells #[.int .i64 a1_0, .slice A1_1 l1_1.length c1_1] 42 (0, 0)) (pk BK139) hb); have n1_ := am (below_step (pb HB) hb); have n2_ := am (hbox); have n3_ := am ((by rw [hg]; exact (below_size (pb HB)) : w.heap.size ≤ gb140)); have n4_ := am ((by rw [hg]; exact (below_size (pb HB)) : w.heap.size ≤ gb140)); have n5_ := am ((by rw [hg]; exact Nat.ne_of_lt (blk_lt (g := gb1_) (o := .cells #[.int .i64 a1_0, .slice A1_1 l1_1.length c1_1] 42 (0, 0)) (pk BK139)) : gb1_ ≠ gb140)); have n6_ := am ((by rw [hg]; exact Nat.ne_of_gt (blk_lt (g := gb1_) (o := .cells #[.int .i64 a1_0, .slice A1_1 l1_1.length c1_1] 42 (0, 0)) (pk BK139)) : gb140 ≠ gb1_)); clear BK139 HB; have BK139 := n0_; have HB := n1_; have BK140 := n2_; have GW140 := n3_; have GE140 := n4_; have NB139_140 := n5_; have NB140_139 := n6_; clear n0_ n1_ n2_ n3_ n4_ n5_ n6_ hb hbox hg; have hnb6 := NB140_139.out; have hnc6 := NB139_140.out; have hcz7_0 : w5.cell? ⟨gb140, 0, none⟩ = some (.int .i64 a0_0) := (blk_cell BK140.out 0).trans rfl; have hcz7_1 : w5.cell? ⟨gb140, 1, none⟩ = some (.slice A0_1 l0_1.length c0_1) := (blk_cell BK140.out 1).trans rfl; have hfz7_0 := blk_frozen BK140.out 0; have hfz7_1 := blk_frozen BK140.out 1; have hcz8_0 : w5.cell? ⟨gb1_, 0, none⟩ = some (.int .i64 a1_0) := (blk_cell BK139.out 0).trans rfl; have hcz8_1 : w5.cell? ⟨gb1_, 1, none⟩ = some (.slice A1_1 l1_1.length c1_1) := (blk_cell BK139.out 1).trans rfl; have hfz8_0 := blk_frozen BK139.out 0; have hfz8_1 := blk_frozen BK139.out 1) | (go_at_call 22; (with_reducible refine (bitrow_Right.calls a0_0 _ _ l0_1 t141 _ ?side1 ?side2 A4.out).mono ?_); (case side1 => repeat (first | exact (Kd.C_below HR0_1.out HB.out) | (with_reducible refine Kd.C_alloc ?_ _) | (with_reducible refine Kd.C_drewN ?_ _) | (with_reducible refine Kd.C_drew ?_))); (case side2 => exact HC0_1.out); rintro e w9 ⟨rfl, hb⟩; have n0_ := am (blk_below (g := gb1_) (o := .cells #[.int .i64 a1_0, .slice A1_1 l1_1.length c1_1] 42 (0, 0)) (pk BK139) hb); have n1_ := bb BK140 hb; have n2_ := am (below_step (pb HB) hb); clear BK139 BK140 HB; have BK139 := n0_; have BK140 := n1_; have HB := n2_; clear n0_ n1_ n2_; (try clear hb); (try clear hb2); (try clear hk); (try clear hi)))
  go_ret
  exact ⟨by first | rfl | (simp [errW_none, errW_some] <;> rfl) | (simp [*, errW_none, errW_some] <;> rfl), pb HB⟩
 ·
  rw [if_neg c3] at H
  have c3b0 : (a0_0 == a1_0) = false := beq_eq_false_iff_ne.mpr c3
  have c3b1 : (a0_0 != a1_0) = true := bne_iff_ne.mpr c3
  obtain rfl := Option.some.inj H
  go_enter Try.func125, Try.ntmps125
  go_wp2_with (first | ((with_reducible refine gate_dst (N := 2) rfl ?_); refine box_event ?hg (N := 2) ?hd (cs := #[.int .i64 a0_0, .slice A0_1 l0_1.length c0_1]) (t := 25) ?hr ?_; (case hd => rfl); (case hg => rfl); (case hr => first | (go_simp; done) | (go_simp; rfl)); intro gb140 hg w10 hbox hb; have n0_ := am (blk_below (g := gb1_) (o := .cells #[.int .i64 a1_0, .slice A1_1 l1_1.length c1_1] 42 (0, 0)) (pk BK139) hb); have n1_ := am (below_step (pb HB) hb); have n2_ := am (hbox); have n3_ := am ((by rw [hg]; exact (below_size (pb HB)) : w.heap.size ≤ gb140)); have n4_ := am ((by rw [hg]; exact (below_size (pb HB)) : w.heap.size ≤ gb140)); have n5_ := am ((by rw [hg]; exact Nat.ne_of_lt (blk_lt (g := gb1_) (o := .cells #[.int .i64 a1_0, .slice A1_1 l1_1.length c1_1] 42 (0, 0)) (pk BK139)) : gb1_ ≠ gb140)); have n6_ := am ((by rw [hg]; exact Nat.ne_of_gt (blk_lt (g := gb1_) (o := .cells #[.int .i64 a1_0, .slice A1_1 l1_1.length c1_1] 42 (0, 0)) (pk BK139)) : gb140 ≠ gb1_)); clear BK139 HB; have BK139 := n0_; have HB := n1_; have BK140 := n2_; have GW140 := n3_; have GE140 := n4_; have NB139_140 := n5_; have NB140_139 := n6_; clear n0_ n1_ n2_ n3_ n4_ n5_ n6_ hb hbox hg; have hnb11 := NB140_139.out; have hnc11 := NB139_140.out; have hcz12_0 : w10.cell? ⟨gb140, 0, none⟩ = some (.int .i64 a0_0) := (blk_cell BK140.out 0).trans rfl; have hcz12_1 : w10.cell? ⟨gb140, 1, none⟩ = some (.slice A0_1 l0_1.length c0_1) := (blk_cell BK140.out 1).trans rfl; have hfz12_0 := blk_frozen BK140.out 0; have hfz12_1 := blk_frozen BK140.out 1; have hcz13_0 : w10.cell? ⟨gb1_, 0, none⟩ = some (.int .i64 a1_0) := (blk_cell BK139.out 0).trans rfl; have hcz13_1 : w10.cell? ⟨gb1_, 1, none⟩ = some (.slice A1_1 l1_1.length c1_1) := (blk_cell BK139.out 1).trans rfl; have hfz13_0 := blk_frozen BK139.out 0; have hfz13_1 := blk_frozen BK139.out 1))
  go_ret
  exact ⟨by first | rfl | (simp [errW_none, errW_some] <;> rfl) | (simp [*, errW_none, errW_some] <;> rfl), pb HB⟩

/-! ### api_Row_125_902007: function 174 -/
def api_Row_125_902007.l0 : Nat → List (S25) → Int → Int → Int → List (S25) → Option (Int)
 | 0, _, _, _, _, _ => none
 | k + 1, x0, x7, x8, x143000, x143001 => if x8 < x7 then (if 0 ≤ x8 then (if x8 < (x0.length : Int) then ((matrix_Right_1.f ((rd_T25 x0 x8).f0) ((rd_T25 x0 x8).f1) x143000 x143001).bind fun t144 => (if t144 = true then (some x8) else (api_Row_125_902007.l0 k x0 x7 (wrap64 (x8 + 1)) x143000 x143001))) else (none)) else (none)) else (some (-1))
def api_Row_125_902007.f (k : Nat) (l0 : List (S25))  (a2_0 : Int) (l2_1 : List (S25)) : Option (Int) := api_Row_125_902007.l0 k l0 (l0.length : Int) 0 a2_0 l2_1
theorem api_Row_125_902007.mono_l : ∀ k, (∀ y0 y1 y2 y3 y4, LeO (api_Row_125_902007.l0 k y0 y1 y2 y3 y4) (api_Row_125_902007.l0 (k + 1) y0 y1 y2 y3 y4))
 | 0 => fun _ _ _ _ _ r h => by simp [api_Row_125_902007.l0] at h
 | k + 1 => by
  have ih0 := api_Row_125_902007.mono_l k
  ·
   intro y0 y1 y2 y3 y4
   unfold api_Row_125_902007.l0
   repeat' first
   | (with_reducible exact ih0 _ _ _ _ _)
   | (with_reducible exact LeO.refl _)
   | (with_reducible exact LeO.none _)
   | (with_reducible refine LeO.ite ?_ ?_)
   | (with_reducible refine LeO.bind ?_ (fun _ => ?_))
   | exact ih0 _ _ _ _ _
   | exact LeO.none _
   | refine LeO.ite ?_ ?_
   | refine LeO.bind ?_ (fun _ => ?_)
theorem api_Row_125_902007.mono : ∀ a0 a1 a2 k, LeO (api_Row_125_902007.f k a0 a1 a2) (api_Row_125_902007.f (k + 1) a0 a1 a2) := by
 intro a0 a1 a2 k
 have ih0 := api_Row_125_902007.mono_l k
 unfold api_Row_125_902007.f
 repeat' first
   | (with_reducible exact ih0 _ _ _ _ _)
   | (with_reducible exact LeO.refl _)
   | (with_reducible exact LeO.none _)
   | (with_reducible refine LeO.ite ?_ ?_)
   | (with_reducible refine LeO.bind ?_ (fun _ => ?_))
   | exact ih0 _ _ _ _ _
   | exact LeO.none _
   | refine LeO.ite ?_ ?_
   | refine LeO.bind ?_ (fun _ => ?_)
set_option maxHeartbeats 8000000 in
set_option maxRecDepth 100000 in
theorem api_Row_125_902007.calls (k : Nat) (A0 : Option Addr) (c0 : Nat) (l0 : List (S25))  (gb2_ : Nat) (a2_0 : Int) (A2_1 : Option Addr) (c2_1 : Nat) (l2_1 : List (S25)) (r : Int) (w : World) (hr0 : Kd.C k25 w A0 l0.length l0) (hc0 : l0.length ≤ c0) (hb2_ : w.heap[gb2_]? = some (.cells #[.int .i64 a2_0, .slice A2_1 l2_1.length c2_1] 42 (0, 0))) (hr2_1 : Kd.C k25 w A2_1 l2_1.length l2_1) (hc2_1 : l2_1.length ≤ c2_1) (h : api_Row_125_902007.f k l0 a2_0 l2_1 = some r) :
  Calls Try.prog 174 #[.slice A0 l0.length c0, (.func (.func 125) #[] #[.pointer (some ⟨gb2_, 0, none⟩)])] w fun e w' => e = .returned (.int .i64 r) ∧ Below w.heap.size w w' := by
 have hu25 := Try.underlying25
 have HR0 := Aside0.mk hr0
 have HC0 := Aside0.mk hc0
 clear hr0 hc0
 have HR2_1 := Aside0.mk hr2_1
 have HC2_1 := Aside0.mk hc2_1
 clear hr2_1 hc2_1
 have BK142 := Aside0.mk hb2_
 clear hb2_
 have HB := am (Below.refl w.heap.size w)
 have H : (api_Row_125_902007.l0 k l0 (l0.length : Int) 0 a2_0 l2_1) = some r := h
 clear h
 have H' := Aside0.mk H
 clear H
 go_enter Try.func174, Try.ntmps174
 go_wp2
 go_loopg [8] k (fun kq v8 w' => ∃ (x8_1 : Int), v8 = .int .i64 x8_1 ∧ Aside0 (api_Row_125_902007.l0 kq l0 (l0.length : Int) x8_1 a2_0 l2_1 = some r) ∧ Aside0 (kq ≤ k) ∧ Aside0 (w'.heap[gb2_]? = some (.cells #[.int .i64 a2_0, (.slice A2_1 l2_1.length c2_1)] 42 (0, 0))) ∧ Aside0 (Below w.heap.size w w'))
 case atStart => exact ⟨(0), (by first | rfl | (simp; done) | (simp [*]; done)), H', ⟨Nat.le_refl _⟩, ⟨by (with_reducible repeat (first | refine blk_drewN ?_ _ | refine blk_drew ?_ | refine blk_alloc ?_ _)); exact BK142.out⟩, ⟨pb HB⟩⟩
 case round =>
  clear H'
  try clear c2
  try clear p2
  obtain ⟨x8_1, rfl, HA, HK1, BK142, HB⟩ := hrel
  cases gk with
  | zero => exact absurd HA.out (by simp [api_Row_125_902007.l0])
  | succ k1 =>
   have H := HA.out
   clear HA
   simp only [api_Row_125_902007.l0] at H
   by_cases c4 : x8_1 < (l0.length : Int)
   ·
    rw [if_pos c4] at H
    have c4b0 : decide (x8_1 < (l0.length : Int)) = true := decide_eq_true c4
    clear c4
    by_cases c5 : 0 ≤ x8_1
    ·
     rw [if_pos c5] at H
     have c5b0 : decide (0 ≤ x8_1) = true := decide_eq_true c5
     clear c5
     by_cases c6 : x8_1 < (l0.length : Int)
     ·
      rw [if_pos c6] at H
      have c6b0 : decide (x8_1 < (l0.length : Int)) = true := decide_eq_true c6
      clear c6
      replace H := Option.bind_eq_some_iff.mp H
      obtain ⟨t144, A70, H⟩ := H
      replace H : (if t144 = true then (some x8_1) else (api_Row_125_902007.l0 k1 l0 (l0.length : Int) (wrap64 (x8_1 + 1)) a2_0 l2_1)) = some r := H
      have A7 := Aside0.mk A70
      clear A70
      by_cases c8 : t144 = true
      ·
       subst c8
       have H1 : (some x8_1) = some r := by rw [if_pos rfl] at H; exact H
       clear H
       have H := H1
       clear H1
       obtain rfl := Option.some.inj H
       have p143 : 0 ≤ (x8_1 : Int) := of_decide_eq_true (by first | (with_reducible assumption) | assumption)
       have q143 : x8_1 < (l0.length : Int) := of_decide_eq_true (by first | (with_reducible assumption) | assumption)
       obtain ⟨ad143, A143_1, c143_1, e143, hx143_0, hx143_1, hl143_1, hi143_1⟩ := at_T25 HR0.out x8_1 p143 q143
       cases e143
       replace hx143_0 := (HB.out.cell (World.block_lt_of_cell? w _ hx143_0)).trans hx143_0
       replace hx143_1 := (HB.out.cell (World.block_lt_of_cell? w _ hx143_1)).trans hx143_1
       have HR143_1 := Aside0.mk hi143_1
       have HC143_1 := Aside0.mk hl143_1
       clear hi143_1 hl143_1
       replace p143 := eq_true p143
       replace q143 := eq_true q143
       go_wp2_with (first | ((with_reducible refine gate_calleeT (t := 11) rfl ?_); refine goesLT_ 11 (some 16) rfl rfl Try.func125 (by kernel_rfl) rfl #[.agg #[.int .i64 ((rd_T25 l0 x8_1).f0), .slice A143_1 ((rd_T25 l0 x8_1).f1).length c143_1]] #[.pointer (some ⟨gb2_, 0, none⟩)] #[.agg #[.int .i64 ((rd_T25 l0 x8_1).f0), .slice A143_1 ((rd_T25 l0 x8_1).f1).length c143_1], .pointer (some ⟨gb2_, 0, none⟩)] rfl (by rfl) (by (try simp only [List.map_toArray, List.map_cons, List.map_nil]); first | done | rfl | (simp only [List.length_drop, List.length_take]; rfl)) (by rfl) ?_; (with_reducible refine (matrix_Right_1.calls ((rd_T25 l0 x8_1).f0) _ _ ((rd_T25 l0 x8_1).f1) gb2_ a2_0 A2_1 c2_1 l2_1 true _ ?side1 ?side2 ?side3 ?side4 ?side5 A7.out).mono ?_); (case side1 => repeat (first | exact (Kd.C_below HR143_1.out HB.out) | (with_reducible refine Kd.C_alloc ?_ _) | (with_reducible refine Kd.C_drewN ?_ _) | (with_reducible refine Kd.C_drew ?_))); (case side2 => exact HC143_1.out); (case side3 => (with_reducible repeat (first | refine blk_drewN ?_ _ | refine blk_drew ?_ | refine blk_alloc ?_ _)); exact BK142.out); (case side4 => repeat (first | exact (Kd.C_below HR2_1.out HB.out) | (with_reducible refine Kd.C_alloc ?_ _) | (with_reducible refine Kd.C_drewN ?_ _) | (with_reducible refine Kd.C_drew ?_))); (case side5 => exact HC2_1.out); rintro e w9 ⟨rfl, hb⟩; refine ⟨_, rfl, ?_⟩; have n0_ := am (blk_below (g := gb2_) (o := .cells #[.int .i64 a2_0, .slice A2_1 l2_1.length c2_1] 42 (0, 0)) (pk BK142) hb); have n1_ := am (below_step (pb HB) hb); clear BK142 HB; have BK142 := n0_; have HB := n1_; clear n0_ n1_; (try clear hb); (try clear hb2); (try clear hk); (try clear hi)))
       go_ret
       exact ⟨by first | rfl | (simp [errW_none, errW_some] <;> rfl) | (simp [*, errW_none, errW_some] <;> rfl), pb HB⟩
      ·
       replace c8 := Bool.eq_false_iff.mpr c8
       subst c8
       have H1 : (api_Row_125_902007.l0 k1 l0 (l0.length : Int) (wrap64 (x8_1 + 1)) a2_0 l2_1) = some r := by rw [if_neg (show ¬ (false = true) by decide)] at H; exact H
       clear H
       have H := H1
       clear H1
       have H' := Aside0.mk H
       clear H
       have p143 : 0 ≤ (x8_1 : Int) := of_decide_eq_true (by first | (with_reducible assumption) | assumption)
       have q143 : x8_1 < (l0.length : Int) := of_decide_eq_true (by first | (with_reducible assumption) | assumption)
       obtain ⟨ad143, A143_1, c143_1, e143, hx143_0, hx143_1, hl143_1, hi143_1⟩ := at_T25 HR0.out x8_1 p143 q143
       cases e143
       replace hx143_0 := (HB.out.cell (World.block_lt_of_cell? w _ hx143_0)).trans hx143_0
       replace hx143_1 := (HB.out.cell (World.block_lt_of_cell? w _ hx143_1)).trans hx143_1
       have HR143_1 := Aside0.mk hi143_1
       have HC143_1 := Aside0.mk hl143_1
       clear hi143_1 hl143_1
       replace p143 := eq_true p143
       replace q143 := eq_true q143
       go_wp2_with (first | ((with_reducible refine gate_calleeT (t := 11) rfl ?_); refine goesLT_ 11 (some 16) rfl rfl Try.func125 (by kernel_rfl) rfl #[.agg #[.int .i64 ((rd_T25 l0 x8_1).f0), .slice A143_1 ((rd_T25 l0 x8_1).f1).length c143_1]] #[.pointer (some ⟨gb2_, 0, none⟩)] #[.agg #[.int .i64 ((rd_T25 l0 x8_1).f0), .slice A143_1 ((rd_T25 l0 x8_1).f1).length c143_1], .pointer (some ⟨gb2_, 0, none⟩)] rfl (by rfl) (by (try simp only [List.map_toArray, List.map_cons, List.map_nil]); first | done | rfl | (simp only [List.length_drop, List.length_take]; rfl)) (by rfl) ?_; (with_reducible refine (matrix_Right_1.calls ((rd_T25 l0 x8_1).f0) _ _ ((rd_T25 l0 x8_1).f1) gb2_ a2_0 A2_1 c2_1 l2_1 false _ ?side1 ?side2 ?side3 ?side4 ?side5 A7.out).mono ?_); (case side1 => repeat (first | exact (Kd.C_below HR143_1.out HB.out) | (with_reducible refine Kd.C_alloc ?_ _) | (with_reducible refine Kd.C_drewN ?_ _) | (with_reducible refine Kd.C_drew ?_))); (case side2 => exact HC143_1.out); (case side3 => (with_reducible repeat (first | refine blk_drewN ?_ _ | refine blk_drew ?_ | refine blk_alloc ?_ _)); exact BK142.out); (case side4 => repeat (first | exact (Kd.C_below HR2_1.out HB.out) | (with_reducible refine Kd.C_alloc ?_ _) | (with_reducible refine Kd.C_drewN ?_ _) | (with_reducible refine Kd.C_drew ?_))); (case side5 => exact HC2_1.out); rintro e w10 ⟨rfl, hb⟩; refine ⟨_, rfl, ?_⟩; have n0_ := am (blk_below (g := gb2_) (o := .cells #[.int .i64 a2_0, .slice A2_1 l2_1.length c2_1] 42 (0, 0)) (pk BK142) hb); have n1_ := am (below_step (pb HB) hb); clear BK142 HB; have BK142 := n0_; have HB := n1_; clear n0_ n1_; (try clear hb); (try clear hb2); (try clear hk); (try clear hi)))
       go_roundg k1
       case measure => have := HK1.out; omega
       case rel => exact ⟨(wrap64 (x8_1 + 1)), (by first | rfl | (simp; done) | (simp [*]; done)), H', ⟨by have := HK1.out; omega⟩, ⟨by (with_reducible repeat (first | refine blk_drewN ?_ _ | refine blk_drew ?_ | refine blk_alloc ?_ _)); exact BK142.out⟩, ⟨pb HB⟩⟩
     ·
      rw [if_neg c6] at H
      exact absurd H (by simp)
    ·
     rw [if_neg c5] at H
     exact absurd H (by simp)
   ·
    rw [if_neg c4] at H
    have c4b0 : decide (x8_1 < (l0.length : Int)) = false := decide_eq_false c4
    clear c4
    obtain rfl := Option.some.inj H
    go_wp2
    go_ret
    exact ⟨by first | rfl | (simp [errW_none, errW_some] <;> rfl) | (simp [*, errW_none, errW_some] <;> rfl), pb HB⟩

/-! ### api_Row_125_901007: function 124 -/
def api_Row_125_901007.f (k : Nat) (l0 : List (S25))  (a2_0 : Int) (l2_1 : List (S25)) : Option (Bool) := (api_Row_125_902007.f k l0 a2_0 l2_1).bind fun t146 => (some (decide (t146 ≥ 0)))
theorem api_Row_125_901007.mono : ∀ a0 a1 a2 k, LeO (api_Row_125_901007.f k a0 a1 a2) (api_Row_125_901007.f (k + 1) a0 a1 a2) := by
 intro a0 a1 a2 k
 unfold api_Row_125_901007.f
 repeat' first
   | (with_reducible exact api_Row_125_902007.mono _ _ _ _)
   | (with_reducible exact LeO.refl _)
   | (with_reducible exact LeO.none _)
   | (with_reducible refine LeO.ite ?_ ?_)
   | (with_reducible refine LeO.bind ?_ (fun _ => ?_))
   | exact api_Row_125_902007.mono _ _ _ _
   | exact LeO.none _
   | refine LeO.ite ?_ ?_
   | refine LeO.bind ?_ (fun _ => ?_)
set_option maxHeartbeats 8000000 in
set_option maxRecDepth 100000 in
theorem api_Row_125_901007.calls (k : Nat) (A0 : Option Addr) (c0 : Nat) (l0 : List (S25))  (gb2_ : Nat) (a2_0 : Int) (A2_1 : Option Addr) (c2_1 : Nat) (l2_1 : List (S25)) (r : Bool) (w : World) (hr0 : Kd.C k25 w A0 l0.length l0) (hc0 : l0.length ≤ c0) (hb2_ : w.heap[gb2_]? = some (.cells #[.int .i64 a2_0, .slice A2_1 l2_1.length c2_1] 42 (0, 0))) (hr2_1 : Kd.C k25 w A2_1 l2_1.length l2_1) (hc2_1 : l2_1.length ≤ c2_1) (h : api_Row_125_901007.f k l0 a2_0 l2_1 = some r) :
  Calls Try.prog 124 #[.slice A0 l0.length c0, (.func (.func 125) #[] #[.pointer (some ⟨gb2_, 0, none⟩)])] w fun e w' => e = .returned (.bool r) ∧ Below w.heap.size w w' := by
 have HR0 := Aside0.mk hr0
 have HC0 := Aside0.mk hc0
 clear hr0 hc0
 have HR2_1 := Aside0.mk hr2_1
 have HC2_1 := Aside0.mk hc2_1
 clear hr2_1 hc2_1
 have BK145 := Aside0.mk hb2_
 clear hb2_
 have HB := am (Below.refl w.heap.size w)
 have H : ((api_Row_125_902007.f k l0 a2_0 l2_1).bind fun t146 => (some (decide (t146 ≥ 0)))) = some r := h
 clear h
 replace H := Option.bind_eq_some_iff.mp H
 obtain ⟨t146, A40, H⟩ := H
 replace H : (some (decide (t146 ≥ 0))) = some r := H
 have A4 := Aside0.mk A40
 clear A40
 obtain rfl := Option.some.inj H
 go_enter Try.func124, Try.ntmps124
 go_wp2_with (first | ((with_reducible refine gate_callee (f := 174) rfl ?_); refine goesL_ (some 7) rfl rfl Try.func174 (by kernel_rfl) rfl #[.slice A0 l0.length c0, (.func (.func 125) #[] #[.pointer (some ⟨gb2_, 0, none⟩)])] rfl (by (try simp only [List.map_toArray, List.map_cons, List.map_nil]); first | done | rfl | (simp only [List.length_drop, List.length_take]; rfl)) ?_; (with_reducible refine (api_Row_125_902007.calls k _ _ l0  gb2_ a2_0 A2_1 c2_1 l2_1 t146 _ ?side1 ?side2 ?side3 ?side4 ?side5 A4.out).mono ?_); (case side1 => repeat (first | exact HR0.out | (with_reducible refine Kd.C_alloc ?_ _) | (with_reducible refine Kd.C_drewN ?_ _) | (with_reducible refine Kd.C_drew ?_))); (case side2 => exact HC0.out); (case side3 => (with_reducible repeat (first | refine blk_drewN ?_ _ | refine blk_drew ?_ | refine blk_alloc ?_ _)); exact BK145.out); (case side4 => repeat (first | exact HR2_1.out | (with_reducible refine Kd.C_alloc ?_ _) | (with_reducible refine Kd.C_drewN ?_ _) | (with_reducible refine Kd.C_drew ?_))); (case side5 => exact HC2_1.out); rintro e w5 ⟨rfl, hb⟩; refine ⟨_, rfl, ?_⟩; have n0_ := am (blk_below (g := gb2_) (o := .cells #[.int .i64 a2_0, .slice A2_1 l2_1.length c2_1] 42 (0, 0)) (pk BK145) hb); have n1_ := am (below_step (pb HB) hb); clear BK145 HB; have BK145 := n0_; have HB := n1_; clear n0_ n1_; (try clear hb); (try clear hb2); (try clear hk); (try clear hi)))
 go_ret
 exact ⟨by first | rfl | (simp [errW_none, errW_some] <;> rfl) | (simp [*, errW_none, errW_some] <;> rfl), pb HB⟩

/-! ### matrix_Right: function 45 -/
def matrix_Right.f (k : Nat) (a0_0 : Int) (l0_1 : List (S25)) : Option (Bool) := (matrix_sized.f a0_0).bind fun t148 => (if t148 = true then (if (l0_1.length : Int) ≤ 64 then ((api_Row_125_901007.f k l0_1 a0_0 l0_1).bind fun t149 => (some (!t149))) else (some false)) else (some false))
theorem matrix_Right.mono : ∀ a0 a1 k, LeO (matrix_Right.f k a0 a1) (matrix_Right.f (k + 1) a0 a1) := by
 intro a0 a1 k
 unfold matrix_Right.f
 repeat' first
   | (with_reducible exact api_Row_125_901007.mono _ _ _ _)
   | (with_reducible exact LeO.refl _)
   | (with_reducible exact LeO.none _)
   | (with_reducible refine LeO.ite ?_ ?_)
   | (with_reducible refine LeO.bind ?_ (fun _ => ?_))
   | exact api_Row_125_901007.mono _ _ _ _
   | exact LeO.none _
   | refine LeO.ite ?_ ?_
   | refine LeO.bind ?_ (fun _ => ?_)
set_option maxHeartbeats 8000000 in
set_option maxRecDepth 100000 in
theorem matrix_Right.calls (k : Nat) (a0_0 : Int) (A0_1 : Option Addr) (c0_1 : Nat) (l0_1 : List (S25)) (r : Bool) (w : World) (hr0_1 : Kd.C k25 w A0_1 l0_1.length l0_1) (hc0_1 : l0_1.length ≤ c0_1) (h : matrix_Right.f k a0_0 l0_1 = some r) :
  Calls Try.prog 45 #[.agg #[.int .i64 a0_0, .slice A0_1 l0_1.length c0_1]] w fun e w' => e = .returned (.bool r) ∧ Below w.heap.size w w' := by
 have hu42 := Try.underlying42
 have HR0_1 := Aside0.mk hr0_1
 have HC0_1 := Aside0.mk hc0_1
 clear hr0_1 hc0_1
 have HB := am (Below.refl w.heap.size w)
 have H : ((matrix_sized.f a0_0).bind fun t148 => (if t148 = true then (if (l0_1.length : Int) ≤ 64 then ((api_Row_125_901007.f k l0_1 a0_0 l0_1).bind fun t149 => (some (!t149))) else (some false)) else (some false))) = some r := h
 clear h
 replace H := Option.bind_eq_some_iff.mp H
 obtain ⟨t148, A20, H⟩ := H
 replace H : (if t148 = true then (if (l0_1.length : Int) ≤ 64 then ((api_Row_125_901007.f k l0_1 a0_0 l0_1).bind fun t149 => (some (!t149))) else (some false)) else (some false)) = some r := H
 have A2 := Aside0.mk A20
 clear A20
 by_cases c3 : t148 = true
 ·
  subst c3
  have H1 : (if (l0_1.length : Int) ≤ 64 then ((api_Row_125_901007.f k l0_1 a0_0 l0_1).bind fun t149 => (some (!t149))) else (some false)) = some r := by rw [if_pos rfl] at H; exact H
  clear H
  have H := H1
  clear H1
  by_cases c4 : (l0_1.length : Int) ≤ 64
  ·
   rw [if_pos c4] at H
   have c4b0 : decide ((l0_1.length : Int) ≤ 64) = true := decide_eq_true c4
   have c4b1 : decide (l0_1.length ≤ 64) = true := decide_eq_true (by omega)
   clear c4
   replace H := Option.bind_eq_some_iff.mp H
   obtain ⟨t149, A50, H⟩ := H
   replace H : (some (!t149)) = some r := H
   have A5 := Aside0.mk A50
   clear A50
   obtain rfl := Option.some.inj H
   go_enter Try.func45, Try.ntmps45
   go_wp2_with (first | ((with_reducible refine gate_dst (N := 1) rfl ?_); (try (refine gate_guard (by rfl) ?_; dsimp only)); refine box_event ?hg (N := 1) ?hd (cs := #[.int .i64 a0_0, .slice A0_1 l0_1.length c0_1]) (t := 42) ?hr ?_; (case hd => rfl); (case hg => rfl); (case hr => first | (go_simp; done) | (go_simp; rfl)); intro gb147 hg w6 hbox hb; have n0_ := am (below_step (pb HB) hb); have n1_ := am (hbox); have n2_ := am ((by rw [hg]; exact (below_size (pb HB)) : w.heap.size ≤ gb147)); have n3_ := am ((by rw [hg]; exact (below_size (pb HB)) : w.heap.size ≤ gb147)); clear HB; have HB := n0_; have BK147 := n1_; have GW147 := n2_; have GE147 := n3_; clear n0_ n1_ n2_ n3_ hb hbox hg; have hcz7_0 : w6.cell? ⟨gb147, 0, none⟩ = some (.int .i64 a0_0) := (blk_cell BK147.out 0).trans rfl; have hcz7_1 : w6.cell? ⟨gb147, 1, none⟩ = some (.slice A0_1 l0_1.length c0_1) := (blk_cell BK147.out 1).trans rfl; have hfz7_0 := blk_frozen BK147.out 0; have hfz7_1 := blk_frozen BK147.out 1) | ((with_reducible refine gate_callee (f := 122) rfl ?_); refine goesL_ (some 5) rfl rfl Try.func122 (by kernel_rfl) rfl #[.int .i64 a0_0] rfl (by (try simp only [List.map_toArray, List.map_cons, List.map_nil]); first | done | rfl | (simp only [List.length_drop, List.length_take]; rfl)) ?_; (with_reducible refine (matrix_sized.calls a0_0 true _ A2.out).mono ?_); rintro e w' ⟨rfl, ⟨nd, rfl⟩⟩; refine ⟨_, rfl, ?_⟩) | (go_at_call 124; (with_reducible refine (api_Row_125_901007.calls k _ _ l0_1  gb147 a0_0 A0_1 c0_1 l0_1 t149 _ ?side1 ?side2 ?side3 ?side4 ?side5 A5.out).mono ?_); (case side1 => repeat (first | exact (Kd.C_below HR0_1.out (pb HB)) | (with_reducible refine Kd.C_alloc ?_ _) | (with_reducible refine Kd.C_drewN ?_ _) | (with_reducible refine Kd.C_drew ?_))); (case side2 => exact HC0_1.out); (case side3 => (with_reducible repeat (first | refine blk_drewN ?_ _ | refine blk_drew ?_ | refine blk_alloc ?_ _)); exact BK147.out); (case side4 => repeat (first | exact (Kd.C_below HR0_1.out (pb HB)) | (with_reducible refine Kd.C_alloc ?_ _) | (with_reducible refine Kd.C_drewN ?_ _) | (with_reducible refine Kd.C_drew ?_))); (case side5 => exact HC0_1.out); rintro e w8 ⟨rfl, hb⟩; have n0_ := bb BK147 hb; have n1_ := am (below_step (pb HB) hb); clear BK147 HB; have BK147 := n0_; have HB := n1_; clear n0_ n1_; (try clear hb); (try clear hb2); (try clear hk); (try clear hi)))
   go_ret
   exact ⟨by first | rfl | (simp [errW_none, errW_some] <;> rfl) | (simp [*, errW_none, errW_some] <;> rfl), pb HB⟩
  ·
   rw [if_neg c4] at H
   have c4b0 : decide ((l0_1.length : Int) ≤ 64) = false := decide_eq_false c4
   have c4b1 : decide (l0_1.length ≤ 64) = false := decide_eq_false (by omega)
   clear c4
   obtain rfl := Option.some.inj H
   go_enter Try.func45, Try.ntmps45
   go_wp2_with (first | ((with_reducible refine gate_dst (N := 1) rfl ?_); (try (refine gate_guard (by rfl) ?_; dsimp only)); refine box_event ?hg (N := 1) ?hd (cs := #[.int .i64 a0_0, .slice A0_1 l0_1.length c0_1]) (t := 42) ?hr ?_; (case hd => rfl); (case hg => rfl); (case hr => first | (go_simp; done) | (go_simp; rfl)); intro gb147 hg w9 hbox hb; have n0_ := am (below_step (pb HB) hb); have n1_ := am (hbox); have n2_ := am ((by rw [hg]; exact (below_size (pb HB)) : w.heap.size ≤ gb147)); have n3_ := am ((by rw [hg]; exact (below_size (pb HB)) : w.heap.size ≤ gb147)); clear HB; have HB := n0_; have BK147 := n1_; have GW147 := n2_; have GE147 := n3_; clear n0_ n1_ n2_ n3_ hb hbox hg; have hcz10_0 : w9.cell? ⟨gb147, 0, none⟩ = some (.int .i64 a0_0) := (blk_cell BK147.out 0).trans rfl; have hcz10_1 : w9.cell? ⟨gb147, 1, none⟩ = some (.slice A0_1 l0_1.length c0_1) := (blk_cell BK147.out 1).trans rfl; have hfz10_0 := blk_frozen BK147.out 0; have hfz10_1 := blk_frozen BK147.out 1) | ((with_reducible refine gate_callee (f := 122) rfl ?_); refine goesL_ (some 5) rfl rfl Try.func122 (by kernel_rfl) rfl #[.int .i64 a0_0] rfl (by (try simp only [List.map_toArray, List.map_cons, List.map_nil]); first | done | rfl | (simp only [List.length_drop, List.length_take]; rfl)) ?_; (with_reducible refine (matrix_sized.calls a0_0 true _ A2.out).mono ?_); rintro e w' ⟨rfl, ⟨nd, rfl⟩⟩; refine ⟨_, rfl, ?_⟩))
   go_ret
   exact ⟨by first | rfl | (simp [errW_none, errW_some] <;> rfl) | (simp [*, errW_none, errW_some] <;> rfl), pb HB⟩
 ·
  replace c3 := Bool.eq_false_iff.mpr c3
  subst c3
  have H1 : (some false) = some r := by rw [if_neg (show ¬ (false = true) by decide)] at H; exact H
  clear H
  have H := H1
  clear H1
  obtain rfl := Option.some.inj H
  go_enter Try.func45, Try.ntmps45
  go_wp2_with (first | ((with_reducible refine gate_dst (N := 1) rfl ?_); (try (refine gate_guard (by rfl) ?_; dsimp only)); refine box_event ?hg (N := 1) ?hd (cs := #[.int .i64 a0_0, .slice A0_1 l0_1.length c0_1]) (t := 42) ?hr ?_; (case hd => rfl); (case hg => rfl); (case hr => first | (go_simp; done) | (go_simp; rfl)); intro gb147 hg w11 hbox hb; have n0_ := am (below_step (pb HB) hb); have n1_ := am (hbox); have n2_ := am ((by rw [hg]; exact (below_size (pb HB)) : w.heap.size ≤ gb147)); have n3_ := am ((by rw [hg]; exact (below_size (pb HB)) : w.heap.size ≤ gb147)); clear HB; have HB := n0_; have BK147 := n1_; have GW147 := n2_; have GE147 := n3_; clear n0_ n1_ n2_ n3_ hb hbox hg; have hcz12_0 : w11.cell? ⟨gb147, 0, none⟩ = some (.int .i64 a0_0) := (blk_cell BK147.out 0).trans rfl; have hcz12_1 : w11.cell? ⟨gb147, 1, none⟩ = some (.slice A0_1 l0_1.length c0_1) := (blk_cell BK147.out 1).trans rfl; have hfz12_0 := blk_frozen BK147.out 0; have hfz12_1 := blk_frozen BK147.out 1) | ((with_reducible refine gate_callee (f := 122) rfl ?_); refine goesL_ (some 5) rfl rfl Try.func122 (by kernel_rfl) rfl #[.int .i64 a0_0] rfl (by (try simp only [List.map_toArray, List.map_cons, List.map_nil]); first | done | rfl | (simp only [List.length_drop, List.length_take]; rfl)) ?_; (with_reducible refine (matrix_sized.calls a0_0 false _ A2.out).mono ?_); rintro e w' ⟨rfl, ⟨nd, rfl⟩⟩; refine ⟨_, rfl, ?_⟩))
  go_ret
  exact ⟨by first | rfl | (simp [errW_none, errW_some] <;> rfl) | (simp [*, errW_none, errW_some] <;> rfl), pb HB⟩

/-! ### matrix_numbers: function 120 -/
def matrix_numbers.l0 : Nat → List Int → Int → Int → Option (List Int)
 | 0, _, _, _ => none
 | k + 1, x3, x5, x6 => if x6 < x5 then (if x3.length < 17592186044416 then (matrix_numbers.l0 k (x3 ++ [x6]) x5 (wrap64 (x6 + 1))) else (none)) else (some x3)
def matrix_numbers.f (k : Nat) (a0 : Int) : Option (List Int) := matrix_numbers.l0 k ([] : List Int) a0 0
theorem matrix_numbers.mono_l : ∀ k, (∀ y0 y1 y2, LeO (matrix_numbers.l0 k y0 y1 y2) (matrix_numbers.l0 (k + 1) y0 y1 y2))
 | 0 => fun _ _ _ r h => by simp [matrix_numbers.l0] at h
 | k + 1 => by
  have ih0 := matrix_numbers.mono_l k
  ·
   intro y0 y1 y2
   unfold matrix_numbers.l0
   repeat' first
   | (with_reducible exact ih0 _ _ _)
   | (with_reducible exact LeO.refl _)
   | (with_reducible exact LeO.none _)
   | (with_reducible refine LeO.ite ?_ ?_)
   | (with_reducible refine LeO.bind ?_ (fun _ => ?_))
   | exact ih0 _ _ _
   | exact LeO.none _
   | refine LeO.ite ?_ ?_
   | refine LeO.bind ?_ (fun _ => ?_)
theorem matrix_numbers.mono : ∀ a0 k, LeO (matrix_numbers.f k a0) (matrix_numbers.f (k + 1) a0) := by
 intro a0 k
 have ih0 := matrix_numbers.mono_l k
 unfold matrix_numbers.f
 repeat' first
   | (with_reducible exact ih0 _ _ _)
   | (with_reducible exact LeO.refl _)
   | (with_reducible exact LeO.none _)
   | (with_reducible refine LeO.ite ?_ ?_)
   | (with_reducible refine LeO.bind ?_ (fun _ => ?_))
   | exact ih0 _ _ _
   | exact LeO.none _
   | refine LeO.ite ?_ ?_
   | refine LeO.bind ?_ (fun _ => ?_)
set_option maxHeartbeats 8000000 in
set_option maxRecDepth 100000 in
theorem matrix_numbers.calls (k : Nat) (a0 : Int) (r : List Int) (w : World) (h : matrix_numbers.f k a0 = some r) :
  Calls Try.prog 120 #[.int .i64 a0] w fun e w' => ∃ v0_ : Value, e = .returned (v0_) ∧ Kd.R (Kd.int .i64) 3 w' w.heap.size (fun _ => True) v0_ r ∧ Below w.heap.size w w' := by
 have HB := am (Below.refl w.heap.size w)
 have H : (matrix_numbers.l0 k ([] : List Int) a0 0) = some r := h
 clear h
 have H' := Aside0.mk H
 clear H
 go_enter Try.func120, Try.ntmps120
 go_wp2
 go_loopg [3, 6] k (fun kq v3 v6 w' => ∃ (x3_1 : List Int) (x6_1 : Int), v6 = .int .i64 x6_1 ∧ Aside0 (matrix_numbers.l0 kq x3_1 a0 x6_1 = some r) ∧ Aside0 (kq ≤ k) ∧ Aside0 (Kd.R (Kd.int .i64) 3 w' w.heap.size (fun _ => True) v3 x3_1) ∧ Aside0 (Below w.heap.size w w'))
 case atStart => exact ⟨(([] : List Int)), (0), (by first | rfl | (simp; done) | (simp [*]; done)), H', ⟨Nat.le_refl _⟩, ⟨by first | exact Kd.R_nil _ _ _ _ _ | exact Kd.N_nil _ _ _ _ _ | exact Kd.V_nil _ _ _ _ _ | exact Kd.Q_nil _ _ _ _ _ | exact Kd.S_nil _ _ _ _ _⟩, ⟨pb HB⟩⟩
 case round =>
  clear H'
  try clear c1
  obtain ⟨x3_1, x6_1, rfl, HA, HK1, HO_3, HB⟩ := hrel
  cases gk with
  | zero => exact absurd HA.out (by simp [matrix_numbers.l0])
  | succ k1 =>
   have H := HA.out
   clear HA
   simp only [matrix_numbers.l0] at H
   by_cases c2 : x6_1 < a0
   ·
    rw [if_pos c2] at H
    have c2b0 : decide (x6_1 < a0) = true := decide_eq_true c2
    clear c2
    by_cases c3 : x3_1.length < 17592186044416
    ·
     rw [if_pos c3] at H
     have LMc3 := Aside0.mk c3
     clear c3
     obtain ⟨y150, hy150⟩ : ∃ y_ : List Int, y_ = (x3_1 ++ [x6_1]) := ⟨_, rfl⟩
     replace H : (matrix_numbers.l0 k1 y150 a0 (wrap64 (x6_1 + 1))) = some r := by first | (rw [hy150]; with_reducible exact H) | (have H2_ := (Option.bind_some _ _).symm.trans H; rw [hy150]; with_reducible exact H2_) | (have H2_ := (Option.bind_some _ _).symm.trans H; with_reducible exact H2_) | with_reducible exact H | (rw [hy150]; exact H) | exact H
     have Ny150 := Aside0.mk hy150
     clear hy150
     have H' := Aside0.mk H
     clear H
     go_wp2_with (first | ((with_reducible refine gate_builtin (b := .append) (xs := #[.tmp 9, .tmp 11]) rfl ?_); at_builtin; refine Kd.R_append (Kd.int .i64) (w0 := w) w.heap.size rfl (.tmp 9) (.tmp 11) 22 3 (.int .i64 0) 8 rfl Try.underlying22 info3 rfl (by decide) (by omega) u3 x3_1 x6_1 [.int .i64 x6_1] (fun _ => True) (fun _ => False) rfl rfl ?aP (fun _ hk => hk.elim) ?aF ?aO ?aB ?aS ?aL ?_; (case aP => exact rfl); (case aB => exact (pb HB)); (case aF => exact (fun _ _ => trivial)); (case aO => exact (pr HO_3)); (case aS => exact (below_size (pb HB))); (case aL => have := LMc3.out; omega); intro v151 w4 ho hb hg hat; rw [← Ny150.out] at ho; have n0_ := am (hb); have n1_ := am (ho); clear HB HO_3; have HB := n0_; have HO152 := n1_; clear n0_ n1_ ho hb hg hat))
     go_roundg k1
     case measure => have := HK1.out; omega
     case rel => exact ⟨(y150), (wrap64 (x6_1 + 1)), (by first | rfl | (simp; done) | (simp [*]; done)), H', ⟨by have := HK1.out; omega⟩, ⟨by (with_reducible repeat (first | apply Kd.R_alloc | apply Kd.R_drewN | apply Kd.R_drew)); exact HO152.out⟩, ⟨pb HB⟩⟩
    ·
     rw [if_neg c3] at H
     exact absurd H (by simp)
   ·
    rw [if_neg c2] at H
    have c2b0 : decide (x6_1 < a0) = false := decide_eq_false c2
    clear c2
    obtain rfl := Option.some.inj H
    go_wp2
    go_ret
    exact ⟨_, by first | rfl | (simp [errW_none, errW_some] <;> rfl) | (simp [*, errW_none, errW_some] <;> rfl), by (with_reducible repeat (first | apply Kd.R_alloc | apply Kd.R_drewN | apply Kd.R_drew)); exact HO_3.out, pb HB⟩

/-! ### bitrow_fresh: function 104 -/
def bitrow_fresh.f (a0 : Int) : Option (Int × List Int) := if 0 ≤ (wrap64 (Int.tdiv (wrap64 ((wrap64 (a0 + 64)) - 1)) 64)) then (if (wrap64 (Int.tdiv (wrap64 ((wrap64 (a0 + 64)) - 1)) 64) : Int).toNat ≤ 35184372088832 then (some (a0, (List.replicate (wrap64 (Int.tdiv (wrap64 ((wrap64 (a0 + 64)) - 1)) 64) : Int).toNat 0))) else (none)) else (none)
set_option maxHeartbeats 8000000 in
set_option maxRecDepth 100000 in
theorem bitrow_fresh.calls (a0 : Int) (r1 : Int) (r2 : List Int) (w : World) (h : bitrow_fresh.f a0 = some (r1, r2)) :
  Calls Try.prog 104 #[.int .i64 a0] w fun e w' => ∃ v1_ : Value, e = .returned (.agg #[.int .i64 r1, v1_]) ∧ Kd.R (Kd.int .u64) 59 w' w.heap.size (fun _ => True) v1_ r2 ∧ Below w.heap.size w w' := by
 have hu25 := Try.underlying25
 have HB := am (Below.refl w.heap.size w)
 have H : (if 0 ≤ (wrap64 (Int.tdiv (wrap64 ((wrap64 (a0 + 64)) - 1)) 64)) then (if (wrap64 (Int.tdiv (wrap64 ((wrap64 (a0 + 64)) - 1)) 64) : Int).toNat ≤ 35184372088832 then (some (a0, (List.replicate (wrap64 (Int.tdiv (wrap64 ((wrap64 (a0 + 64)) - 1)) 64) : Int).toNat 0))) else (none)) else (none)) = some (r1, r2) := h
 clear h
 obtain ⟨ji2, hji2⟩ : ∃ j_ : Int, (wrap64 (Int.tdiv (wrap64 ((wrap64 (a0 + 64)) - 1)) 64)) = j_ := ⟨_, rfl⟩
 replace H : (if 0 ≤ (ji2) then (if (ji2 : Int).toNat ≤ 35184372088832 then (some (a0, (List.replicate (ji2 : Int).toNat 0))) else (none)) else (none)) = some (r1, r2) := by first | (rw [hji2] at H; exact H) | (simp only [hji2] at H ⊢; exact H)
 have hji2w : (IntKind.i64.wrap (Int.tdiv (wrap64 ((wrap64 (a0 + 64)) - 1)) 64)) = ji2 := (i64_w _).trans hji2
 by_cases c3 : 0 ≤ (ji2)
 ·
  rw [if_pos c3] at H
  have c3b0 := eq_true c3
  have c3b1 : decide (0 ≤ (ji2)) = true := decide_eq_true c3
  clear c3
  by_cases c4 : (ji2 : Int).toNat ≤ 35184372088832
  ·
   rw [if_pos c4] at H
   have c4b0 := eq_true c4
   have c4b1 : decide ((ji2 : Int).toNat ≤ 35184372088832) = true := decide_eq_true c4
   clear c4
   obtain ⟨y154, hy154⟩ : ∃ y_ : List Int, y_ = (List.replicate (ji2 : Int).toNat 0) := ⟨_, rfl⟩
   replace H : (some (a0, y154)) = some (r1, r2) := by first | (rw [hy154]; with_reducible exact H) | (have H2_ := (Option.bind_some _ _).symm.trans H; rw [hy154]; with_reducible exact H2_) | (have H2_ := (Option.bind_some _ _).symm.trans H; with_reducible exact H2_) | with_reducible exact H | (rw [hy154]; exact H) | exact H
   have Ny154 := Aside0.mk hy154
   clear hy154
   simp only [Option.some.injEq, Prod.mk.injEq] at H
   obtain ⟨rfl, rfl⟩ := H
   go_enter Try.func104, Try.ntmps104
   go_wp2_with (first | ((with_reducible refine gate_dst (N := 2) rfl ?_); refine box_event ?hg (N := 2) ?hd (cs := #[.int .i64 0, .slice none 0 0]) (t := 25) ?hr ?_; (case hd => rfl); (case hg => rfl); (case hr => first | (go_simp; done) | (go_simp; rfl)); intro gb153 hg w5 hbox hb; have n0_ := am (below_step (pb HB) hb); have n1_ := am (hbox); have n2_ := am ((by rw [hg]; exact (below_size (pb HB)) : w.heap.size ≤ gb153)); have n3_ := am ((by rw [hg]; exact (below_size (pb HB)) : w.heap.size ≤ gb153)); clear HB; have HB := n0_; have BK153 := n1_; have GW153 := n2_; have GE153 := n3_; clear n0_ n1_ n2_ n3_ hb hbox hg) | ((with_reducible refine gate_dst (N := 8) rfl ?_); refine Kd.R_make (Kd.int .u64) _ 59 rfl (N := 8) rfl 23 _ _ rfl ji2 rfl rfl Try.underlying23 (.int .u64 0) 8 info59 rfl (by decide) (by omega) 0 (ok := fun _ => True) (okp := fun _ => True) rfl (fun _ hk => hk) trivial (of_decide_eq_true (by first | (with_reducible assumption) | assumption)) (Nat.le_trans (Nat.mul_le_mul_right _ (of_decide_eq_true (by first | (with_reducible assumption) | assumption) : ji2.toNat ≤ 35184372088832)) (by omega)) (Below.refl _ _) (Nat.le_refl _) ?_; intro v155 w6 ho7 hb hg_ hnew_; clear hg_ hnew_; (first | rw [← Ny154.out] at ho7 | (simp only [Int.reduceToNat] at ho7; rw [← Ny154.out] at ho7)); have n0_ := am (Kd.R_lower ho7 (below_size (pb HB))); have n1_ := bb BK153 hb; have n2_ := am (below_step (pb HB) hb); clear BK153 HB; have HO156 := n0_; have BK153 := n1_; have HB := n2_; clear n0_ n1_ n2_ hb ho7; obtain ⟨Ao8, co8, eo8⟩ := Kd.R_slice HO156.out; subst eo8; have hcz9_0 : w6.cell? ⟨gb153, 0, none⟩ = some (.int .i64 0) := (blk_cell BK153.out 0).trans rfl; have hcz9_1 : w6.cell? ⟨gb153, 1, none⟩ = some (.slice none 0 0) := (blk_cell BK153.out 1).trans rfl; have hfz9_0 := blk_frozen BK153.out 0; have hfz9_1 := blk_frozen BK153.out 1))
   refine bodyPost_ret (results_cell_row rfl _ _ gb153 25 #[.int .i64 a0, .slice Ao8 y154.length co8] (0, 0) _ rfl (by (with_reducible repeat (first | refine blk_drewN ?_ _ | refine blk_drew ?_ | refine blk_alloc ?_ _)); refine blk_put (cs := #[.int .i64 a0, .slice none 0 0]) ?_ 1 _ rfl; (with_reducible repeat (first | refine blk_drewN ?_ _ | refine blk_drew ?_ | refine blk_alloc ?_ _)); refine blk_put (cs := #[.int .i64 0, .slice none 0 0]) ?_ 0 _ rfl; (with_reducible repeat (first | refine blk_drewN ?_ _ | refine blk_drew ?_ | refine blk_alloc ?_ _)); exact BK153.out) Try.underlying25 rfl (by kernel_rfl)) rfl ?_
   exact ⟨_, by first | rfl | (simp [errW_none, errW_some] <;> rfl) | (simp only [← hji2]; first | rfl | (simp [errW_none, errW_some] <;> rfl)) | (simp [*, errW_none, errW_some] <;> rfl), by (with_reducible repeat (first | apply Kd.R_alloc | apply Kd.R_drewN | apply Kd.R_drew)); exact Kd.R_mono (Kd.R_far (p := ⟨gb153, 1, none⟩) (Kd.R_far (p := ⟨gb153, 0, none⟩) (Kd.R_types HO156.out BK153.out (by decide)) (fun _ hk => hk.2) (.int .i64 a0)) (fun _ hk => hk.2) (.slice Ao8 y154.length co8)) (fun _ hk => trivial), pb HB⟩
  ·
   rw [if_neg c4] at H
   exact absurd H (by simp)
 ·
  rw [if_neg c3] at H
  exact absurd H (by simp)

/-! ### bitrow_Of: function 21 -/
def bitrow_Of.l0 : Nat → Int → List Int → Int → Int → Int → List Int → Option (Int × List Int × Int)
 | 0, _, _, _, _, _, _ => none
 | k + 1, x0, x15, x16, x17, x164000, x164001 => if x17 < x16 then (if 0 ≤ x17 then (if x17 < (x15.length : Int) then (if (rd x15 x17) < 0 then (some (0, ([] : List Int), 3)) else (if (rd x15 x17) ≥ x0 then (some (0, ([] : List Int), 3)) else (if 0 ≤ (wrap64 (Int.tdiv (rd x15 x17) 64)) then (if (wrap64 (Int.tdiv (rd x15 x17) 64)) < (x164001.length : Int) then (if 0 ≤ (Int.tmod (rd x15 x17) 64) then (bitrow_Of.l0 k x0 x15 x16 (wrap64 (x17 + 1)) x164000 (x164001.set ((wrap64 (Int.tdiv (rd x15 x17) 64)) : Int).toNat (Go.bits .or .u64 (rd x164001 (wrap64 (Int.tdiv (rd x15 x17) 64))) (shl .u64 1 (Int.tmod (rd x15 x17) 64))))) else (none)) else (none)) else (none)))) else (none)) else (none)) else (some (x164000, x164001, 0))
def bitrow_Of.f (k : Nat) (a0 : Int) (l1 : List Int) : Option (Int × List Int × Int) := (bitrow_sized.f a0).bind fun t158 => (if t158 = true then ((bitrow_fresh.f a0).bind fun bt159 => (bitrow_Of.l0 k a0 l1 (l1.length : Int) 0 bt159.1 bt159.2)) else (some (0, ([] : List Int), 2)))
theorem bitrow_Of.mono_l : ∀ k, (∀ y0 y1 y2 y3 y4 y5, LeO (bitrow_Of.l0 k y0 y1 y2 y3 y4 y5) (bitrow_Of.l0 (k + 1) y0 y1 y2 y3 y4 y5))
 | 0 => fun _ _ _ _ _ _ r h => by simp [bitrow_Of.l0] at h
 | k + 1 => by
  have ih0 := bitrow_Of.mono_l k
  ·
   intro y0 y1 y2 y3 y4 y5
   unfold bitrow_Of.l0
   repeat' first
   | (with_reducible exact ih0 _ _ _ _ _ _)
   | (with_reducible exact LeO.refl _)
   | (with_reducible exact LeO.none _)
   | (with_reducible refine LeO.ite ?_ ?_)
   | (with_reducible refine LeO.bind ?_ (fun _ => ?_))
   | exact ih0 _ _ _ _ _ _
   | exact LeO.none _
   | refine LeO.ite ?_ ?_
   | refine LeO.bind ?_ (fun _ => ?_)
theorem bitrow_Of.mono : ∀ a0 a1 k, LeO (bitrow_Of.f k a0 a1) (bitrow_Of.f (k + 1) a0 a1) := by
 intro a0 a1 k
 have ih0 := bitrow_Of.mono_l k
 unfold bitrow_Of.f
 repeat' first
   | (with_reducible exact ih0 _ _ _ _ _ _)
   | (with_reducible exact LeO.refl _)
   | (with_reducible exact LeO.none _)
   | (with_reducible refine LeO.ite ?_ ?_)
   | (with_reducible refine LeO.bind ?_ (fun _ => ?_))
   | exact ih0 _ _ _ _ _ _
   | exact LeO.none _
   | refine LeO.ite ?_ ?_
   | refine LeO.bind ?_ (fun _ => ?_)
def bitrow_Of.T9 : Bool × List (List Nat × List Nat) := (true, [([], []), ([0], [0]), ([], []), ([2], [2]), ([1, 3], [1, 3]), ([4], [4]), ([], []), ([6], [6]), ([7], [7]), ([5, 8], [5, 8]), ([1, 3, 0, 1, 2, 3, 4, 5, 6, 7, 8, 9], [1, 3]), ([10, 9, 0, 1, 2, 3, 4, 5, 6, 7, 8, 9], [9, 10])])
def bitrow_Of.B9 : List Nat := [0, 1, 0, 4, 15, 31, 0, 64, 192, 511, 1023, 2047]
theorem bitrow_Of.tab9 : rtab .any (opsOf Try.f21 9) = bitrow_Of.T9 := by kernel_rfl
theorem bitrow_Of.bits9 : waitsOk bitrow_Of.T9.2 bitrow_Of.B9 = true := by kernel_rfl
set_option maxHeartbeats 8000000 in
set_option maxRecDepth 100000 in
theorem bitrow_Of.calls (k : Nat) (a0 : Int) (A1 : Option Addr) (c1 : Nat) (l1 : List Int) (r1 : Int) (r2 : List Int) (r3 : Int) (w : World) (hr1 : Kd.C (Kd.int .i64) w A1 l1.length l1) (hc1 : l1.length ≤ c1) (h : bitrow_Of.f k a0 l1 = some (r1, r2, r3)) :
  Calls Try.prog 21 #[.int .i64 a0, .slice A1 l1.length c1] w fun e w' => ∃ v1_ : Value, e = .returned (.tuple #[.agg #[.int .i64 r1, v1_], .int .i64 r3]) ∧ Kd.R (Kd.int .u64) 59 w' w.heap.size (fun _ => True) v1_ r2 ∧ Below w.heap.size w w' := by
 have hu25 := Try.underlying25
 have HR1 := Aside0.mk hr1
 have HC1 := Aside0.mk hc1
 clear hr1 hc1
 have HB := am (Below.refl w.heap.size w)
 have H : ((bitrow_sized.f a0).bind fun t158 => (if t158 = true then ((bitrow_fresh.f a0).bind fun bt159 => (bitrow_Of.l0 k a0 l1 (l1.length : Int) 0 bt159.1 bt159.2)) else (some (0, ([] : List Int), 2)))) = some (r1, r2, r3) := h
 clear h
 replace H := Option.bind_eq_some_iff.mp H
 obtain ⟨t158, A30, H⟩ := H
 replace H : (if t158 = true then ((bitrow_fresh.f a0).bind fun bt159 => (bitrow_Of.l0 k a0 l1 (l1.length : Int) 0 bt159.1 bt159.2)) else (some (0, ([] : List Int), 2))) = some (r1, r2, r3) := H
 have A3 := Aside0.mk A30
 clear A30
 by_cases c4 : t158 = true
 ·
  subst c4
  have H1 : ((bitrow_fresh.f a0).bind fun bt159 => (bitrow_Of.l0 k a0 l1 (l1.length : Int) 0 bt159.1 bt159.2)) = some (r1, r2, r3) := by rw [if_pos rfl] at H; exact H
  clear H
  have H := H1
  clear H1
  replace H := Option.bind_eq_some_iff.mp H
  obtain ⟨⟨t159, t160⟩, A50, H⟩ := H
  replace H : (bitrow_Of.l0 k a0 l1 (l1.length : Int) 0 t159 t160) = some (r1, r2, r3) := H
  have A5 := Aside0.mk A50
  clear A50
  have H' := Aside0.mk H
  clear H
  go_enter Try.func21, Try.ntmps21
  go_wp2_with (first | ((with_reducible refine gate_dst (N := 4) rfl ?_); refine box_event ?hg (N := 4) ?hd (cs := #[.int .i64 0, .slice none 0 0]) (t := 25) ?hr ?_; (case hd => rfl); (case hg => rfl); (case hr => first | (go_simp; done) | (go_simp; rfl)); intro gb157 hg w6 hbox hb; have n0_ := am (below_step (pb HB) hb); have n1_ := am (hbox); have n2_ := am ((by rw [hg]; exact (below_size (pb HB)) : w.heap.size ≤ gb157)); have n3_ := am ((by rw [hg]; exact (below_size (pb HB)) : w.heap.size ≤ gb157)); clear HB; have HB := n0_; have BK157 := n1_; have GW157 := n2_; have GE157 := n3_; clear n0_ n1_ n2_ n3_ hb hbox hg) | ((with_reducible refine gate_callee (f := 103) rfl ?_); refine goesL_ (some 10) rfl rfl Try.func103 (by kernel_rfl) rfl #[.int .i64 a0] rfl (by (try simp only [List.map_toArray, List.map_cons, List.map_nil]); first | done | rfl | (simp only [List.length_drop, List.length_take]; rfl)) ?_; (with_reducible refine (bitrow_sized.calls a0 true _ A3.out).mono ?_); rintro e w' ⟨rfl, ⟨nd, rfl⟩⟩; refine ⟨_, rfl, ?_⟩; (try (rw [drewN_self w6]; generalize hq_ : World.drewN w6 _ = w6; have n0_ : Aside0 (w6.heap[gb157]? = some (.cells #[.int .i64 0, .slice none 0 0] 25 (0, 0))) := ⟨by rw [← hq_]; exact (pk BK157)⟩; have n1_ : Aside0 (Below w.heap.size w w6) := ⟨by rw [← hq_]; exact (pb HB)⟩; clear BK157 HB hq_; have BK157 := n0_; have HB := n1_; clear n0_ n1_))) | ((with_reducible refine gate_callee (f := 104) rfl ?_); refine goesL_ (some 14) rfl rfl Try.func104 (by kernel_rfl) rfl #[.int .i64 a0] rfl (by (try simp only [List.map_toArray, List.map_cons, List.map_nil]); first | done | rfl | (simp only [List.length_drop, List.length_take]; rfl)) ?_; (with_reducible refine (bitrow_fresh.calls a0 t159 t160 _ A5.out).mono ?_); rintro e w7 ⟨v161, rfl, ho0, hb⟩; refine ⟨_, rfl, ?_⟩; have n0_ := am (Kd.R_lower ho0 (below_size (pb HB))); have n1_ := bb BK157 hb; have n2_ := am (below_step (pb HB) hb); clear BK157 HB; have HO162 := n0_; have BK157 := n1_; have HB := n2_; clear n0_ n1_ n2_; (try clear hb); (try clear hb2); (try clear hk); (try clear hi); (try clear ho0)) | ((with_reducible refine gate_dst (N := 6) rfl ?_); refine box_event ?hg (N := 6) ?hd (cs := #[.int .i64 0, .slice none 0 0]) (t := 25) ?hr ?_; (case hd => rfl); (case hg => rfl); (case hr => first | (go_simp; done) | (go_simp; rfl)); intro gb163 hg w8 hbox hb; have n0_ := am (Kd.R_below (pr HO162) hb); have n1_ := bb BK157 hb; have n2_ := am (below_step (pb HB) hb); have n3_ := am (hbox); have n4_ := am ((by rw [hg]; exact (below_size (pb HB)) : w.heap.size ≤ gb163)); have n5_ := am ((by rw [hg]; exact (below_size (pb HB)) : w.heap.size ≤ gb163)); have n6_ := am ((by rw [hg]; exact Nat.ne_of_lt (bl BK157) : gb157 ≠ gb163)); have n7_ := am ((by rw [hg]; exact Nat.ne_of_gt (bl BK157) : gb163 ≠ gb157)); clear HO162 BK157 HB; have HO162 := n0_; have BK157 := n1_; have HB := n2_; have BK163 := n3_; have GW163 := n4_; have GE163 := n5_; have NB157_163 := n6_; have NB163_157 := n7_; clear n0_ n1_ n2_ n3_ n4_ n5_ n6_ n7_ hb hbox hg; have hnb9 := NB163_157.out; have hnc9 := NB157_163.out; have hcz10_0 : w8.cell? ⟨gb163, 0, none⟩ = some (.int .i64 0) := (blk_cell BK163.out 0).trans rfl; have hcz10_1 : w8.cell? ⟨gb163, 1, none⟩ = some (.slice none 0 0) := (blk_cell BK163.out 1).trans rfl; have hfz10_0 := blk_frozen BK163.out 0; have hfz10_1 := blk_frozen BK163.out 1; obtain ⟨Ao11, co11, eo11⟩ := Kd.R_slice HO162.out; subst eo11))
  go_loopg [17] k (fun kq v17 w' => ∃ (x17_1 : Int) (x158000_1 : Int) (x164001_1 : List Int) (u164001 : Value), v17 = .int .i64 x17_1 ∧ Aside0 (bitrow_Of.l0 kq a0 l1 (l1.length : Int) x17_1 t159 x164001_1 = some (r1, r2, r3)) ∧ Aside0 (kq ≤ k) ∧ Aside0 (Kd.R (Kd.int .u64) 59 w' w.heap.size (fun _ => True) u164001 x164001_1) ∧ Aside0 (w'.heap[gb157]? = some (.cells #[.int .i64 x158000_1, (.slice none 0 0)] 25 (0, 0))) ∧ Aside0 (w'.heap[gb163]? = some (.cells #[.int .i64 t159, u164001] 25 (0, 0))) ∧ Aside0 (Below w.heap.size w w'))
  case atStart => exact ⟨(0), (0), (t160), (.slice Ao11 t160.length co11), (by first | rfl | (simp; done) | (simp [*]; done)), H', ⟨Nat.le_refl _⟩, ⟨by (with_reducible repeat (first | apply Kd.R_alloc | apply Kd.R_drewN | apply Kd.R_drew)); exact Kd.R_mono (Kd.R_far (p := ⟨gb163, 1, none⟩) (Kd.R_far (p := ⟨gb163, 0, none⟩) (Kd.R_types HO162.out BK163.out (by decide)) (fun _ hk => hk.2) (.int .i64 t159)) (fun _ hk => hk.2) (.slice Ao11 t160.length co11)) (fun _ hk => trivial)⟩, ⟨by (with_reducible repeat (first | refine blk_drewN ?_ _ | refine blk_drew ?_ | refine blk_alloc ?_ _)); refine blk_far ?_ NB157_163.out _; (with_reducible repeat (first | refine blk_drewN ?_ _ | refine blk_drew ?_ | refine blk_alloc ?_ _)); refine blk_far ?_ NB157_163.out _; (with_reducible repeat (first | refine blk_drewN ?_ _ | refine blk_drew ?_ | refine blk_alloc ?_ _)); exact BK157.out⟩, ⟨by (with_reducible repeat (first | refine blk_drewN ?_ _ | refine blk_drew ?_ | refine blk_alloc ?_ _)); refine blk_put (cs := #[.int .i64 t159, .slice none 0 0]) ?_ 1 _ rfl; (with_reducible repeat (first | refine blk_drewN ?_ _ | refine blk_drew ?_ | refine blk_alloc ?_ _)); refine blk_put (cs := #[.int .i64 0, .slice none 0 0]) ?_ 0 _ rfl; (with_reducible repeat (first | refine blk_drewN ?_ _ | refine blk_drew ?_ | refine blk_alloc ?_ _)); exact BK163.out⟩, ⟨pb HB⟩⟩
  case round =>
   clear H'
   try clear c1
   try clear c2
   try clear p2
   try clear c4
   try clear c9
   try clear c10
   try clear hcz10_0
   try clear hcz10_1
   try clear hfz10_0
   try clear hfz10_1
   obtain ⟨x17_1, x158000_1, x164001_1, u164001, rfl, HA, HK1, HO_164001, BK157, BK163, HB⟩ := hrel
   cases gk with
   | zero => exact absurd HA.out (by simp [bitrow_Of.l0])
   | succ k1 =>
    have H := HA.out
    clear HA
    simp only [bitrow_Of.l0] at H
    by_cases c12 : x17_1 < (l1.length : Int)
    ·
     rw [if_pos c12] at H
     have c12b0 : decide (x17_1 < (l1.length : Int)) = true := decide_eq_true c12
     clear c12
     by_cases c13 : 0 ≤ x17_1
     ·
      rw [if_pos c13] at H
      have c13b0 : decide (0 ≤ x17_1) = true := decide_eq_true c13
      clear c13
      by_cases c14 : x17_1 < (l1.length : Int)
      ·
       rw [if_pos c14] at H
       have c14b0 : decide (x17_1 < (l1.length : Int)) = true := decide_eq_true c14
       clear c14
       by_cases c15 : (rd l1 x17_1) < 0
       ·
        rw [if_pos c15] at H
        have c15b0 : decide ((rd l1 x17_1) < 0) = true := decide_eq_true c15
        clear c15
        simp only [Option.some.injEq, Prod.mk.injEq] at H
        obtain ⟨rfl, rfl, rfl⟩ := H
        have p164 : 0 ≤ (x17_1 : Int) := of_decide_eq_true (by first | (with_reducible assumption) | assumption)
        have q164 : x17_1 < (l1.length : Int) := of_decide_eq_true (by first | (with_reducible assumption) | assumption)
        obtain ⟨ad164, e164, hx164_0⟩ := Kd.at_int HR1.out x17_1 p164 q164
        cases e164
        replace hx164_0 := (HB.out.cell (World.block_lt_of_cell? w _ hx164_0)).trans hx164_0
        replace p164 := eq_true p164
        replace q164 := eq_true q164
        have hnb16 := NB157_163.out
        have hnc16 := NB163_157.out
        have hcz17_0 : wr.cell? ⟨gb157, 0, none⟩ = some (.int .i64 x158000_1) := (blk_cell BK157.out 0).trans rfl
        have hcz17_1 : wr.cell? ⟨gb157, 1, none⟩ = some (.slice none 0 0) := (blk_cell BK157.out 1).trans rfl
        have hfz17_0 := blk_frozen BK157.out 0
        have hfz17_1 := blk_frozen BK157.out 1
        go_wp2
        refine bodyPost_ret (results_ct rfl _ _ gb157 25 #[.int .i64 0, .slice none 0 0] (0, 0) _ rfl (by (with_reducible repeat (first | refine blk_drewN ?_ _ | refine blk_drew ?_ | refine blk_alloc ?_ _)); refine blk_put (cs := #[.int .i64 0, .slice none 0 0]) ?_ 1 _ rfl; (with_reducible repeat (first | refine blk_drewN ?_ _ | refine blk_drew ?_ | refine blk_alloc ?_ _)); refine blk_put (cs := #[.int .i64 x158000_1, .slice none 0 0]) ?_ 0 _ rfl; (with_reducible repeat (first | refine blk_drewN ?_ _ | refine blk_drew ?_ | refine blk_alloc ?_ _)); exact BK157.out) Try.underlying25 rfl (by kernel_rfl)) rfl ?_
        exact ⟨_, by first | rfl | (simp [errW_none, errW_some] <;> rfl) | (simp [*, errW_none, errW_some] <;> rfl), by first | exact Kd.R_nil _ _ _ _ _ | exact Kd.N_nil _ _ _ _ _ | exact Kd.V_nil _ _ _ _ _ | exact Kd.Q_nil _ _ _ _ _ | exact Kd.S_nil _ _ _ _ _, pb HB⟩
       ·
        rw [if_neg c15] at H
        have c15b0 : decide ((rd l1 x17_1) < 0) = false := decide_eq_false c15
        clear c15
        by_cases c18 : (rd l1 x17_1) ≥ a0
        ·
         rw [if_pos c18] at H
         have c18b0 : decide (a0 ≤ (rd l1 x17_1)) = true := decide_eq_true c18
         clear c18
         simp only [Option.some.injEq, Prod.mk.injEq] at H
         obtain ⟨rfl, rfl, rfl⟩ := H
         have p164 : 0 ≤ (x17_1 : Int) := of_decide_eq_true (by first | (with_reducible assumption) | assumption)
         have q164 : x17_1 < (l1.length : Int) := of_decide_eq_true (by first | (with_reducible assumption) | assumption)
         obtain ⟨ad164, e164, hx164_0⟩ := Kd.at_int HR1.out x17_1 p164 q164
         cases e164
         replace hx164_0 := (HB.out.cell (World.block_lt_of_cell? w _ hx164_0)).trans hx164_0
         replace p164 := eq_true p164
         replace q164 := eq_true q164
         have hnb19 := NB157_163.out
         have hnc19 := NB163_157.out
         have hcz20_0 : wr.cell? ⟨gb157, 0, none⟩ = some (.int .i64 x158000_1) := (blk_cell BK157.out 0).trans rfl
         have hcz20_1 : wr.cell? ⟨gb157, 1, none⟩ = some (.slice none 0 0) := (blk_cell BK157.out 1).trans rfl
         have hfz20_0 := blk_frozen BK157.out 0
         have hfz20_1 := blk_frozen BK157.out 1
         go_wp2
         refine bodyPost_ret (results_ct rfl _ _ gb157 25 #[.int .i64 0, .slice none 0 0] (0, 0) _ rfl (by (with_reducible repeat (first | refine blk_drewN ?_ _ | refine blk_drew ?_ | refine blk_alloc ?_ _)); refine blk_put (cs := #[.int .i64 0, .slice none 0 0]) ?_ 1 _ rfl; (with_reducible repeat (first | refine blk_drewN ?_ _ | refine blk_drew ?_ | refine blk_alloc ?_ _)); refine blk_put (cs := #[.int .i64 x158000_1, .slice none 0 0]) ?_ 0 _ rfl; (with_reducible repeat (first | refine blk_drewN ?_ _ | refine blk_drew ?_ | refine blk_alloc ?_ _)); exact BK157.out) Try.underlying25 rfl (by kernel_rfl)) rfl ?_
         exact ⟨_, by first | rfl | (simp [errW_none, errW_some] <;> rfl) | (simp [*, errW_none, errW_some] <;> rfl), by first | exact Kd.R_nil _ _ _ _ _ | exact Kd.N_nil _ _ _ _ _ | exact Kd.V_nil _ _ _ _ _ | exact Kd.Q_nil _ _ _ _ _ | exact Kd.S_nil _ _ _ _ _, pb HB⟩
        ·
         rw [if_neg c18] at H
         have c18b0 : decide (a0 ≤ (rd l1 x17_1)) = false := decide_eq_false c18
         clear c18
         obtain ⟨ji21, hji21⟩ : ∃ j_ : Int, (wrap64 (Int.tdiv (rd l1 x17_1) 64)) = j_ := ⟨_, rfl⟩
         replace H : (if 0 ≤ (ji21) then (if (ji21) < (x164001_1.length : Int) then (if 0 ≤ (Int.tmod (rd l1 x17_1) 64) then (bitrow_Of.l0 k1 a0 l1 (l1.length : Int) (wrap64 (x17_1 + 1)) t159 (x164001_1.set ((ji21) : Int).toNat (Go.bits .or .u64 (rd x164001_1 (ji21)) (shl .u64 1 (Int.tmod (rd l1 x17_1) 64))))) else (none)) else (none)) else (none)) = some (r1, r2, r3) := by first | (rw [hji21] at H; exact H) | (simp only [hji21] at H ⊢; exact H)
         have hji21w : (IntKind.i64.wrap (Int.tdiv (rd l1 x17_1) 64)) = ji21 := (i64_w _).trans hji21
         by_cases c22 : 0 ≤ (ji21)
         ·
          rw [if_pos c22] at H
          have c22b0 : decide (0 ≤ (ji21)) = true := decide_eq_true c22
          clear c22
          by_cases c23 : (ji21) < (x164001_1.length : Int)
          ·
           rw [if_pos c23] at H
           have c23b0 : decide ((ji21) < (x164001_1.length : Int)) = true := decide_eq_true c23
           clear c23
           obtain ⟨ji24, hji24⟩ : ∃ j_ : Int, (Int.tmod (rd l1 x17_1) 64) = j_ := ⟨_, rfl⟩
           replace H : (if 0 ≤ (ji24) then (bitrow_Of.l0 k1 a0 l1 (l1.length : Int) (wrap64 (x17_1 + 1)) t159 (x164001_1.set ((ji21) : Int).toNat (Go.bits .or .u64 (rd x164001_1 (ji21)) (shl .u64 1 (ji24))))) else (none)) = some (r1, r2, r3) := by first | (rw [hji24] at H; exact H) | (simp only [hji24] at H ⊢; exact H)
           by_cases c25 : 0 ≤ (ji24)
           ·
            rw [if_pos c25] at H
            have c25b0 := eq_true c25
            have c25b1 : decide (0 ≤ (ji24)) = true := decide_eq_true c25
            clear c25
            obtain ⟨ji26, hji26⟩ : ∃ j_ : Int, (shl .u64 1 (ji24)) = j_ := ⟨_, rfl⟩
            replace H : (bitrow_Of.l0 k1 a0 l1 (l1.length : Int) (wrap64 (x17_1 + 1)) t159 (x164001_1.set ((ji21) : Int).toNat (Go.bits .or .u64 (rd x164001_1 (ji21)) (ji26)))) = some (r1, r2, r3) := by first | (rw [hji26] at H; exact H) | (simp only [hji26] at H ⊢; exact H)
            have hji26_ : (IntKind.u64.wrap (1 * 2 ^ min (ji24).toNat 64)) = ji26 := hji26
            have hji26z : (ji24) ≤ 64 → (IntKind.u64.wrap (1 * 2 ^ (ji24).toNat)) = ji26 := shl_small hji26
            have hji26u : (IntKind.u64.wrap (2 ^ min (ji24).toNat 64)) = ji26 := by have h_ := hji26_; rw [Int.one_mul] at h_; exact h_
            have hji26v : (ji24) ≤ 64 → (IntKind.u64.wrap (2 ^ (ji24).toNat)) = ji26 := fun hle_ => by have h_ := hji26z hle_; rw [Int.one_mul] at h_; exact h_
            obtain ⟨y166, hy166⟩ : ∃ y_ : List Int, y_ = (x164001_1.set ((ji21) : Int).toNat (Go.bits .or .u64 (rd x164001_1 (ji21)) (ji26))) := ⟨_, rfl⟩
            replace H : (bitrow_Of.l0 k1 a0 l1 (l1.length : Int) (wrap64 (x17_1 + 1)) t159 y166) = some (r1, r2, r3) := by first | (rw [hy166]; with_reducible exact H) | (have H2_ := (Option.bind_some _ _).symm.trans H; rw [hy166]; with_reducible exact H2_) | (have H2_ := (Option.bind_some _ _).symm.trans H; with_reducible exact H2_) | with_reducible exact H | (rw [hy166]; exact H) | exact H
            have Ny166 := Aside0.mk hy166
            clear hy166
            have H' := Aside0.mk H
            clear H
            have p164 : 0 ≤ (x17_1 : Int) := of_decide_eq_true (by first | (with_reducible assumption) | assumption)
            have q164 : x17_1 < (l1.length : Int) := of_decide_eq_true (by first | (with_reducible assumption) | assumption)
            obtain ⟨ad164, e164, hx164_0⟩ := Kd.at_int HR1.out x17_1 p164 q164
            cases e164
            replace hx164_0 := (HB.out.cell (World.block_lt_of_cell? w _ hx164_0)).trans hx164_0
            replace p164 := eq_true p164
            replace q164 := eq_true q164
            try go_wp2
            have n0_ := am (Kd.R_drew HO_164001.out)
            have n1_ := am (blk_drew BK157.out)
            have n2_ := am (blk_drew BK163.out)
            have n3_ := am (below_drew1 HB.out)
            clear HO_164001
            clear BK157
            clear BK163
            clear HB
            have HO_164001 := n0_
            have BK157 := n1_
            have BK163 := n2_
            have HB := n3_
            clear n0_ n1_ n2_ n3_
            obtain ⟨Ao29, co29, eo29⟩ := Kd.R_slice HO_164001.out
            (first | subst eo29 | (injection eo29 with f1_ f2_ f3_; have f4_ := f1_.symm; have f5_ := f3_.symm; clear f1_ f2_ f3_; subst f4_; subst f5_))
            have p165 : 0 ≤ ((ji21) : Int) := of_decide_eq_true (by first | (with_reducible assumption) | assumption)
            have q165 : (ji21) < (x164001_1.length : Int) := of_decide_eq_true (by first | (with_reducible assumption) | assumption)
            obtain ⟨ad165, e165, hx165_0⟩ := Kd.at_int (Kd.R_reads' HO_164001.out).2.2 (ji21) p165 q165
            cases e165
            replace p165 := eq_true p165
            replace q165 := eq_true q165
            have p27 : 0 ≤ ((ji21) : Int) := of_decide_eq_true (by first | (with_reducible assumption) | assumption)
            have q27 : ((ji21) : Int) < ((x164001_1.length : Int) : Int) := of_decide_eq_true (by first | (with_reducible assumption) | assumption)
            obtain ⟨go27, co27, eo27, gb27, gl27, cl27, HG27⟩ := Kd.R_form HO_164001.out (by omega)
            (first | cases eo27 | (injection eo27 with ea_ en_ ec_; (first | subst ea_ | (injection ea_ with ea_; subst ea_)); subst ec_; clear en_))
            have GB27 := Aside0.mk gb27
            have GG27 := Aside0.mk HG27
            clear gb27 gl27 HG27
            (first | simp only [add_plain] at hx165_0 | skip)
            obtain ⟨hx27_0, hf27_0⟩ := Kd.R_celln 0 HO_164001.out ((ji21) : Int) p27 q27
            replace p27 := eq_true p27
            replace q27 := eq_true q27
            have HP30 := Kd.R_putn HO_164001.out ((ji21) : Int) (Go.bits .or .u64 (rd x164001_1 (ji21)) (ji26))
            rw [← Ny166.out] at HP30
            have HQ30 := Aside0.mk HP30
            clear HP30
            refine start_ (n := 12) (S := fun w' => w'.cell? ⟨gb163, 0, none⟩ = some (.int .i64 t159) ∧ w'.cell? ⟨gb163, 1, none⟩ = some (.slice (some ⟨go27, 0, none⟩) x164001_1.length co29) ∧ w'.cell? ⟨go27, ((ji21)).toNat, none⟩ = some (.int .u64 (rd x164001_1 (ji21)))) (ds := [11]) #[F, F, F, F, F, F, F, F, F, F, F, F] (by kernel_rfl) rfl rfl ⟨(blk_cell BK163.out 0).trans rfl, (blk_cell BK163.out 1).trans rfl, hx165_0⟩ (fun hHeld => ?_); refine with_tabW bitrow_Of.tab9 bitrow_Of.bits9 (fun HT_ HW_ => ?_)
            generalize wr.drew = w28 at HO_164001 BK157 BK163 HB GG27 HQ30 hf27_0 hx165_0 hx27_0 hHeld ⊢
            refine pure_ (i := 0) (N := some 29) (v := ?_) (a' := ?_) #[T, F, F, F, F, F, F, F, F, F, F, F] rfl rfl (any_of HT_.out (by kernel_rfl)) (fun _ _ _ h => h) (Or.inl ⟨by rfl, ?_⟩) ?_ ?_
            rotate_left
            ·
             intro w'
             go_simp
             with_reducible rfl
            rotate_left
            ·
             simp only [Act.put, q1, q2, q3, i64_w, i32_w]
             rfl
            refine pure_ (i := 2) (N := some 31) (v := ?_) (a' := ?_) #[T, F, T, F, F, F, F, F, F, F, F, F] rfl rfl (any_of HT_.out (by kernel_rfl)) (fun _ _ _ h => h) (Or.inl ⟨by rfl, ?_⟩) ?_ ?_
            rotate_left
            ·
             intro w'
             go_simp
             with_reducible rfl
            rotate_left
            ·
             simp only [Act.put, q1, q2, q3, i64_w, i32_w]
             rfl
            refine pure_ (i := 3) (N := some 32) (v := ?_) (a' := ?_) #[T, F, T, T, F, F, F, F, F, F, F, F] rfl rfl (any_of HT_.out (by kernel_rfl)) (fun _ _ _ h => h) (Or.inl ⟨by rfl, ?_⟩) ?_ ?_
            rotate_left
            ·
             intro w'
             go_simp
             with_reducible rfl
            rotate_left
            ·
             simp only [Act.put, q1, q2, q3, i64_w, i32_w]
             rfl
            refine pure_ (i := 6) (N := some 35) (v := ?_) (a' := ?_) #[T, F, T, T, F, F, T, F, F, F, F, F] rfl rfl (any_of HT_.out (by kernel_rfl)) (fun _ _ _ h => h) (Or.inl ⟨by rfl, ?_⟩) ?_ ?_
            rotate_left
            ·
             intro w'
             go_simp
             with_reducible rfl
            rotate_left
            ·
             simp only [Act.put, q1, q2, q3, i64_w, i32_w]
             rfl
            refine pure_ (i := 7) (N := some 36) (v := ?_) (a' := ?_) #[T, F, T, T, F, F, T, T, F, F, F, F] rfl rfl (any_of HT_.out (by kernel_rfl)) (fun _ _ _ h => h) (Or.inl ⟨by rfl, ?_⟩) ?_ ?_
            rotate_left
            ·
             intro w'
             go_simp
             with_reducible rfl
            rotate_left
            ·
             simp only [Act.put, q1, q2, q3, i64_w, i32_w]
             rfl
            refine pure_ (i := 8) (N := some 37) (v := ?_) (a' := ?_) #[T, F, T, T, F, F, T, T, T, F, F, F] rfl rfl (any_of HT_.out (by kernel_rfl)) (fun _ _ _ h => h) (Or.inl ⟨by rfl, ?_⟩) ?_ ?_
            rotate_left
            ·
             intro w'
             go_simp
             with_reducible rfl
            rotate_left
            ·
             simp only [Act.put, q1, q2, q3, i64_w, i32_w]
             rfl
            refine take_ (i := 1) (N := some 30) (v := ?_) (a' := ?_) #[T, T, T, T, F, F, T, T, T, F, F, F] rfl rfl (take_ofW HT_.out HW_.out (by kernel_rfl)) (fun _ _ _ h => h) (Or.inl ⟨by rfl, ?_⟩) hHeld ?_ ?_
            rotate_left
            ·
             rintro w' ⟨s0, s1, s2⟩
             go_simp
             with_reducible rfl
            rotate_left
            ·
             simp only [Act.put, q1, q2, q3, i64_w, i32_w]
             rfl
            refine pure_ (i := 4) (N := some 33) (v := ?_) (a' := ?_) #[T, T, T, T, T, F, T, T, T, F, F, F] rfl rfl (any_of HT_.out (by kernel_rfl)) (fun _ _ _ h => h) (Or.inl ⟨by rfl, ?_⟩) ?_ ?_
            rotate_left
            ·
             intro w'
             go_simp
             with_reducible rfl
            rotate_left
            ·
             simp only [Act.put, q1, q2, q3, i64_w, i32_w]
             rfl
            refine take_ (i := 5) (N := some 34) (v := ?_) (a' := ?_) #[T, T, T, T, T, T, T, T, T, F, F, F] rfl rfl (take_ofW HT_.out HW_.out (by kernel_rfl)) (fun _ _ _ h => h) (Or.inl ⟨by rfl, ?_⟩) hHeld ?_ ?_
            rotate_left
            ·
             rintro w' ⟨s0, s1, s2⟩
             go_simp
             with_reducible rfl
            rotate_left
            ·
             simp only [Act.put, q1, q2, q3, i64_w, i32_w]
             rfl
            refine pure_ (i := 9) (N := some 38) (v := ?_) (a' := ?_) #[T, T, T, T, T, T, T, T, T, T, F, F] rfl rfl (any_of HT_.out (by kernel_rfl)) (fun _ _ _ h => h) (Or.inl ⟨by rfl, ?_⟩) ?_ ?_
            rotate_left
            ·
             intro w'
             go_simp
             with_reducible rfl
            rotate_left
            ·
             simp only [Act.put, q1, q2, q3, i64_w, i32_w]
             rfl
            refine pure_ (i := 10) (N := some 39) (v := ?_) (a' := ?_) #[T, T, T, T, T, T, T, T, T, T, T, F] rfl rfl (any_of HT_.out (by kernel_rfl)) (fun _ _ _ h => h) (Or.inl ⟨by rfl, ?_⟩) ?_ ?_
            rotate_left
            ·
             intro w'
             go_simp
             with_reducible rfl
            rotate_left
            ·
             simp only [Act.put, q1, q2, q3, i64_w, i32_w]
             rfl
            refine last_ (i := 11) (N := none) #[T, T, T, T, T, T, T, T, T, T, T, T] rfl rfl (one_of HT_.out (by kernel_rfl)) (by decide) (fun K hK => ?_)
            refine skip_ (w1 := ?_) (by rfl) rfl ?_ ?_
            rotate_left
            ·
             go_simp
             rfl
            refine hK.out _ _ ?_
            clear hK K
            refine done_ (done_of HT_.out (by kernel_rfl)) ?_
            try go_wp2
            go_roundg k1
            case measure => have := HK1.out; omega
            case rel => exact ⟨(wrap64 (x17_1 + 1)), (x158000_1), (y166), (.slice (some ⟨go27, 0, none⟩) x164001_1.length co29), (by first | rfl | (simp; done) | (simp [*]; done)), H', ⟨by have := HK1.out; omega⟩, ⟨by (with_reducible repeat (first | apply Kd.R_alloc | apply Kd.R_drewN | apply Kd.R_drew)); exact HQ30.out⟩, ⟨by (with_reducible repeat (first | refine blk_drewN ?_ _ | refine blk_drew ?_ | refine blk_alloc ?_ _)); refine blk_far ?_ (by have h_ := Kd.R_ne HO_164001.out BK157.out (by decide); intro e_; exact h_ (by rw [e_]; rfl)) _; (with_reducible repeat (first | refine blk_drewN ?_ _ | refine blk_drew ?_ | refine blk_alloc ?_ _)); exact BK157.out⟩, ⟨by (with_reducible repeat (first | refine blk_drewN ?_ _ | refine blk_drew ?_ | refine blk_alloc ?_ _)); refine blk_far ?_ (by have h_ := Kd.R_ne HO_164001.out BK163.out (by decide); intro e_; exact h_ (by rw [e_]; rfl)) _; (with_reducible repeat (first | refine blk_drewN ?_ _ | refine blk_drew ?_ | refine blk_alloc ?_ _)); exact BK163.out⟩, ⟨by repeat (first | (with_reducible first | exact HB.out | apply below_alloc | apply pw_below_drewN | apply below_drew1 | refine below_set ?_ GB27.out | refine below_set ?_ GE157.out | refine below_set ?_ GE163.out) | exact HB.out)⟩⟩
           ·
            rw [if_neg c25] at H
            exact absurd H (by simp)
          ·
           rw [if_neg c23] at H
           exact absurd H (by simp)
         ·
          rw [if_neg c22] at H
          exact absurd H (by simp)
      ·
       rw [if_neg c14] at H
       exact absurd H (by simp)
     ·
      rw [if_neg c13] at H
      exact absurd H (by simp)
    ·
     rw [if_neg c12] at H
     have c12b0 : decide (x17_1 < (l1.length : Int)) = false := decide_eq_false c12
     clear c12
     simp only [Option.some.injEq, Prod.mk.injEq] at H
     obtain ⟨rfl, rfl, rfl⟩ := H
     have hnb31 := NB163_157.out
     have hnc31 := NB157_163.out
     have hcz32_0 : wr.cell? ⟨gb163, 0, none⟩ = some (.int .i64 t159) := (blk_cell BK163.out 0).trans rfl
     have hcz32_1 : wr.cell? ⟨gb163, 1, none⟩ = some (u164001) := (blk_cell BK163.out 1).trans rfl
     have hfz32_0 := blk_frozen BK163.out 0
     have hfz32_1 := blk_frozen BK163.out 1
     have hcz33_0 : wr.cell? ⟨gb157, 0, none⟩ = some (.int .i64 x158000_1) := (blk_cell BK157.out 0).trans rfl
     have hcz33_1 : wr.cell? ⟨gb157, 1, none⟩ = some (.slice none 0 0) := (blk_cell BK157.out 1).trans rfl
     have hfz33_0 := blk_frozen BK157.out 0
     have hfz33_1 := blk_frozen BK157.out 1
     obtain ⟨Ao34, co34, eo34⟩ := Kd.R_slice HO_164001.out
     subst eo34
     go_wp2
     refine bodyPost_ret (results_ct rfl _ _ gb157 25 #[.int .i64 t159, .slice Ao34 x164001_1.length co34] (0, 0) _ rfl (by (with_reducible repeat (first | refine blk_drewN ?_ _ | refine blk_drew ?_ | refine blk_alloc ?_ _)); refine blk_put (cs := #[.int .i64 t159, .slice none 0 0]) ?_ 1 _ rfl; (with_reducible repeat (first | refine blk_drewN ?_ _ | refine blk_drew ?_ | refine blk_alloc ?_ _)); refine blk_put (cs := #[.int .i64 x158000_1, .slice none 0 0]) ?_ 0 _ rfl; (with_reducible repeat (first | refine blk_drewN ?_ _ | refine blk_drew ?_ | refine blk_alloc ?_ _)); exact BK157.out) Try.underlying25 rfl (by kernel_rfl)) rfl ?_
     exact ⟨_, by first | rfl | (simp [errW_none, errW_some] <;> rfl) | (simp [*, errW_none, errW_some] <;> rfl), by (with_reducible repeat (first | apply Kd.R_alloc | apply Kd.R_drewN | apply Kd.R_drew)); exact Kd.R_mono (Kd.R_far (p := ⟨gb157, 1, none⟩) (Kd.R_far (p := ⟨gb157, 0, none⟩) (Kd.R_types HO_164001.out BK157.out (by decide)) (fun _ hk => hk.2) (.int .i64 t159)) (fun _ hk => hk.2) (.slice Ao34 x164001_1.length co34)) (fun _ hk => trivial), pb HB⟩
 ·
  replace c4 := Bool.eq_false_iff.mpr c4
  subst c4
  have H1 : (some (0, ([] : List Int), 2)) = some (r1, r2, r3) := by rw [if_neg (show ¬ (false = true) by decide)] at H; exact H
  clear H
  have H := H1
  clear H1
  simp only [Option.some.injEq, Prod.mk.injEq] at H
  obtain ⟨rfl, rfl, rfl⟩ := H
  go_enter Try.func21, Try.ntmps21
  go_wp2_with (first | ((with_reducible refine gate_dst (N := 4) rfl ?_); refine box_event ?hg (N := 4) ?hd (cs := #[.int .i64 0, .slice none 0 0]) (t := 25) ?hr ?_; (case hd => rfl); (case hg => rfl); (case hr => first | (go_simp; done) | (go_simp; rfl)); intro gb157 hg w35 hbox hb; have n0_ := am (below_step (pb HB) hb); have n1_ := am (hbox); have n2_ := am ((by rw [hg]; exact (below_size (pb HB)) : w.heap.size ≤ gb157)); have n3_ := am ((by rw [hg]; exact (below_size (pb HB)) : w.heap.size ≤ gb157)); clear HB; have HB := n0_; have BK157 := n1_; have GW157 := n2_; have GE157 := n3_; clear n0_ n1_ n2_ n3_ hb hbox hg) | ((with_reducible refine gate_callee (f := 103) rfl ?_); refine goesL_ (some 10) rfl rfl Try.func103 (by kernel_rfl) rfl #[.int .i64 a0] rfl (by (try simp only [List.map_toArray, List.map_cons, List.map_nil]); first | done | rfl | (simp only [List.length_drop, List.length_take]; rfl)) ?_; (with_reducible refine (bitrow_sized.calls a0 false _ A3.out).mono ?_); rintro e w' ⟨rfl, ⟨nd, rfl⟩⟩; refine ⟨_, rfl, ?_⟩; (try (rw [drewN_self w35]; generalize hq_ : World.drewN w35 _ = w35; have n0_ : Aside0 (w35.heap[gb157]? = some (.cells #[.int .i64 0, .slice none 0 0] 25 (0, 0))) := ⟨by rw [← hq_]; exact (pk BK157)⟩; have n1_ : Aside0 (Below w.heap.size w w35) := ⟨by rw [← hq_]; exact (pb HB)⟩; clear BK157 HB hq_; have BK157 := n0_; have HB := n1_; clear n0_ n1_)); have hcz36_0 : w35.cell? ⟨gb157, 0, none⟩ = some (.int .i64 0) := (blk_cell BK157.out 0).trans rfl; have hcz36_1 : w35.cell? ⟨gb157, 1, none⟩ = some (.slice none 0 0) := (blk_cell BK157.out 1).trans rfl; have hfz36_0 := blk_frozen BK157.out 0; have hfz36_1 := blk_frozen BK157.out 1))
  refine bodyPost_ret (results_ct rfl _ _ gb157 25 #[.int .i64 0, .slice none 0 0] (0, 0) _ rfl (by (with_reducible repeat (first | refine blk_drewN ?_ _ | refine blk_drew ?_ | refine blk_alloc ?_ _)); refine blk_put (cs := #[.int .i64 0, .slice none 0 0]) ?_ 1 _ rfl; (with_reducible repeat (first | refine blk_drewN ?_ _ | refine blk_drew ?_ | refine blk_alloc ?_ _)); refine blk_put (cs := #[.int .i64 0, .slice none 0 0]) ?_ 0 _ rfl; (with_reducible repeat (first | refine blk_drewN ?_ _ | refine blk_drew ?_ | refine blk_alloc ?_ _)); exact BK157.out) Try.underlying25 rfl (by kernel_rfl)) rfl ?_
  exact ⟨_, by first | rfl | (simp [errW_none, errW_some] <;> rfl) | (simp [*, errW_none, errW_some] <;> rfl), by first | exact Kd.R_nil _ _ _ _ _ | exact Kd.N_nil _ _ _ _ _ | exact Kd.V_nil _ _ _ _ _ | exact Kd.Q_nil _ _ _ _ _ | exact Kd.S_nil _ _ _ _ _, pb HB⟩

end Go.Proofs.Ytfdcjkhckjnaeaa.PD
