-- PRINTED by print.py (a twelfth state) out of the translation. Not trusted: Lean checks it.
import Derived.Test.YtfcedhejbnoinaaDoorPKx0
namespace Go.Proofs.YtfcedhejbnoinaaDoor.PK
open Go.RowKit Go.Proofs.YtfcedhejbnoinaaDoorW.PrintWords Go.Proofs.YtfcedhejbnoinaaDoorW.PrintLast Go.Proofs.YtfcedhejbnoinaaDoorW.PrintMore
open Bool renaming true → T, false → F
open List renaming setIfInBounds_toArray → q1, set_cons_zero → q2, set_cons_succ → q3
attribute [local go_sem] run_store_func max2_int min2_int max_two min_two max_three min_three max_four min_four   -- for this text's walks alone
set_option linter.unusedVariables false
set_option linter.unusedSimpArgs false

/-! ### bitrow_sized: function 66 -/
def bitrow_sized.f (a0 : Int) : Option (Bool) := if a0 ≥ 0 then (some (decide (a0 ≤ 512))) else (some false)
set_option maxHeartbeats 8000000 in
set_option maxRecDepth 100000 in
theorem bitrow_sized.calls (a0 : Int) (r : Bool) (w : World) (h : bitrow_sized.f a0 = some r) :
  Calls Tryd.prog 66 #[.int .i64 a0] w fun e w' => e = .returned (.bool r) ∧ Drawn0 w w' := by
 have H : (if a0 ≥ 0 then (some (decide (a0 ≤ 512))) else (some false)) = some r := h
 clear h
 by_cases c2 : a0 ≥ 0
 ·
  rw [if_pos c2] at H
  have c2b0 : decide (0 ≤ a0) = true := decide_eq_true c2
  clear c2
  obtain rfl := Option.some.inj H
  go_enter Tryd.func66, Tryd.ntmps66
  go_wp2
  go_ret
  exact ⟨by first | rfl | (simp; done) | (simp [*]; done), by repeat (first | exact Drawn0.refl _ | apply Drawn0.step)⟩
 ·
  rw [if_neg c2] at H
  have c2b0 : decide (0 ≤ a0) = false := decide_eq_false c2
  clear c2
  obtain rfl := Option.some.inj H
  go_enter Tryd.func66, Tryd.ntmps66
  go_wp2
  go_ret
  exact ⟨by first | rfl | (simp; done) | (simp [*]; done), by repeat (first | exact Drawn0.refl _ | apply Drawn0.step)⟩

/-! ### bitrow_Right: function 31 -/
def bitrow_Right.f (a0_0 : Int) (l0_1 : List Int) : Option (Bool) := (bitrow_sized.f a0_0).bind fun t102 => (if t102 = true then (if (l0_1.length : Int) = (wrap64 (Int.tdiv (wrap64 ((wrap64 (a0_0 + 64)) - 1)) 64)) then (if (Int.tmod a0_0 64) = 0 then (some true) else (if 0 ≤ (wrap64 ((l0_1.length : Int) - 1)) then (if (wrap64 ((l0_1.length : Int) - 1)) < (l0_1.length : Int) then (if 0 ≤ (Int.tmod a0_0 64) then (some ((shr .u64 (rd l0_1 (wrap64 ((l0_1.length : Int) - 1))) (Int.tmod a0_0 64)) == 0)) else (none)) else (none)) else (none))) else (some false)) else (some false))
set_option maxHeartbeats 8000000 in
set_option maxRecDepth 100000 in
theorem bitrow_Right.calls (a0_0 : Int) (A0_1 : Option Addr) (c0_1 : Nat) (l0_1 : List Int) (r : Bool) (w : World) (hr0_1 : Kd.C (Kd.int .u64) w A0_1 l0_1.length l0_1) (hc0_1 : l0_1.length ≤ c0_1) (h : bitrow_Right.f a0_0 l0_1 = some r) :
  Calls Tryd.prog 31 #[.agg #[.int .i64 a0_0, .slice A0_1 l0_1.length c0_1]] w fun e w' => e = .returned (.bool r) ∧ Below w.heap.size w w' := by
 have hu25 := Tryd.underlying25
 have HR0_1 := Aside0.mk hr0_1
 have HC0_1 := Aside0.mk hc0_1
 clear hr0_1 hc0_1
 have HB := am (Below.refl w.heap.size w)
 have H : ((bitrow_sized.f a0_0).bind fun t102 => (if t102 = true then (if (l0_1.length : Int) = (wrap64 (Int.tdiv (wrap64 ((wrap64 (a0_0 + 64)) - 1)) 64)) then (if (Int.tmod a0_0 64) = 0 then (some true) else (if 0 ≤ (wrap64 ((l0_1.length : Int) - 1)) then (if (wrap64 ((l0_1.length : Int) - 1)) < (l0_1.length : Int) then (if 0 ≤ (Int.tmod a0_0 64) then (some ((shr .u64 (rd l0_1 (wrap64 ((l0_1.length : Int) - 1))) (Int.tmod a0_0 64)) == 0)) else (none)) else (none)) else (none))) else (some false)) else (some false))) = some r := h
 clear h
 replace H := Option.bind_eq_some_iff.mp H
 obtain ⟨t102, A20, H⟩ := H
 replace H : (if t102 = true then (if (l0_1.length : Int) = (wrap64 (Int.tdiv (wrap64 ((wrap64 (a0_0 + 64)) - 1)) 64)) then (if (Int.tmod a0_0 64) = 0 then (some true) else (if 0 ≤ (wrap64 ((l0_1.length : Int) - 1)) then (if (wrap64 ((l0_1.length : Int) - 1)) < (l0_1.length : Int) then (if 0 ≤ (Int.tmod a0_0 64) then (some ((shr .u64 (rd l0_1 (wrap64 ((l0_1.length : Int) - 1))) (Int.tmod a0_0 64)) == 0)) else (none)) else (none)) else (none))) else (some false)) else (some false)) = some r := H
 have A2 := Aside0.mk A20
 clear A20
 by_cases c3 : t102 = true
 ·
  subst c3
  have H1 : (if (l0_1.length : Int) = (wrap64 (Int.tdiv (wrap64 ((wrap64 (a0_0 + 64)) - 1)) 64)) then (if (Int.tmod a0_0 64) = 0 then (some true) else (if 0 ≤ (wrap64 ((l0_1.length : Int) - 1)) then (if (wrap64 ((l0_1.length : Int) - 1)) < (l0_1.length : Int) then (if 0 ≤ (Int.tmod a0_0 64) then (some ((shr .u64 (rd l0_1 (wrap64 ((l0_1.length : Int) - 1))) (Int.tmod a0_0 64)) == 0)) else (none)) else (none)) else (none))) else (some false)) = some r := by rw [if_pos rfl] at H; exact H
  clear H
  have H := H1
  clear H1
  by_cases c4 : (l0_1.length : Int) = (wrap64 (Int.tdiv (wrap64 ((wrap64 (a0_0 + 64)) - 1)) 64))
  ·
   rw [if_pos c4] at H
   have c4b0 : ((l0_1.length : Int) == (wrap64 (Int.tdiv (wrap64 ((wrap64 (a0_0 + 64)) - 1)) 64))) = true := beq_iff_eq.mpr c4
   have c4b1 : ((l0_1.length : Int) != (wrap64 (Int.tdiv (wrap64 ((wrap64 (a0_0 + 64)) - 1)) 64))) = false := bne_eq_false_iff_eq.mpr c4
   clear c4
   by_cases c5 : (Int.tmod a0_0 64) = 0
   ·
    rw [if_pos c5] at H
    have c5b0 : ((Int.tmod a0_0 64) == 0) = true := beq_iff_eq.mpr c5
    have c5b1 : ((Int.tmod a0_0 64) != 0) = false := bne_eq_false_iff_eq.mpr c5
    clear c5
    obtain rfl := Option.some.inj H
    go_enter Tryd.func31, Tryd.ntmps31
    go_wp2_with (first | ((with_reducible refine gate_dst (N := 1) rfl ?_); (try (refine gate_guard (by rfl) ?_; dsimp only)); refine box_event ?hg (N := 1) ?hd (cs := #[.int .i64 a0_0, .slice A0_1 l0_1.length c0_1]) (t := 25) ?hr ?_; (case hd => rfl); (case hg => rfl); (case hr => first | (go_simp; done) | (go_simp; rfl)); intro gb101 hg w6 hbox hb; have n0_ := am (below_step (pb HB) hb); have n1_ := am (hbox); have n2_ := am ((by rw [hg]; exact (below_size (pb HB)) : w.heap.size ≤ gb101)); have n3_ := am ((by rw [hg]; exact (below_size (pb HB)) : w.heap.size ≤ gb101)); clear HB; have HB := n0_; have BK101 := n1_; have GW101 := n2_; have GE101 := n3_; clear n0_ n1_ n2_ n3_ hb hbox hg; have hcz7_0 : w6.cell? ⟨gb101, 0, none⟩ = some (.int .i64 a0_0) := (blk_cell BK101.out 0).trans rfl; have hcz7_1 : w6.cell? ⟨gb101, 1, none⟩ = some (.slice A0_1 l0_1.length c0_1) := (blk_cell BK101.out 1).trans rfl; have hfz7_0 := blk_frozen BK101.out 0; have hfz7_1 := blk_frozen BK101.out 1) | (go_at_call 66; (with_reducible refine (bitrow_sized.calls a0_0 true _ A2.out).mono ?_); rintro e w' ⟨rfl, ⟨nd, rfl⟩⟩; (try first | exact ⟨rfl, _, World.drewN_drewN _ _ _⟩ | exact ⟨rfl, _, Eq.trans (World.drewN_drewN _ _ _) (congrArg (World.drewN _) (Nat.add_assoc _ _ _))⟩)))
    repeat (go_quiet (first | ((with_reducible refine gate_dst (N := 1) rfl ?_); (try (refine gate_guard (by rfl) ?_; dsimp only)); refine box_event ?hg (N := 1) ?hd (cs := #[.int .i64 a0_0, .slice A0_1 l0_1.length c0_1]) (t := 25) ?hr ?_; (case hd => rfl); (case hg => rfl); (case hr => first | (go_simp; done) | (go_simp; rfl)); intro gb101 hg w6 hbox hb; have n0_ := am (below_step (pb HB) hb); have n1_ := am (hbox); have n2_ := am ((by rw [hg]; exact (below_size (pb HB)) : w.heap.size ≤ gb101)); have n3_ := am ((by rw [hg]; exact (below_size (pb HB)) : w.heap.size ≤ gb101)); clear HB; have HB := n0_; have BK101 := n1_; have GW101 := n2_; have GE101 := n3_; clear n0_ n1_ n2_ n3_ hb hbox hg; have hcz7_0 : w6.cell? ⟨gb101, 0, none⟩ = some (.int .i64 a0_0) := (blk_cell BK101.out 0).trans rfl; have hcz7_1 : w6.cell? ⟨gb101, 1, none⟩ = some (.slice A0_1 l0_1.length c0_1) := (blk_cell BK101.out 1).trans rfl; have hfz7_0 := blk_frozen BK101.out 0; have hfz7_1 := blk_frozen BK101.out 1) | (go_at_call 66; (with_reducible refine (bitrow_sized.calls a0_0 true _ A2.out).mono ?_); rintro e w' ⟨rfl, ⟨nd, rfl⟩⟩; (try first | exact ⟨rfl, _, World.drewN_drewN _ _ _⟩ | exact ⟨rfl, _, Eq.trans (World.drewN_drewN _ _ _) (congrArg (World.drewN _) (Nat.add_assoc _ _ _))⟩))); try go_wp2_with (first | ((with_reducible refine gate_dst (N := 1) rfl ?_); (try (refine gate_guard (by rfl) ?_; dsimp only)); refine box_event ?hg (N := 1) ?hd (cs := #[.int .i64 a0_0, .slice A0_1 l0_1.length c0_1]) (t := 25) ?hr ?_; (case hd => rfl); (case hg => rfl); (case hr => first | (go_simp; done) | (go_simp; rfl)); intro gb101 hg w6 hbox hb; have n0_ := am (below_step (pb HB) hb); have n1_ := am (hbox); have n2_ := am ((by rw [hg]; exact (below_size (pb HB)) : w.heap.size ≤ gb101)); have n3_ := am ((by rw [hg]; exact (below_size (pb HB)) : w.heap.size ≤ gb101)); clear HB; have HB := n0_; have BK101 := n1_; have GW101 := n2_; have GE101 := n3_; clear n0_ n1_ n2_ n3_ hb hbox hg; have hcz7_0 : w6.cell? ⟨gb101, 0, none⟩ = some (.int .i64 a0_0) := (blk_cell BK101.out 0).trans rfl; have hcz7_1 : w6.cell? ⟨gb101, 1, none⟩ = some (.slice A0_1 l0_1.length c0_1) := (blk_cell BK101.out 1).trans rfl; have hfz7_0 := blk_frozen BK101.out 0; have hfz7_1 := blk_frozen BK101.out 1) | (go_at_call 66; (with_reducible refine (bitrow_sized.calls a0_0 true _ A2.out).mono ?_); rintro e w' ⟨rfl, ⟨nd, rfl⟩⟩; (try first | exact ⟨rfl, _, World.drewN_drewN _ _ _⟩ | exact ⟨rfl, _, Eq.trans (World.drewN_drewN _ _ _) (congrArg (World.drewN _) (Nat.add_assoc _ _ _))⟩))))
    go_ret
    exact ⟨by first | rfl | (simp [errW_none, errW_some] <;> rfl) | (simp [*, errW_none, errW_some] <;> rfl), pb HB⟩
   ·
    rw [if_neg c5] at H
    have c5b0 : ((Int.tmod a0_0 64) == 0) = false := beq_eq_false_iff_ne.mpr c5
    have c5b1 : ((Int.tmod a0_0 64) != 0) = true := bne_iff_ne.mpr c5
    obtain ⟨ji8, hji8⟩ : ∃ j_ : Int, (wrap64 ((l0_1.length : Int) - 1)) = j_ := ⟨_, rfl⟩
    replace H : (if 0 ≤ (ji8) then (if (ji8) < (l0_1.length : Int) then (if 0 ≤ (Int.tmod a0_0 64) then (some ((shr .u64 (rd l0_1 (ji8)) (Int.tmod a0_0 64)) == 0)) else (none)) else (none)) else (none)) = some r := by first | (rw [hji8] at H; exact H) | (simp only [hji8] at H ⊢; exact H)
    (try rw [hji8] at A2)
    have hji8w : (IntKind.i64.wrap ((l0_1.length : Int) - 1)) = ji8 := (i64_w _).trans hji8
    by_cases c9 : 0 ≤ (ji8)
    ·
     rw [if_pos c9] at H
     have c9b0 : decide (0 ≤ (ji8)) = true := decide_eq_true c9
     clear c9
     by_cases c10 : (ji8) < (l0_1.length : Int)
     ·
      rw [if_pos c10] at H
      have c10b0 : decide ((ji8) < (l0_1.length : Int)) = true := decide_eq_true c10
      clear c10
      obtain ⟨ji11, hji11⟩ : ∃ j_ : Int, (Int.tmod a0_0 64) = j_ := ⟨_, rfl⟩
      replace H : (if 0 ≤ (ji11) then (some ((shr .u64 (rd l0_1 (ji8)) (ji11)) == 0)) else (none)) = some r := by first | (rw [hji11] at H; exact H) | (simp only [hji11] at H ⊢; exact H)
      (try rw [hji11] at c5b0)
      (try rw [hji11] at c5b1)
      (try rw [hji11] at A2)
      by_cases c12 : 0 ≤ (ji11)
      ·
       rw [if_pos c12] at H
       have c12b0 := eq_true c12
       have c12b1 : decide (0 ≤ (ji11)) = true := decide_eq_true c12
       clear c12
       obtain ⟨ji13, hji13⟩ : ∃ j_ : Int, (shr .u64 (rd l0_1 (ji8)) (ji11)) = j_ := ⟨_, rfl⟩
       replace H : (some ((ji13) == 0)) = some r := by first | (rw [hji13] at H; exact H) | (simp only [hji13] at H ⊢; exact H)
       (try rw [hji13] at A2)
       have hji13_ : ((rd l0_1 (ji8)) / 2 ^ min (ji11).toNat 64) = ji13 := hji13
       have hji13z : (ji11) ≤ 64 → ((rd l0_1 (ji8)) / 2 ^ (ji11).toNat) = ji13 := shr_small hji13
       obtain rfl := Option.some.inj H
       go_enter Tryd.func31, Tryd.ntmps31
       go_wp2_with (first | ((with_reducible refine gate_dst (N := 1) rfl ?_); (try (refine gate_guard (by rfl) ?_; dsimp only)); refine box_event ?hg (N := 1) ?hd (cs := #[.int .i64 a0_0, .slice A0_1 l0_1.length c0_1]) (t := 25) ?hr ?_; (case hd => rfl); (case hg => rfl); (case hr => first | (go_simp; done) | (go_simp; rfl)); intro gb101 hg w14 hbox hb; have n0_ := am (below_step (pb HB) hb); have n1_ := am (hbox); have n2_ := am ((by rw [hg]; exact (below_size (pb HB)) : w.heap.size ≤ gb101)); have n3_ := am ((by rw [hg]; exact (below_size (pb HB)) : w.heap.size ≤ gb101)); clear HB; have HB := n0_; have BK101 := n1_; have GW101 := n2_; have GE101 := n3_; clear n0_ n1_ n2_ n3_ hb hbox hg; have hcz15_0 : w14.cell? ⟨gb101, 0, none⟩ = some (.int .i64 a0_0) := (blk_cell BK101.out 0).trans rfl; have hcz15_1 : w14.cell? ⟨gb101, 1, none⟩ = some (.slice A0_1 l0_1.length c0_1) := (blk_cell BK101.out 1).trans rfl; have hfz15_0 := blk_frozen BK101.out 0; have hfz15_1 := blk_frozen BK101.out 1) | (go_at_call 66; (with_reducible refine (bitrow_sized.calls a0_0 true _ A2.out).mono ?_); rintro e w' ⟨rfl, ⟨nd, rfl⟩⟩; (try first | exact ⟨rfl, _, World.drewN_drewN _ _ _⟩ | exact ⟨rfl, _, Eq.trans (World.drewN_drewN _ _ _) (congrArg (World.drewN _) (Nat.add_assoc _ _ _))⟩); have p103 : 0 ≤ ((ji8) : Int) := of_decide_eq_true (by first | (with_reducible assumption) | assumption); have q103 : (ji8) < (l0_1.length : Int) := of_decide_eq_true (by first | (with_reducible assumption) | assumption); obtain ⟨ad103, e103, hx103_0⟩ := Kd.at_int HR0_1.out (ji8) p103 q103; cases e103; replace hx103_0 := (HB.out.cell (World.block_lt_of_cell? w _ hx103_0)).trans hx103_0; replace p103 := eq_true p103; replace q103 := eq_true q103))
       repeat (go_quiet (first | ((with_reducible refine gate_dst (N := 1) rfl ?_); (try (refine gate_guard (by rfl) ?_; dsimp only)); refine box_event ?hg (N := 1) ?hd (cs := #[.int .i64 a0_0, .slice A0_1 l0_1.length c0_1]) (t := 25) ?hr ?_; (case hd => rfl); (case hg => rfl); (case hr => first | (go_simp; done) | (go_simp; rfl)); intro gb101 hg w14 hbox hb; have n0_ := am (below_step (pb HB) hb); have n1_ := am (hbox); have n2_ := am ((by rw [hg]; exact (below_size (pb HB)) : w.heap.size ≤ gb101)); have n3_ := am ((by rw [hg]; exact (below_size (pb HB)) : w.heap.size ≤ gb101)); clear HB; have HB := n0_; have BK101 := n1_; have GW101 := n2_; have GE101 := n3_; clear n0_ n1_ n2_ n3_ hb hbox hg; have hcz15_0 : w14.cell? ⟨gb101, 0, none⟩ = some (.int .i64 a0_0) := (blk_cell BK101.out 0).trans rfl; have hcz15_1 : w14.cell? ⟨gb101, 1, none⟩ = some (.slice A0_1 l0_1.length c0_1) := (blk_cell BK101.out 1).trans rfl; have hfz15_0 := blk_frozen BK101.out 0; have hfz15_1 := blk_frozen BK101.out 1) | (go_at_call 66; (with_reducible refine (bitrow_sized.calls a0_0 true _ A2.out).mono ?_); rintro e w' ⟨rfl, ⟨nd, rfl⟩⟩; (try first | exact ⟨rfl, _, World.drewN_drewN _ _ _⟩ | exact ⟨rfl, _, Eq.trans (World.drewN_drewN _ _ _) (congrArg (World.drewN _) (Nat.add_assoc _ _ _))⟩); have p103 : 0 ≤ ((ji8) : Int) := of_decide_eq_true (by first | (with_reducible assumption) | assumption); have q103 : (ji8) < (l0_1.length : Int) := of_decide_eq_true (by first | (with_reducible assumption) | assumption); obtain ⟨ad103, e103, hx103_0⟩ := Kd.at_int HR0_1.out (ji8) p103 q103; cases e103; replace hx103_0 := (HB.out.cell (World.block_lt_of_cell? w _ hx103_0)).trans hx103_0; replace p103 := eq_true p103; replace q103 := eq_true q103)); try go_wp2_with (first | ((with_reducible refine gate_dst (N := 1) rfl ?_); (try (refine gate_guard (by rfl) ?_; dsimp only)); refine box_event ?hg (N := 1) ?hd (cs := #[.int .i64 a0_0, .slice A0_1 l0_1.length c0_1]) (t := 25) ?hr ?_; (case hd => rfl); (case hg => rfl); (case hr => first | (go_simp; done) | (go_simp; rfl)); intro gb101 hg w14 hbox hb; have n0_ := am (below_step (pb HB) hb); have n1_ := am (hbox); have n2_ := am ((by rw [hg]; exact (below_size (pb HB)) : w.heap.size ≤ gb101)); have n3_ := am ((by rw [hg]; exact (below_size (pb HB)) : w.heap.size ≤ gb101)); clear HB; have HB := n0_; have BK101 := n1_; have GW101 := n2_; have GE101 := n3_; clear n0_ n1_ n2_ n3_ hb hbox hg; have hcz15_0 : w14.cell? ⟨gb101, 0, none⟩ = some (.int .i64 a0_0) := (blk_cell BK101.out 0).trans rfl; have hcz15_1 : w14.cell? ⟨gb101, 1, none⟩ = some (.slice A0_1 l0_1.length c0_1) := (blk_cell BK101.out 1).trans rfl; have hfz15_0 := blk_frozen BK101.out 0; have hfz15_1 := blk_frozen BK101.out 1) | (go_at_call 66; (with_reducible refine (bitrow_sized.calls a0_0 true _ A2.out).mono ?_); rintro e w' ⟨rfl, ⟨nd, rfl⟩⟩; (try first | exact ⟨rfl, _, World.drewN_drewN _ _ _⟩ | exact ⟨rfl, _, Eq.trans (World.drewN_drewN _ _ _) (congrArg (World.drewN _) (Nat.add_assoc _ _ _))⟩); have p103 : 0 ≤ ((ji8) : Int) := of_decide_eq_true (by first | (with_reducible assumption) | assumption); have q103 : (ji8) < (l0_1.length : Int) := of_decide_eq_true (by first | (with_reducible assumption) | assumption); obtain ⟨ad103, e103, hx103_0⟩ := Kd.at_int HR0_1.out (ji8) p103 q103; cases e103; replace hx103_0 := (HB.out.cell (World.block_lt_of_cell? w _ hx103_0)).trans hx103_0; replace p103 := eq_true p103; replace q103 := eq_true q103)))
       go_ret
       exact ⟨by first | rfl | (simp [errW_none, errW_some] <;> rfl) | (simp only [← hji8, ← hji11, ← hji13]; first | rfl | (simp [errW_none, errW_some] <;> rfl)) | (simp [*, errW_none, errW_some] <;> rfl), pb HB⟩
      ·
       rw [if_neg c12] at H
       exact absurd H (by simp)
     ·
      rw [if_neg c10] at H
      exact absurd H (by simp)
    ·
     rw [if_neg c9] at H
     exact absurd H (by simp)
  ·
   rw [if_neg c4] at H
   have c4b0 : ((l0_1.length : Int) == (wrap64 (Int.tdiv (wrap64 ((wrap64 (a0_0 + 64)) - 1)) 64))) = false := beq_eq_false_iff_ne.mpr c4
   have c4b1 : ((l0_1.length : Int) != (wrap64 (Int.tdiv (wrap64 ((wrap64 (a0_0 + 64)) - 1)) 64))) = true := bne_iff_ne.mpr c4
   obtain rfl := Option.some.inj H
   go_enter Tryd.func31, Tryd.ntmps31
   go_wp2_with (first | ((with_reducible refine gate_dst (N := 1) rfl ?_); (try (refine gate_guard (by rfl) ?_; dsimp only)); refine box_event ?hg (N := 1) ?hd (cs := #[.int .i64 a0_0, .slice A0_1 l0_1.length c0_1]) (t := 25) ?hr ?_; (case hd => rfl); (case hg => rfl); (case hr => first | (go_simp; done) | (go_simp; rfl)); intro gb101 hg w16 hbox hb; have n0_ := am (below_step (pb HB) hb); have n1_ := am (hbox); have n2_ := am ((by rw [hg]; exact (below_size (pb HB)) : w.heap.size ≤ gb101)); have n3_ := am ((by rw [hg]; exact (below_size (pb HB)) : w.heap.size ≤ gb101)); clear HB; have HB := n0_; have BK101 := n1_; have GW101 := n2_; have GE101 := n3_; clear n0_ n1_ n2_ n3_ hb hbox hg; have hcz17_0 : w16.cell? ⟨gb101, 0, none⟩ = some (.int .i64 a0_0) := (blk_cell BK101.out 0).trans rfl; have hcz17_1 : w16.cell? ⟨gb101, 1, none⟩ = some (.slice A0_1 l0_1.length c0_1) := (blk_cell BK101.out 1).trans rfl; have hfz17_0 := blk_frozen BK101.out 0; have hfz17_1 := blk_frozen BK101.out 1) | (go_at_call 66; (with_reducible refine (bitrow_sized.calls a0_0 true _ A2.out).mono ?_); rintro e w' ⟨rfl, ⟨nd, rfl⟩⟩; (try first | exact ⟨rfl, _, World.drewN_drewN _ _ _⟩ | exact ⟨rfl, _, Eq.trans (World.drewN_drewN _ _ _) (congrArg (World.drewN _) (Nat.add_assoc _ _ _))⟩)))
   repeat (go_quiet (first | ((with_reducible refine gate_dst (N := 1) rfl ?_); (try (refine gate_guard (by rfl) ?_; dsimp only)); refine box_event ?hg (N := 1) ?hd (cs := #[.int .i64 a0_0, .slice A0_1 l0_1.length c0_1]) (t := 25) ?hr ?_; (case hd => rfl); (case hg => rfl); (case hr => first | (go_simp; done) | (go_simp; rfl)); intro gb101 hg w16 hbox hb; have n0_ := am (below_step (pb HB) hb); have n1_ := am (hbox); have n2_ := am ((by rw [hg]; exact (below_size (pb HB)) : w.heap.size ≤ gb101)); have n3_ := am ((by rw [hg]; exact (below_size (pb HB)) : w.heap.size ≤ gb101)); clear HB; have HB := n0_; have BK101 := n1_; have GW101 := n2_; have GE101 := n3_; clear n0_ n1_ n2_ n3_ hb hbox hg; have hcz17_0 : w16.cell? ⟨gb101, 0, none⟩ = some (.int .i64 a0_0) := (blk_cell BK101.out 0).trans rfl; have hcz17_1 : w16.cell? ⟨gb101, 1, none⟩ = some (.slice A0_1 l0_1.length c0_1) := (blk_cell BK101.out 1).trans rfl; have hfz17_0 := blk_frozen BK101.out 0; have hfz17_1 := blk_frozen BK101.out 1) | (go_at_call 66; (with_reducible refine (bitrow_sized.calls a0_0 true _ A2.out).mono ?_); rintro e w' ⟨rfl, ⟨nd, rfl⟩⟩; (try first | exact ⟨rfl, _, World.drewN_drewN _ _ _⟩ | exact ⟨rfl, _, Eq.trans (World.drewN_drewN _ _ _) (congrArg (World.drewN _) (Nat.add_assoc _ _ _))⟩))); try go_wp2_with (first | ((with_reducible refine gate_dst (N := 1) rfl ?_); (try (refine gate_guard (by rfl) ?_; dsimp only)); refine box_event ?hg (N := 1) ?hd (cs := #[.int .i64 a0_0, .slice A0_1 l0_1.length c0_1]) (t := 25) ?hr ?_; (case hd => rfl); (case hg => rfl); (case hr => first | (go_simp; done) | (go_simp; rfl)); intro gb101 hg w16 hbox hb; have n0_ := am (below_step (pb HB) hb); have n1_ := am (hbox); have n2_ := am ((by rw [hg]; exact (below_size (pb HB)) : w.heap.size ≤ gb101)); have n3_ := am ((by rw [hg]; exact (below_size (pb HB)) : w.heap.size ≤ gb101)); clear HB; have HB := n0_; have BK101 := n1_; have GW101 := n2_; have GE101 := n3_; clear n0_ n1_ n2_ n3_ hb hbox hg; have hcz17_0 : w16.cell? ⟨gb101, 0, none⟩ = some (.int .i64 a0_0) := (blk_cell BK101.out 0).trans rfl; have hcz17_1 : w16.cell? ⟨gb101, 1, none⟩ = some (.slice A0_1 l0_1.length c0_1) := (blk_cell BK101.out 1).trans rfl; have hfz17_0 := blk_frozen BK101.out 0; have hfz17_1 := blk_frozen BK101.out 1) | (go_at_call 66; (with_reducible refine (bitrow_sized.calls a0_0 true _ A2.out).mono ?_); rintro e w' ⟨rfl, ⟨nd, rfl⟩⟩; (try first | exact ⟨rfl, _, World.drewN_drewN _ _ _⟩ | exact ⟨rfl, _, Eq.trans (World.drewN_drewN _ _ _) (congrArg (World.drewN _) (Nat.add_assoc _ _ _))⟩))))
   go_ret
   exact ⟨by first | rfl | (simp [errW_none, errW_some] <;> rfl) | (simp [*, errW_none, errW_some] <;> rfl), pb HB⟩
 ·
  replace c3 := Bool.eq_false_iff.mpr c3
  subst c3
  have H1 : (some false) = some r := by rw [if_neg (show ¬ (false = true) by decide)] at H; exact H
  clear H
  have H := H1
  clear H1
  obtain rfl := Option.some.inj H
  go_enter Tryd.func31, Tryd.ntmps31
  go_wp2_with (first | ((with_reducible refine gate_dst (N := 1) rfl ?_); (try (refine gate_guard (by rfl) ?_; dsimp only)); refine box_event ?hg (N := 1) ?hd (cs := #[.int .i64 a0_0, .slice A0_1 l0_1.length c0_1]) (t := 25) ?hr ?_; (case hd => rfl); (case hg => rfl); (case hr => first | (go_simp; done) | (go_simp; rfl)); intro gb101 hg w18 hbox hb; have n0_ := am (below_step (pb HB) hb); have n1_ := am (hbox); have n2_ := am ((by rw [hg]; exact (below_size (pb HB)) : w.heap.size ≤ gb101)); have n3_ := am ((by rw [hg]; exact (below_size (pb HB)) : w.heap.size ≤ gb101)); clear HB; have HB := n0_; have BK101 := n1_; have GW101 := n2_; have GE101 := n3_; clear n0_ n1_ n2_ n3_ hb hbox hg; have hcz19_0 : w18.cell? ⟨gb101, 0, none⟩ = some (.int .i64 a0_0) := (blk_cell BK101.out 0).trans rfl; have hcz19_1 : w18.cell? ⟨gb101, 1, none⟩ = some (.slice A0_1 l0_1.length c0_1) := (blk_cell BK101.out 1).trans rfl; have hfz19_0 := blk_frozen BK101.out 0; have hfz19_1 := blk_frozen BK101.out 1) | (go_at_call 66; (with_reducible refine (bitrow_sized.calls a0_0 false _ A2.out).mono ?_); rintro e w' ⟨rfl, ⟨nd, rfl⟩⟩; (try first | exact ⟨rfl, _, World.drewN_drewN _ _ _⟩ | exact ⟨rfl, _, Eq.trans (World.drewN_drewN _ _ _) (congrArg (World.drewN _) (Nat.add_assoc _ _ _))⟩)))
  repeat (go_quiet (first | ((with_reducible refine gate_dst (N := 1) rfl ?_); (try (refine gate_guard (by rfl) ?_; dsimp only)); refine box_event ?hg (N := 1) ?hd (cs := #[.int .i64 a0_0, .slice A0_1 l0_1.length c0_1]) (t := 25) ?hr ?_; (case hd => rfl); (case hg => rfl); (case hr => first | (go_simp; done) | (go_simp; rfl)); intro gb101 hg w18 hbox hb; have n0_ := am (below_step (pb HB) hb); have n1_ := am (hbox); have n2_ := am ((by rw [hg]; exact (below_size (pb HB)) : w.heap.size ≤ gb101)); have n3_ := am ((by rw [hg]; exact (below_size (pb HB)) : w.heap.size ≤ gb101)); clear HB; have HB := n0_; have BK101 := n1_; have GW101 := n2_; have GE101 := n3_; clear n0_ n1_ n2_ n3_ hb hbox hg; have hcz19_0 : w18.cell? ⟨gb101, 0, none⟩ = some (.int .i64 a0_0) := (blk_cell BK101.out 0).trans rfl; have hcz19_1 : w18.cell? ⟨gb101, 1, none⟩ = some (.slice A0_1 l0_1.length c0_1) := (blk_cell BK101.out 1).trans rfl; have hfz19_0 := blk_frozen BK101.out 0; have hfz19_1 := blk_frozen BK101.out 1) | (go_at_call 66; (with_reducible refine (bitrow_sized.calls a0_0 false _ A2.out).mono ?_); rintro e w' ⟨rfl, ⟨nd, rfl⟩⟩; (try first | exact ⟨rfl, _, World.drewN_drewN _ _ _⟩ | exact ⟨rfl, _, Eq.trans (World.drewN_drewN _ _ _) (congrArg (World.drewN _) (Nat.add_assoc _ _ _))⟩))); try go_wp2_with (first | ((with_reducible refine gate_dst (N := 1) rfl ?_); (try (refine gate_guard (by rfl) ?_; dsimp only)); refine box_event ?hg (N := 1) ?hd (cs := #[.int .i64 a0_0, .slice A0_1 l0_1.length c0_1]) (t := 25) ?hr ?_; (case hd => rfl); (case hg => rfl); (case hr => first | (go_simp; done) | (go_simp; rfl)); intro gb101 hg w18 hbox hb; have n0_ := am (below_step (pb HB) hb); have n1_ := am (hbox); have n2_ := am ((by rw [hg]; exact (below_size (pb HB)) : w.heap.size ≤ gb101)); have n3_ := am ((by rw [hg]; exact (below_size (pb HB)) : w.heap.size ≤ gb101)); clear HB; have HB := n0_; have BK101 := n1_; have GW101 := n2_; have GE101 := n3_; clear n0_ n1_ n2_ n3_ hb hbox hg; have hcz19_0 : w18.cell? ⟨gb101, 0, none⟩ = some (.int .i64 a0_0) := (blk_cell BK101.out 0).trans rfl; have hcz19_1 : w18.cell? ⟨gb101, 1, none⟩ = some (.slice A0_1 l0_1.length c0_1) := (blk_cell BK101.out 1).trans rfl; have hfz19_0 := blk_frozen BK101.out 0; have hfz19_1 := blk_frozen BK101.out 1) | (go_at_call 66; (with_reducible refine (bitrow_sized.calls a0_0 false _ A2.out).mono ?_); rintro e w' ⟨rfl, ⟨nd, rfl⟩⟩; (try first | exact ⟨rfl, _, World.drewN_drewN _ _ _⟩ | exact ⟨rfl, _, Eq.trans (World.drewN_drewN _ _ _) (congrArg (World.drewN _) (Nat.add_assoc _ _ _))⟩))))
  go_ret
  exact ⟨by first | rfl | (simp [errW_none, errW_some] <;> rfl) | (simp [*, errW_none, errW_some] <;> rfl), pb HB⟩

/-! ### bitrow_Places: function 19 -/
def wordsFit (l : List Int) : Bool := decide (l.length ≤ 8) && l.all fun x => decide (0 ≤ x ∧ x < 18446744073709551616)
theorem wordsFit_at {w : World} {A : Option Addr} {l : List Int} (hc : Kd.C (Kd.int .u64) w A l.length l) (hT : TabOk w) (h : wordsFit l = true) : Go.Proofs.YtfcedhejbnoinaaDoor.It.WordsAt w l.length A l := by
 unfold wordsFit at h
 rw [Bool.and_eq_true, decide_eq_true_eq, List.all_eq_true] at h
 refine { wd := fun hl => ?_, tab := hT, small := h.1, ok := fun j => ?_ }
 ·
  obtain ⟨ad, e, h0⟩ := Kd.at_int hc 0 (by omega) (by omega)
  refine ⟨ad, e, ?_, fun j hj => ?_⟩
  ·
   have := World.block_lt_of_cell? w _ h0
   rwa [Go.Proofs.YtfcedhejbnoinaaDoor.It.add_block] at this
  ·
   obtain ⟨ad', e', hj'⟩ := Kd.at_int hc (j : Int) (by omega) (by omega)
   rw [e] at e'
   obtain rfl := Option.some.inj e'
   rw [Int.toNat_natCast] at hj'
   exact hj'
 ·
  rw [List.getD_eq_getElem?_getD]
  by_cases hj : j < l.length
  ·
   rw [List.getElem?_eq_getElem hj]
   exact of_decide_eq_true (h.2 _ (List.getElem_mem hj))
  ·
   rw [List.getElem?_eq_none (by omega)]; decide
def bitrow_Places.f (a0_0 : Int) (l0_1 : List Int) : Option (List Int × Int) := (bitrow_Right.f a0_0 l0_1).bind fun t => if t = true then (if wordsFit l0_1 = true then some (Go.Proofs.YtfcedhejbnoinaaDoor.Bits.wordsFrom l0_1 l0_1.length 0, 0) else none) else some ([], 1)
theorem bitrow_Places.calls (a0_0 : Int) (A0_1 : Option Addr) (c0_1 : Nat) (l0_1 : List Int) (r1 : List Int) (r2 : Int) (w : World) (hT_ : TabOk w) (hr0_1 : Kd.C (Kd.int .u64) w A0_1 l0_1.length l0_1) (hc0_1 : l0_1.length ≤ c0_1) (h : bitrow_Places.f a0_0 l0_1 = some (r1, r2)) :
  Calls Tryd.prog 19 #[.agg #[.int .i64 a0_0, .slice A0_1 l0_1.length c0_1]] w fun e w' => ∃ v1_ : Value, e = .returned (.tuple #[v1_, .int .i64 r2]) ∧ Kd.R (Kd.int .i64) 3 w' w.heap.size (fun _ => True) v1_ r1 ∧ Below w.heap.size w w' := by
 unfold bitrow_Places.f at h
 cases hR : bitrow_Right.f a0_0 l0_1 with
 | none => rw [hR] at h; cases h
 | some t =>
  rw [hR] at h
  have hRc : ∀ W, Below w.heap.size w W → CallsIn Fence.wide (6 - 1) Tryd.prog 31 #[.agg #[.int .i64 a0_0, .slice A0_1 l0_1.length c0_1]] W fun e W' => e = .returned (.bool t) ∧ Below W.heap.size W W' := fun W hW => callsIn_wide.2 (bitrow_Right.calls a0_0 A0_1 c0_1 l0_1 t W (Kd.C_below hr0_1 hW) hc0_1 hR)
  cases t with
  | false =>
   rw [Option.bind_some, if_neg (by decide)] at h
   obtain ⟨rfl, rfl⟩ := Prod.mk.inj (Option.some.inj h)
   refine (callsIn_wide.1 (Go.Proofs.YtfcedhejbnoinaaDoor.It.Places_no Fence.wide 6 trivial trivial rfl (by omega) a0_0 A0_1 l0_1.length c0_1 w hRc)).mono ?_
   rintro e w' ⟨rfl, hB⟩
   exact ⟨_, rfl, Kd.R_nil _ _ _ _ _, hB⟩
  | true =>
   rw [Option.bind_some, if_pos rfl] at h
   by_cases hf : wordsFit l0_1 = true
   ·
    rw [if_pos hf] at h
    obtain ⟨rfl, rfl⟩ := Prod.mk.inj (Option.some.inj h)
    refine (callsIn_wide.1 (Go.Proofs.YtfcedhejbnoinaaDoor.It.Places_yes Fence.wide 6 trivial trivial trivial trivial trivial trivial trivial rfl (by omega) a0_0 A0_1 l0_1.length c0_1 l0_1 w (wordsFit_at hr0_1 hT_ hf) hRc)).mono ?_
    rintro e w' ⟨v, rfl, ho, hB⟩
    exact ⟨v, rfl, Kd.R_of_own (enc := Value.int .i64) ho (fun _ _ => trivial), hB⟩
   ·
    rw [if_neg hf] at h; cases h

/-! ### bitrow_First: function 20 -/
def bitrow_First.f (a0_0 : Int) (l0_1 : List Int) : Option (Int × Int) := (bitrow_Right.f a0_0 l0_1).bind fun t => if t = true then (if wordsFit l0_1 = true then (match Go.Proofs.YtfcedhejbnoinaaDoor.Bits.wordsFrom l0_1 l0_1.length 0 with | [] => some (0, 4) | z :: _ => some (z, 0)) else none) else some (0, 1)
theorem bitrow_First.calls (a0_0 : Int) (A0_1 : Option Addr) (c0_1 : Nat) (l0_1 : List Int) (r1 : Int) (r2 : Int) (w : World) (hT_ : TabOk w) (hr0_1 : Kd.C (Kd.int .u64) w A0_1 l0_1.length l0_1) (hc0_1 : l0_1.length ≤ c0_1) (h : bitrow_First.f a0_0 l0_1 = some (r1, r2)) :
  Calls Tryd.prog 20 #[.agg #[.int .i64 a0_0, .slice A0_1 l0_1.length c0_1]] w fun e w' => e = .returned (.tuple #[.int .i64 r1, .int .i64 r2]) ∧ Below w.heap.size w w' := by
 unfold bitrow_First.f at h
 cases hR : bitrow_Right.f a0_0 l0_1 with
 | none => rw [hR] at h; cases h
 | some t =>
  rw [hR] at h
  have hRc : ∀ W, Below w.heap.size w W → CallsIn Fence.wide (6 - 1) Tryd.prog 31 #[.agg #[.int .i64 a0_0, .slice A0_1 l0_1.length c0_1]] W fun e W' => e = .returned (.bool t) ∧ Below W.heap.size W W' := fun W hW => callsIn_wide.2 (bitrow_Right.calls a0_0 A0_1 c0_1 l0_1 t W (Kd.C_below hr0_1 hW) hc0_1 hR)
  cases t with
  | false =>
   rw [Option.bind_some, if_neg (by decide)] at h
   obtain ⟨rfl, rfl⟩ := Prod.mk.inj (Option.some.inj h)
   exact callsIn_wide.1 (Go.Proofs.YtfcedhejbnoinaaDoor.It.First_no Fence.wide 6 trivial trivial rfl (by omega) a0_0 A0_1 l0_1.length c0_1 w hRc)
  | true =>
   rw [Option.bind_some, if_pos rfl] at h
   by_cases hf : wordsFit l0_1 = true
   ·
    rw [if_pos hf] at h
    refine callsIn_wide.1 (Go.Proofs.YtfcedhejbnoinaaDoor.It.First_yes Fence.wide 6 trivial trivial trivial trivial trivial rfl (by omega) a0_0 A0_1 l0_1.length c0_1 l0_1 w (wordsFit_at hr0_1 hT_ hf) r1 r2 ?_ ?_ hRc)
    ·
     intro e; rw [e] at h
     obtain ⟨rfl, rfl⟩ := Prod.mk.inj (Option.some.inj h)
     exact ⟨rfl, rfl⟩
    ·
     intro z tl e; rw [e] at h
     obtain ⟨rfl, rfl⟩ := Prod.mk.inj (Option.some.inj h)
     exact ⟨rfl, rfl⟩
   ·
    rw [if_neg hf] at h; cases h

/-! ### downpourref01_Numbers: function 25 -/
def downpourref01_Numbers.l0 : Nat → List Int → List Int → Int → Int → Option (Bool)
 | 0, _, _, _, _ => none
 | k + 1, x0, x1, x12, x13 => if x13 < x12 then (if 0 ≤ x13 then (if x13 < (x0.length : Int) then (if x13 < (x1.length : Int) then (if (rd x0 x13) = (rd x1 x13) then (downpourref01_Numbers.l0 k x0 x1 x12 (wrap64 (x13 + 1))) else (some false)) else (none)) else (none)) else (none)) else (some true)
def downpourref01_Numbers.f (k : Nat) (l0 : List Int) (l1 : List Int) : Option (Bool) := if (l0.length : Int) = (l1.length : Int) then (downpourref01_Numbers.l0 k l0 l1 (l0.length : Int) 0) else (some false)
theorem downpourref01_Numbers.mono_l : ∀ k, (∀ y0 y1 y2 y3, LeO (downpourref01_Numbers.l0 k y0 y1 y2 y3) (downpourref01_Numbers.l0 (k + 1) y0 y1 y2 y3))
 | 0 => fun _ _ _ _ r h => by simp [downpourref01_Numbers.l0] at h
 | k + 1 => by
  have ih0 := downpourref01_Numbers.mono_l k
  ·
   intro y0 y1 y2 y3
   unfold downpourref01_Numbers.l0
   repeat' first
   | (with_reducible exact ih0 _ _ _ _)
   | (with_reducible exact LeO.refl _)
   | (with_reducible exact LeO.none _)
   | (with_reducible refine LeO.ite ?_ ?_)
   | (with_reducible refine LeO.bind ?_ (fun _ => ?_))
   | exact ih0 _ _ _ _
   | exact LeO.none _
   | refine LeO.ite ?_ ?_
   | refine LeO.bind ?_ (fun _ => ?_)
theorem downpourref01_Numbers.mono : ∀ a0 a1 k, LeO (downpourref01_Numbers.f k a0 a1) (downpourref01_Numbers.f (k + 1) a0 a1) := by
 intro a0 a1 k
 have ih0 := downpourref01_Numbers.mono_l k
 unfold downpourref01_Numbers.f
 repeat' first
   | (with_reducible exact ih0 _ _ _ _)
   | (with_reducible exact LeO.refl _)
   | (with_reducible exact LeO.none _)
   | (with_reducible refine LeO.ite ?_ ?_)
   | (with_reducible refine LeO.bind ?_ (fun _ => ?_))
   | exact ih0 _ _ _ _
   | exact LeO.none _
   | refine LeO.ite ?_ ?_
   | refine LeO.bind ?_ (fun _ => ?_)
set_option maxHeartbeats 8000000 in
set_option maxRecDepth 100000 in
theorem downpourref01_Numbers.calls (k : Nat) (A0 : Option Addr) (c0 : Nat) (l0 : List Int) (A1 : Option Addr) (c1 : Nat) (l1 : List Int) (r : Bool) (w : World) (hr0 : Kd.C (Kd.int .i64) w A0 l0.length l0) (hc0 : l0.length ≤ c0) (hr1 : Kd.C (Kd.int .i64) w A1 l1.length l1) (hc1 : l1.length ≤ c1) (h : downpourref01_Numbers.f k l0 l1 = some r) :
  Calls Tryd.prog 25 #[.slice A0 l0.length c0, .slice A1 l1.length c1] w fun e w' => e = .returned (.bool r) ∧ Drawn0 w w' := by
 have HR0 := Aside0.mk hr0
 have HC0 := Aside0.mk hc0
 clear hr0 hc0
 have HR1 := Aside0.mk hr1
 have HC1 := Aside0.mk hc1
 clear hr1 hc1
 have H : (if (l0.length : Int) = (l1.length : Int) then (downpourref01_Numbers.l0 k l0 l1 (l0.length : Int) 0) else (some false)) = some r := h
 clear h
 by_cases c3 : (l0.length : Int) = (l1.length : Int)
 ·
  rw [if_pos c3] at H
  have c3b0 : ((l0.length : Int) == (l1.length : Int)) = true := beq_iff_eq.mpr c3
  have c3b1 : ((l0.length : Int) != (l1.length : Int)) = false := bne_eq_false_iff_eq.mpr c3
  have c3b2 : (l0.length == l1.length) = true := by first | simpa using c3 | (simp at c3 ⊢; omega)
  clear c3
  have H' := Aside0.mk H
  clear H
  go_enter Tryd.func25, Tryd.ntmps25
  go_wp2
  repeat (go_quiet (fail); try go_wp2)
  go_loopg [13] k (fun kq v13 w' => ∃ (x13_1 : Int), v13 = .int .i64 x13_1 ∧ Aside0 (downpourref01_Numbers.l0 kq l0 l1 (l0.length : Int) x13_1 = some r) ∧ Aside0 (kq ≤ k) ∧ Drawn0 w w')
  case atStart => exact ⟨(0), (by first | rfl | (simp; done) | (simp [*]; done)), H', ⟨Nat.le_refl _⟩, by repeat (first | exact Drawn0.refl _ | apply Drawn0.step)⟩
  case round =>
   clear H'
   try clear c1
   try clear c2
   try clear p2
   try clear c3
   try clear c3b0
   try clear c3b1
   try clear c3b2
   obtain ⟨x13_1, rfl, HA, HK1, ⟨m1, rfl⟩⟩ := hrel
   cases gk with
   | zero => exact absurd HA.out (by simp [downpourref01_Numbers.l0])
   | succ k1 =>
    have H := HA.out
    clear HA
    simp only [downpourref01_Numbers.l0] at H
    by_cases c4 : x13_1 < (l0.length : Int)
    ·
     rw [if_pos c4] at H
     have c4b0 : decide (x13_1 < (l0.length : Int)) = true := decide_eq_true c4
     clear c4
     by_cases c5 : 0 ≤ x13_1
     ·
      rw [if_pos c5] at H
      have c5b0 : decide (0 ≤ x13_1) = true := decide_eq_true c5
      clear c5
      by_cases c6 : x13_1 < (l0.length : Int)
      ·
       rw [if_pos c6] at H
       have c6b0 : decide (x13_1 < (l0.length : Int)) = true := decide_eq_true c6
       clear c6
       by_cases c7 : x13_1 < (l1.length : Int)
       ·
        rw [if_pos c7] at H
        have c7b0 : decide (x13_1 < (l1.length : Int)) = true := decide_eq_true c7
        clear c7
        by_cases c8 : (rd l0 x13_1) = (rd l1 x13_1)
        ·
         rw [if_pos c8] at H
         have c8b0 : ((rd l0 x13_1) == (rd l1 x13_1)) = true := beq_iff_eq.mpr c8
         have c8b1 : ((rd l0 x13_1) != (rd l1 x13_1)) = false := bne_eq_false_iff_eq.mpr c8
         clear c8
         have H' := Aside0.mk H
         clear H
         have p104 : 0 ≤ (x13_1 : Int) := of_decide_eq_true (by first | (with_reducible assumption) | assumption)
         have q104 : x13_1 < (l0.length : Int) := of_decide_eq_true (by first | (with_reducible assumption) | assumption)
         obtain ⟨ad104, e104, hx104_0⟩ := Kd.at_int HR0.out x13_1 p104 q104
         cases e104
         replace p104 := eq_true p104
         replace q104 := eq_true q104
         have p105 : 0 ≤ (x13_1 : Int) := of_decide_eq_true (by first | (with_reducible assumption) | assumption)
         have q105 : x13_1 < (l1.length : Int) := of_decide_eq_true (by first | (with_reducible assumption) | assumption)
         obtain ⟨ad105, e105, hx105_0⟩ := Kd.at_int HR1.out x13_1 p105 q105
         cases e105
         replace p105 := eq_true p105
         replace q105 := eq_true q105
         go_wp2
         repeat (go_quiet (fail); try go_wp2)
         go_roundg k1
         case measure => have := HK1.out; omega
         case rel => exact ⟨(wrap64 (x13_1 + 1)), (by first | rfl | (simp; done) | (simp [*]; done)), H', ⟨by have := HK1.out; omega⟩, by repeat (first | exact Drawn0.refl _ | apply Drawn0.step)⟩
        ·
         rw [if_neg c8] at H
         have c8b0 : ((rd l0 x13_1) == (rd l1 x13_1)) = false := beq_eq_false_iff_ne.mpr c8
         have c8b1 : ((rd l0 x13_1) != (rd l1 x13_1)) = true := bne_iff_ne.mpr c8
         obtain rfl := Option.some.inj H
         have p104 : 0 ≤ (x13_1 : Int) := of_decide_eq_true (by first | (with_reducible assumption) | assumption)
         have q104 : x13_1 < (l0.length : Int) := of_decide_eq_true (by first | (with_reducible assumption) | assumption)
         obtain ⟨ad104, e104, hx104_0⟩ := Kd.at_int HR0.out x13_1 p104 q104
         cases e104
         replace p104 := eq_true p104
         replace q104 := eq_true q104
         have p105 : 0 ≤ (x13_1 : Int) := of_decide_eq_true (by first | (with_reducible assumption) | assumption)
         have q105 : x13_1 < (l1.length : Int) := of_decide_eq_true (by first | (with_reducible assumption) | assumption)
         obtain ⟨ad105, e105, hx105_0⟩ := Kd.at_int HR1.out x13_1 p105 q105
         cases e105
         replace p105 := eq_true p105
         replace q105 := eq_true q105
         go_wp2
         repeat (go_quiet (fail); try go_wp2)
         go_ret
         exact ⟨by first | rfl | (simp; done) | (simp [*]; done), by repeat (first | exact Drawn0.refl _ | apply Drawn0.step)⟩
       ·
        rw [if_neg c7] at H
        exact absurd H (by simp)
      ·
       rw [if_neg c6] at H
       exact absurd H (by simp)
     ·
      rw [if_neg c5] at H
      exact absurd H (by simp)
    ·
     rw [if_neg c4] at H
     have c4b0 : decide (x13_1 < (l0.length : Int)) = false := decide_eq_false c4
     clear c4
     obtain rfl := Option.some.inj H
     go_wp2
     repeat (go_quiet (fail); try go_wp2)
     go_ret
     exact ⟨by first | rfl | (simp; done) | (simp [*]; done), by repeat (first | exact Drawn0.refl _ | apply Drawn0.step)⟩
 ·
  rw [if_neg c3] at H
  have c3b0 : ((l0.length : Int) == (l1.length : Int)) = false := beq_eq_false_iff_ne.mpr c3
  have c3b1 : ((l0.length : Int) != (l1.length : Int)) = true := bne_iff_ne.mpr c3
  have c3b2 : (l0.length == l1.length) = false := by first | simpa using c3 | (simp at c3 ⊢; omega)
  obtain rfl := Option.some.inj H
  go_enter Tryd.func25, Tryd.ntmps25
  go_wp2
  repeat (go_quiet (fail); try go_wp2)
  go_ret
  exact ⟨by first | rfl | (simp; done) | (simp [*]; done), by repeat (first | exact Drawn0.refl _ | apply Drawn0.step)⟩

/-! ### downpourref01_Same: function 29 -/
mutual
def downpourref01_Same.j0 : Nat → Bool → Int → List Int → Int → List Int → Option (Bool)
 | 0, _, _, _, _, _ => none
 | k + 1, x19, x107000, x107001, x108000, x108001 => if x19 = true then (some false) else (downpourref01_Same.l0 k (x107001.length : Int) 0 x107000 x107001 x108000 x108001)
def downpourref01_Same.l0 : Nat → Int → Int → Int → List Int → Int → List Int → Option (Bool)
 | 0, _, _, _, _, _, _ => none
 | k + 1, x22, x23, x107000, x107001, x108000, x108001 => if x23 < x22 then (if 0 ≤ x23 then (if x23 < (x107001.length : Int) then (if x23 < (x108001.length : Int) then (if (rd x107001 x23) = (rd x108001 x23) then (downpourref01_Same.l0 k x22 (wrap64 (x23 + 1)) x107000 x107001 x108000 x108001) else (some false)) else (none)) else (none)) else (none)) else (some true)
end
def downpourref01_Same.f (k : Nat) (a0_0 : Int) (l0_1 : List Int) (a1_0 : Int) (l1_1 : List Int) : Option (Bool) := if a0_0 = a1_0 then (downpourref01_Same.j0 k ((l0_1.length : Int) != (l1_1.length : Int)) a0_0 l0_1 a1_0 l1_1) else (downpourref01_Same.j0 k true a0_0 l0_1 a1_0 l1_1)
theorem downpourref01_Same.mono_l : ∀ k, (∀ y0 y1 y2 y3 y4, LeO (downpourref01_Same.j0 k y0 y1 y2 y3 y4) (downpourref01_Same.j0 (k + 1) y0 y1 y2 y3 y4)) ∧ (∀ y0 y1 y2 y3 y4 y5, LeO (downpourref01_Same.l0 k y0 y1 y2 y3 y4 y5) (downpourref01_Same.l0 (k + 1) y0 y1 y2 y3 y4 y5))
 | 0 => ⟨fun _ _ _ _ _ r h => by simp [downpourref01_Same.j0] at h, fun _ _ _ _ _ _ r h => by simp [downpourref01_Same.l0] at h⟩
 | k + 1 => by
  obtain ⟨ih0, ih1⟩ := downpourref01_Same.mono_l k
  refine ⟨?_, ?_⟩
  ·
   intro y0 y1 y2 y3 y4
   unfold downpourref01_Same.j0
   repeat' first
   | (with_reducible exact ih0 _ _ _ _ _)
   | (with_reducible exact ih1 _ _ _ _ _ _)
   | (with_reducible exact LeO.refl _)
   | (with_reducible exact LeO.none _)
   | (with_reducible refine LeO.ite ?_ ?_)
   | (with_reducible refine LeO.bind ?_ (fun _ => ?_))
   | exact ih0 _ _ _ _ _
   | exact ih1 _ _ _ _ _ _
   | exact LeO.none _
   | refine LeO.ite ?_ ?_
   | refine LeO.bind ?_ (fun _ => ?_)
  ·
   intro y0 y1 y2 y3 y4 y5
   unfold downpourref01_Same.l0
   repeat' first
   | (with_reducible exact ih0 _ _ _ _ _)
   | (with_reducible exact ih1 _ _ _ _ _ _)
   | (with_reducible exact LeO.refl _)
   | (with_reducible exact LeO.none _)
   | (with_reducible refine LeO.ite ?_ ?_)
   | (with_reducible refine LeO.bind ?_ (fun _ => ?_))
   | exact ih0 _ _ _ _ _
   | exact ih1 _ _ _ _ _ _
   | exact LeO.none _
   | refine LeO.ite ?_ ?_
   | refine LeO.bind ?_ (fun _ => ?_)
theorem downpourref01_Same.mono : ∀ a0 a1 a2 a3 k, LeO (downpourref01_Same.f k a0 a1 a2 a3) (downpourref01_Same.f (k + 1) a0 a1 a2 a3) := by
 intro a0 a1 a2 a3 k
 obtain ⟨ih0, ih1⟩ := downpourref01_Same.mono_l k
 unfold downpourref01_Same.f
 repeat' first
   | (with_reducible exact ih0 _ _ _ _ _)
   | (with_reducible exact ih1 _ _ _ _ _ _)
   | (with_reducible exact LeO.refl _)
   | (with_reducible exact LeO.none _)
   | (with_reducible refine LeO.ite ?_ ?_)
   | (with_reducible refine LeO.bind ?_ (fun _ => ?_))
   | exact ih0 _ _ _ _ _
   | exact ih1 _ _ _ _ _ _
   | exact LeO.none _
   | refine LeO.ite ?_ ?_
   | refine LeO.bind ?_ (fun _ => ?_)
set_option maxHeartbeats 8000000 in
set_option maxRecDepth 100000 in
theorem downpourref01_Same.calls (k : Nat) (a0_0 : Int) (A0_1 : Option Addr) (c0_1 : Nat) (l0_1 : List Int) (a1_0 : Int) (A1_1 : Option Addr) (c1_1 : Nat) (l1_1 : List Int) (r : Bool) (w : World) (hr0_1 : Kd.C (Kd.int .u64) w A0_1 l0_1.length l0_1) (hc0_1 : l0_1.length ≤ c0_1) (hr1_1 : Kd.C (Kd.int .u64) w A1_1 l1_1.length l1_1) (hc1_1 : l1_1.length ≤ c1_1) (h : downpourref01_Same.f k a0_0 l0_1 a1_0 l1_1 = some r) :
  Calls Tryd.prog 29 #[.agg #[.int .i64 a0_0, .slice A0_1 l0_1.length c0_1], .agg #[.int .i64 a1_0, .slice A1_1 l1_1.length c1_1]] w fun e w' => e = .returned (.bool r) ∧ Below w.heap.size w w' := by
 have hu25 := Tryd.underlying25
 have HR0_1 := Aside0.mk hr0_1
 have HC0_1 := Aside0.mk hc0_1
 clear hr0_1 hc0_1
 have HR1_1 := Aside0.mk hr1_1
 have HC1_1 := Aside0.mk hc1_1
 clear hr1_1 hc1_1
 have HB := am (Below.refl w.heap.size w)
 have H : (if a0_0 = a1_0 then (downpourref01_Same.j0 k ((l0_1.length : Int) != (l1_1.length : Int)) a0_0 l0_1 a1_0 l1_1) else (downpourref01_Same.j0 k true a0_0 l0_1 a1_0 l1_1)) = some r := h
 clear h
 have HC3 := Aside0.mk H
 clear H
 go_enter Tryd.func29, Tryd.ntmps29
 go_upto_region 1 with (first | ((with_reducible refine gate_dst (N := 2) rfl ?_); (try (refine gate_guard (by rfl) ?_; dsimp only)); refine box_event ?hg (N := 2) ?hd (cs := #[.int .i64 a0_0, .slice A0_1 l0_1.length c0_1]) (t := 25) ?hr ?_; (case hd => rfl); (case hg => rfl); (case hr => first | (go_simp; done) | (go_simp; rfl)); intro gb106 hg w4 hbox hb; have n0_ := am (below_step (pb HB) hb); have n1_ := am (hbox); have n2_ := am ((by rw [hg]; exact (below_size (pb HB)) : w.heap.size ≤ gb106)); have n3_ := am ((by rw [hg]; exact (below_size (pb HB)) : w.heap.size ≤ gb106)); clear HB; have HB := n0_; have BK106 := n1_; have GW106 := n2_; have GE106 := n3_; clear n0_ n1_ n2_ n3_ hb hbox hg) | ((with_reducible refine gate_dst (N := 3) rfl ?_); (try (refine gate_guard (by rfl) ?_; dsimp only)); refine box_event ?hg (N := 3) ?hd (cs := #[.int .i64 a1_0, .slice A1_1 l1_1.length c1_1]) (t := 25) ?hr ?_; (case hd => rfl); (case hg => rfl); (case hr => first | (go_simp; done) | (go_simp; rfl)); intro gb107 hg w5 hbox hb; have n0_ := bb BK106 hb; have n1_ := am (below_step (pb HB) hb); have n2_ := am (hbox); have n3_ := am ((by rw [hg]; exact (below_size (pb HB)) : w.heap.size ≤ gb107)); have n4_ := am ((by rw [hg]; exact (below_size (pb HB)) : w.heap.size ≤ gb107)); have n5_ := am ((by rw [hg]; exact Nat.ne_of_lt (bl BK106) : gb106 ≠ gb107)); have n6_ := am ((by rw [hg]; exact Nat.ne_of_gt (bl BK106) : gb107 ≠ gb106)); clear BK106 HB; have BK106 := n0_; have HB := n1_; have BK107 := n2_; have GW107 := n3_; have GE107 := n4_; have NB106_107 := n5_; have NB107_106 := n6_; clear n0_ n1_ n2_ n3_ n4_ n5_ n6_ hb hbox hg))
 repeat (go_quiet (first | ((with_reducible refine gate_dst (N := 2) rfl ?_); (try (refine gate_guard (by rfl) ?_; dsimp only)); refine box_event ?hg (N := 2) ?hd (cs := #[.int .i64 a0_0, .slice A0_1 l0_1.length c0_1]) (t := 25) ?hr ?_; (case hd => rfl); (case hg => rfl); (case hr => first | (go_simp; done) | (go_simp; rfl)); intro gb106 hg w4 hbox hb; have n0_ := am (below_step (pb HB) hb); have n1_ := am (hbox); have n2_ := am ((by rw [hg]; exact (below_size (pb HB)) : w.heap.size ≤ gb106)); have n3_ := am ((by rw [hg]; exact (below_size (pb HB)) : w.heap.size ≤ gb106)); clear HB; have HB := n0_; have BK106 := n1_; have GW106 := n2_; have GE106 := n3_; clear n0_ n1_ n2_ n3_ hb hbox hg) | ((with_reducible refine gate_dst (N := 3) rfl ?_); (try (refine gate_guard (by rfl) ?_; dsimp only)); refine box_event ?hg (N := 3) ?hd (cs := #[.int .i64 a1_0, .slice A1_1 l1_1.length c1_1]) (t := 25) ?hr ?_; (case hd => rfl); (case hg => rfl); (case hr => first | (go_simp; done) | (go_simp; rfl)); intro gb107 hg w5 hbox hb; have n0_ := bb BK106 hb; have n1_ := am (below_step (pb HB) hb); have n2_ := am (hbox); have n3_ := am ((by rw [hg]; exact (below_size (pb HB)) : w.heap.size ≤ gb107)); have n4_ := am ((by rw [hg]; exact (below_size (pb HB)) : w.heap.size ≤ gb107)); have n5_ := am ((by rw [hg]; exact Nat.ne_of_lt (bl BK106) : gb106 ≠ gb107)); have n6_ := am ((by rw [hg]; exact Nat.ne_of_gt (bl BK106) : gb107 ≠ gb106)); clear BK106 HB; have BK106 := n0_; have HB := n1_; have BK107 := n2_; have GW107 := n3_; have GE107 := n4_; have NB106_107 := n5_; have NB107_106 := n6_; clear n0_ n1_ n2_ n3_ n4_ n5_ n6_ hb hbox hg)); go_upto_region 1 with (first | ((with_reducible refine gate_dst (N := 2) rfl ?_); (try (refine gate_guard (by rfl) ?_; dsimp only)); refine box_event ?hg (N := 2) ?hd (cs := #[.int .i64 a0_0, .slice A0_1 l0_1.length c0_1]) (t := 25) ?hr ?_; (case hd => rfl); (case hg => rfl); (case hr => first | (go_simp; done) | (go_simp; rfl)); intro gb106 hg w4 hbox hb; have n0_ := am (below_step (pb HB) hb); have n1_ := am (hbox); have n2_ := am ((by rw [hg]; exact (below_size (pb HB)) : w.heap.size ≤ gb106)); have n3_ := am ((by rw [hg]; exact (below_size (pb HB)) : w.heap.size ≤ gb106)); clear HB; have HB := n0_; have BK106 := n1_; have GW106 := n2_; have GE106 := n3_; clear n0_ n1_ n2_ n3_ hb hbox hg) | ((with_reducible refine gate_dst (N := 3) rfl ?_); (try (refine gate_guard (by rfl) ?_; dsimp only)); refine box_event ?hg (N := 3) ?hd (cs := #[.int .i64 a1_0, .slice A1_1 l1_1.length c1_1]) (t := 25) ?hr ?_; (case hd => rfl); (case hg => rfl); (case hr => first | (go_simp; done) | (go_simp; rfl)); intro gb107 hg w5 hbox hb; have n0_ := bb BK106 hb; have n1_ := am (below_step (pb HB) hb); have n2_ := am (hbox); have n3_ := am ((by rw [hg]; exact (below_size (pb HB)) : w.heap.size ≤ gb107)); have n4_ := am ((by rw [hg]; exact (below_size (pb HB)) : w.heap.size ≤ gb107)); have n5_ := am ((by rw [hg]; exact Nat.ne_of_lt (bl BK106) : gb106 ≠ gb107)); have n6_ := am ((by rw [hg]; exact Nat.ne_of_gt (bl BK106) : gb107 ≠ gb106)); clear BK106 HB; have BK106 := n0_; have HB := n1_; have BK107 := n2_; have GW107 := n3_; have GE107 := n4_; have NB106_107 := n5_; have NB107_106 := n6_; clear n0_ n1_ n2_ n3_ n4_ n5_ n6_ hb hbox hg)))
 (try simp only [Act.put, q1, q2, q3])
 go_cut [19] (fun v19 wc => ∃ (kq : Nat) (x19_2 : Bool), v19 = .bool x19_2 ∧ Aside0 (downpourref01_Same.j0 kq x19_2 a0_0 l0_1 a1_0 l1_1 = some r) ∧ Aside0 (kq ≤ k) ∧ Aside0 (wc.heap[gb106]? = some (.cells #[.int .i64 a0_0, (.slice A0_1 l0_1.length c0_1)] 25 (0, 0))) ∧ Aside0 (wc.heap[gb107]? = some (.cells #[.int .i64 a1_0, (.slice A1_1 l1_1.length c1_1)] 25 (0, 0))) ∧ Aside0 (Below w.heap.size w wc))
 case first =>
  have H := HC3.out
  clear HC3
  by_cases c6 : a0_0 = a1_0
  ·
   rw [if_pos c6] at H
   have c6b0 : (a0_0 == a1_0) = true := beq_iff_eq.mpr c6
   have c6b1 : (a0_0 != a1_0) = false := bne_eq_false_iff_eq.mpr c6
   clear c6
   (first | rw [c6b0] | (simp only [i64_w, i32_w]; rw [c6b0]) | skip)
   have H' := Aside0.mk H
   clear H
   have hnb7 := NB106_107.out
   have hnc7 := NB107_106.out
   have hcz8_0 : w5.cell? ⟨gb106, 0, none⟩ = some (.int .i64 a0_0) := (blk_cell BK106.out 0).trans rfl
   have hcz8_1 : w5.cell? ⟨gb106, 1, none⟩ = some (.slice A0_1 l0_1.length c0_1) := (blk_cell BK106.out 1).trans rfl
   have hfz8_0 := blk_frozen BK106.out 0
   have hfz8_1 := blk_frozen BK106.out 1
   have hcz9_0 : w5.cell? ⟨gb107, 0, none⟩ = some (.int .i64 a1_0) := (blk_cell BK107.out 0).trans rfl
   have hcz9_1 : w5.cell? ⟨gb107, 1, none⟩ = some (.slice A1_1 l1_1.length c1_1) := (blk_cell BK107.out 1).trans rfl
   have hfz9_0 := blk_frozen BK107.out 0
   have hfz9_1 := blk_frozen BK107.out 1
   go_wp2
   repeat (go_quiet (fail); try go_wp2)
   go_meet
   case rel => exact ⟨_, (((l0_1.length : Int) != (l1_1.length : Int))), (by first | rfl | (simp; done) | (simp [*]; done)), H', ⟨by first | omega | exact Nat.le_refl _⟩, ⟨by (with_reducible repeat (first | refine blk_drewN ?_ _ | refine blk_drew ?_ | refine blk_alloc ?_ _)); exact BK106.out⟩, ⟨by (with_reducible repeat (first | refine blk_drewN ?_ _ | refine blk_drew ?_ | refine blk_alloc ?_ _)); exact BK107.out⟩, ⟨pb HB⟩⟩
  ·
   rw [if_neg c6] at H
   have c6b0 : (a0_0 == a1_0) = false := beq_eq_false_iff_ne.mpr c6
   have c6b1 : (a0_0 != a1_0) = true := bne_iff_ne.mpr c6
   (first | rw [c6b0] | (simp only [i64_w, i32_w]; rw [c6b0]) | skip)
   have H' := Aside0.mk H
   clear H
   have hnb10 := NB106_107.out
   have hnc10 := NB107_106.out
   have hcz11_0 : w5.cell? ⟨gb106, 0, none⟩ = some (.int .i64 a0_0) := (blk_cell BK106.out 0).trans rfl
   have hcz11_1 : w5.cell? ⟨gb106, 1, none⟩ = some (.slice A0_1 l0_1.length c0_1) := (blk_cell BK106.out 1).trans rfl
   have hfz11_0 := blk_frozen BK106.out 0
   have hfz11_1 := blk_frozen BK106.out 1
   have hcz12_0 : w5.cell? ⟨gb107, 0, none⟩ = some (.int .i64 a1_0) := (blk_cell BK107.out 0).trans rfl
   have hcz12_1 : w5.cell? ⟨gb107, 1, none⟩ = some (.slice A1_1 l1_1.length c1_1) := (blk_cell BK107.out 1).trans rfl
   have hfz12_0 := blk_frozen BK107.out 0
   have hfz12_1 := blk_frozen BK107.out 1
   go_wp2
   repeat (go_quiet (fail); try go_wp2)
   go_meet
   case rel => exact ⟨_, (true), (by first | rfl | (simp; done) | (simp [*]; done)), H', ⟨by first | omega | exact Nat.le_refl _⟩, ⟨by (with_reducible repeat (first | refine blk_drewN ?_ _ | refine blk_drew ?_ | refine blk_alloc ?_ _)); exact BK106.out⟩, ⟨by (with_reducible repeat (first | refine blk_drewN ?_ _ | refine blk_drew ?_ | refine blk_alloc ?_ _)); exact BK107.out⟩, ⟨pb HB⟩⟩
 case rest =>
  clear HC3
  try clear c1
  try clear c2
  try clear p2
  try clear c6
  try clear c6b0
  try clear c6b1
  try clear c7
  try clear c10
  try clear hcz11_0
  try clear hcz11_1
  try clear hcz12_0
  try clear hcz12_1
  try clear hcz8_0
  try clear hcz8_1
  try clear hcz9_0
  try clear hcz9_1
  try clear hfz11_0
  try clear hfz11_1
  try clear hfz12_0
  try clear hfz12_1
  try clear hfz8_0
  try clear hfz8_1
  try clear hfz9_0
  try clear hfz9_1
  obtain ⟨kq, x19_2, rfl, HA, HJ2, BK106, BK107, HB⟩ := hcut
  cases kq with
  | zero => exact absurd HA.out (by simp [downpourref01_Same.j0])
  | succ kj2 =>
   have H := HA.out
   clear HA
   simp only [downpourref01_Same.j0] at H
   by_cases c13 : x19_2 = true
   ·
    subst c13
    have H1 : (some false) = some r := by rw [if_pos rfl] at H; exact H
    clear H
    have H := H1
    clear H1
    obtain rfl := Option.some.inj H
    go_wp2
    repeat (go_quiet (fail); try go_wp2)
    go_ret
    exact ⟨by first | rfl | (simp [errW_none, errW_some] <;> rfl) | (simp [*, errW_none, errW_some] <;> rfl), pb HB⟩
   ·
    replace c13 := Bool.eq_false_iff.mpr c13
    subst c13
    have H1 : (downpourref01_Same.l0 kj2 (l0_1.length : Int) 0 a0_0 l0_1 a1_0 l1_1) = some r := by rw [if_neg (show ¬ (false = true) by decide)] at H; exact H
    clear H
    have H := H1
    clear H1
    have H' := Aside0.mk H
    clear H
    have hnb14 := NB106_107.out
    have hnc14 := NB107_106.out
    have hcz15_0 : wc.cell? ⟨gb106, 0, none⟩ = some (.int .i64 a0_0) := (blk_cell BK106.out 0).trans rfl
    have hcz15_1 : wc.cell? ⟨gb106, 1, none⟩ = some (.slice A0_1 l0_1.length c0_1) := (blk_cell BK106.out 1).trans rfl
    have hfz15_0 := blk_frozen BK106.out 0
    have hfz15_1 := blk_frozen BK106.out 1
    go_wp2
    repeat (go_quiet (fail); try go_wp2)
    go_loopg [23] kj2 (fun kq v23 w' => ∃ (x23_2 : Int), v23 = .int .i64 x23_2 ∧ Aside0 (downpourref01_Same.l0 kq (l0_1.length : Int) x23_2 a0_0 l0_1 a1_0 l1_1 = some r) ∧ Aside0 (kq ≤ kj2) ∧ Aside0 (w'.heap[gb106]? = some (.cells #[.int .i64 a0_0, (.slice A0_1 l0_1.length c0_1)] 25 (0, 0))) ∧ Aside0 (w'.heap[gb107]? = some (.cells #[.int .i64 a1_0, (.slice A1_1 l1_1.length c1_1)] 25 (0, 0))) ∧ Aside0 (Below w.heap.size w w'))
    case atStart => exact ⟨(0), (by first | rfl | (simp; done) | (simp [*]; done)), H', ⟨Nat.le_refl _⟩, ⟨by (with_reducible repeat (first | refine blk_drewN ?_ _ | refine blk_drew ?_ | refine blk_alloc ?_ _)); exact BK106.out⟩, ⟨by (with_reducible repeat (first | refine blk_drewN ?_ _ | refine blk_drew ?_ | refine blk_alloc ?_ _)); exact BK107.out⟩, ⟨pb HB⟩⟩
    case round =>
     clear H'
     try clear c1
     try clear c2
     try clear p2
     try clear c6
     try clear c6b0
     try clear c6b1
     try clear c7
     try clear c10
     try clear c13
     try clear c14
     try clear hcz11_0
     try clear hcz11_1
     try clear hcz12_0
     try clear hcz12_1
     try clear hcz15_0
     try clear hcz15_1
     try clear hcz8_0
     try clear hcz8_1
     try clear hcz9_0
     try clear hcz9_1
     try clear hfz11_0
     try clear hfz11_1
     try clear hfz12_0
     try clear hfz12_1
     try clear hfz15_0
     try clear hfz15_1
     try clear hfz8_0
     try clear hfz8_1
     try clear hfz9_0
     try clear hfz9_1
     try clear p2
     obtain ⟨x23_2, rfl, HA, HK2, BK106, BK107, HB⟩ := hrel
     cases gk with
     | zero => exact absurd HA.out (by simp [downpourref01_Same.l0])
     | succ k2 =>
      have H := HA.out
      clear HA
      simp only [downpourref01_Same.l0] at H
      by_cases c16 : x23_2 < (l0_1.length : Int)
      ·
       rw [if_pos c16] at H
       have c16b0 : decide (x23_2 < (l0_1.length : Int)) = true := decide_eq_true c16
       clear c16
       by_cases c17 : 0 ≤ x23_2
       ·
        rw [if_pos c17] at H
        have c17b0 : decide (0 ≤ x23_2) = true := decide_eq_true c17
        clear c17
        by_cases c18 : x23_2 < (l0_1.length : Int)
        ·
         rw [if_pos c18] at H
         have c18b0 : decide (x23_2 < (l0_1.length : Int)) = true := decide_eq_true c18
         clear c18
         by_cases c19 : x23_2 < (l1_1.length : Int)
         ·
          rw [if_pos c19] at H
          have c19b0 : decide (x23_2 < (l1_1.length : Int)) = true := decide_eq_true c19
          clear c19
          by_cases c20 : (rd l0_1 x23_2) = (rd l1_1 x23_2)
          ·
           rw [if_pos c20] at H
           have c20b0 : ((rd l0_1 x23_2) == (rd l1_1 x23_2)) = true := beq_iff_eq.mpr c20
           have c20b1 : ((rd l0_1 x23_2) != (rd l1_1 x23_2)) = false := bne_eq_false_iff_eq.mpr c20
           clear c20
           have H' := Aside0.mk H
           clear H
           have hnb21 := NB106_107.out
           have hnc21 := NB107_106.out
           have hcz22_0 : wr.cell? ⟨gb106, 0, none⟩ = some (.int .i64 a0_0) := (blk_cell BK106.out 0).trans rfl
           have hcz22_1 : wr.cell? ⟨gb106, 1, none⟩ = some (.slice A0_1 l0_1.length c0_1) := (blk_cell BK106.out 1).trans rfl
           have hfz22_0 := blk_frozen BK106.out 0
           have hfz22_1 := blk_frozen BK106.out 1
           have p108 : 0 ≤ (x23_2 : Int) := of_decide_eq_true (by first | (with_reducible assumption) | assumption)
           have q108 : x23_2 < (l0_1.length : Int) := of_decide_eq_true (by first | (with_reducible assumption) | assumption)
           obtain ⟨ad108, e108, hx108_0⟩ := Kd.at_int HR0_1.out x23_2 p108 q108
           cases e108
           replace hx108_0 := (HB.out.cell (World.block_lt_of_cell? w _ hx108_0)).trans hx108_0
           replace p108 := eq_true p108
           replace q108 := eq_true q108
           have hcz23_0 : wr.cell? ⟨gb107, 0, none⟩ = some (.int .i64 a1_0) := (blk_cell BK107.out 0).trans rfl
           have hcz23_1 : wr.cell? ⟨gb107, 1, none⟩ = some (.slice A1_1 l1_1.length c1_1) := (blk_cell BK107.out 1).trans rfl
           have hfz23_0 := blk_frozen BK107.out 0
           have hfz23_1 := blk_frozen BK107.out 1
           have p109 : 0 ≤ (x23_2 : Int) := of_decide_eq_true (by first | (with_reducible assumption) | assumption)
           have q109 : x23_2 < (l1_1.length : Int) := of_decide_eq_true (by first | (with_reducible assumption) | assumption)
           obtain ⟨ad109, e109, hx109_0⟩ := Kd.at_int HR1_1.out x23_2 p109 q109
           cases e109
           replace hx109_0 := (HB.out.cell (World.block_lt_of_cell? w _ hx109_0)).trans hx109_0
           replace p109 := eq_true p109
           replace q109 := eq_true q109
           go_wp2
           repeat (go_quiet (fail); try go_wp2)
           go_roundg k2
           case measure => have := HJ2.out; have := HK2.out; omega
           case rel => exact ⟨(wrap64 (x23_2 + 1)), (by first | rfl | (simp; done) | (simp [*]; done)), H', ⟨by have := HJ2.out; have := HK2.out; omega⟩, ⟨by (with_reducible repeat (first | refine blk_drewN ?_ _ | refine blk_drew ?_ | refine blk_alloc ?_ _)); exact BK106.out⟩, ⟨by (with_reducible repeat (first | refine blk_drewN ?_ _ | refine blk_drew ?_ | refine blk_alloc ?_ _)); exact BK107.out⟩, ⟨pb HB⟩⟩
          ·
           rw [if_neg c20] at H
           have c20b0 : ((rd l0_1 x23_2) == (rd l1_1 x23_2)) = false := beq_eq_false_iff_ne.mpr c20
           have c20b1 : ((rd l0_1 x23_2) != (rd l1_1 x23_2)) = true := bne_iff_ne.mpr c20
           obtain rfl := Option.some.inj H
           have hnb24 := NB106_107.out
           have hnc24 := NB107_106.out
           have hcz25_0 : wr.cell? ⟨gb106, 0, none⟩ = some (.int .i64 a0_0) := (blk_cell BK106.out 0).trans rfl
           have hcz25_1 : wr.cell? ⟨gb106, 1, none⟩ = some (.slice A0_1 l0_1.length c0_1) := (blk_cell BK106.out 1).trans rfl
           have hfz25_0 := blk_frozen BK106.out 0
           have hfz25_1 := blk_frozen BK106.out 1
           have p108 : 0 ≤ (x23_2 : Int) := of_decide_eq_true (by first | (with_reducible assumption) | assumption)
           have q108 : x23_2 < (l0_1.length : Int) := of_decide_eq_true (by first | (with_reducible assumption) | assumption)
           obtain ⟨ad108, e108, hx108_0⟩ := Kd.at_int HR0_1.out x23_2 p108 q108
           cases e108
           replace hx108_0 := (HB.out.cell (World.block_lt_of_cell? w _ hx108_0)).trans hx108_0
           replace p108 := eq_true p108
           replace q108 := eq_true q108
           have hcz26_0 : wr.cell? ⟨gb107, 0, none⟩ = some (.int .i64 a1_0) := (blk_cell BK107.out 0).trans rfl
           have hcz26_1 : wr.cell? ⟨gb107, 1, none⟩ = some (.slice A1_1 l1_1.length c1_1) := (blk_cell BK107.out 1).trans rfl
           have hfz26_0 := blk_frozen BK107.out 0
           have hfz26_1 := blk_frozen BK107.out 1
           have p109 : 0 ≤ (x23_2 : Int) := of_decide_eq_true (by first | (with_reducible assumption) | assumption)
           have q109 : x23_2 < (l1_1.length : Int) := of_decide_eq_true (by first | (with_reducible assumption) | assumption)
           obtain ⟨ad109, e109, hx109_0⟩ := Kd.at_int HR1_1.out x23_2 p109 q109
           cases e109
           replace hx109_0 := (HB.out.cell (World.block_lt_of_cell? w _ hx109_0)).trans hx109_0
           replace p109 := eq_true p109
           replace q109 := eq_true q109
           go_wp2
           repeat (go_quiet (fail); try go_wp2)
           go_ret
           exact ⟨by first | rfl | (simp [errW_none, errW_some] <;> rfl) | (simp [*, errW_none, errW_some] <;> rfl), pb HB⟩
         ·
          rw [if_neg c19] at H
          exact absurd H (by simp)
        ·
         rw [if_neg c18] at H
         exact absurd H (by simp)
       ·
        rw [if_neg c17] at H
        exact absurd H (by simp)
      ·
       rw [if_neg c16] at H
       have c16b0 : decide (x23_2 < (l0_1.length : Int)) = false := decide_eq_false c16
       clear c16
       obtain rfl := Option.some.inj H
       go_wp2
       repeat (go_quiet (fail); try go_wp2)
       go_ret
       exact ⟨by first | rfl | (simp [errW_none, errW_some] <;> rfl) | (simp [*, errW_none, errW_some] <;> rfl), pb HB⟩

end Go.Proofs.YtfcedhejbnoinaaDoor.PK
