-- PRINTED by print.py (a twelfth state) out of the translation. Not trusted: Lean checks it.
import Derived.Test.YtfcedhejbnoinaaDoorPRx0
import Derived.Test.YtfcedhejbnoinaaDoorPRx1
import Derived.Test.YtfcedhejbnoinaaDoorPRx7
namespace Go.Proofs.YtfcedhejbnoinaaDoor.PR
open Go.RowKit Go.Proofs.YtfcedhejbnoinaaDoorW.PrintWords Go.Proofs.YtfcedhejbnoinaaDoorW.PrintLast Go.Proofs.YtfcedhejbnoinaaDoorW.PrintMore
open Bool renaming true → T, false → F
open List renaming setIfInBounds_toArray → q1, set_cons_zero → q2, set_cons_succ → q3
attribute [local go_sem] run_store_func max2_int min2_int max_two min_two max_three min_three max_four min_four   -- for this text's walks alone
set_option linter.unusedVariables false
set_option linter.unusedSimpArgs false

/-! ### downpourref03_Same: function 40 -/
mutual
def downpourref03_Same.j0 : Nat → Bool → Int → List (S25) → Int → List (S25) → Option (Bool)
 | 0, _, _, _, _, _ => none
 | k + 1, x19, x298000, x298001, x299000, x299001 => if x19 = true then (some false) else (downpourref03_Same.l0 k (x298001.length : Int) 0 x298000 x298001 x299000 x299001)
def downpourref03_Same.l0 : Nat → Int → Int → Int → List (S25) → Int → List (S25) → Option (Bool)
 | 0, _, _, _, _, _, _ => none
 | k + 1, x22, x23, x298000, x298001, x299000, x299001 => if x23 < x22 then (if 0 ≤ x23 then (if x23 < (x298001.length : Int) then (if x23 < (x299001.length : Int) then ((downpourref01_Same.f k ((rd_T25 x298001 x23).f0) ((rd_T25 x298001 x23).f1) ((rd_T25 x299001 x23).f0) ((rd_T25 x299001 x23).f1)).bind fun t301 => (if t301 = true then (downpourref03_Same.l0 k x22 (wrap64 (x23 + 1)) x298000 x298001 x299000 x299001) else (some false))) else (none)) else (none)) else (none)) else (some true)
end
def downpourref03_Same.f (k : Nat) (a0_0 : Int) (l0_1 : List (S25)) (a1_0 : Int) (l1_1 : List (S25)) : Option (Bool) := if a0_0 = a1_0 then (downpourref03_Same.j0 k ((l0_1.length : Int) != (l1_1.length : Int)) a0_0 l0_1 a1_0 l1_1) else (downpourref03_Same.j0 k true a0_0 l0_1 a1_0 l1_1)
theorem downpourref03_Same.mono_l : ∀ k, (∀ y0 y1 y2 y3 y4, LeO (downpourref03_Same.j0 k y0 y1 y2 y3 y4) (downpourref03_Same.j0 (k + 1) y0 y1 y2 y3 y4)) ∧ (∀ y0 y1 y2 y3 y4 y5, LeO (downpourref03_Same.l0 k y0 y1 y2 y3 y4 y5) (downpourref03_Same.l0 (k + 1) y0 y1 y2 y3 y4 y5))
 | 0 => ⟨fun _ _ _ _ _ r h => by simp [downpourref03_Same.j0] at h, fun _ _ _ _ _ _ r h => by simp [downpourref03_Same.l0] at h⟩
 | k + 1 => by
  obtain ⟨ih0, ih1⟩ := downpourref03_Same.mono_l k
  refine ⟨?_, ?_⟩
  ·
   intro y0 y1 y2 y3 y4
   unfold downpourref03_Same.j0
   repeat' first
   | (with_reducible exact ih0 _ _ _ _ _)
   | (with_reducible exact ih1 _ _ _ _ _ _)
   | (with_reducible exact downpourref01_Same.mono _ _ _ _ _)
   | (with_reducible exact LeO.refl _)
   | (with_reducible exact LeO.none _)
   | (with_reducible refine LeO.ite ?_ ?_)
   | (with_reducible refine LeO.bind ?_ (fun _ => ?_))
   | exact ih0 _ _ _ _ _
   | exact ih1 _ _ _ _ _ _
   | exact downpourref01_Same.mono _ _ _ _ _
   | exact LeO.none _
   | refine LeO.ite ?_ ?_
   | refine LeO.bind ?_ (fun _ => ?_)
  ·
   intro y0 y1 y2 y3 y4 y5
   unfold downpourref03_Same.l0
   repeat' first
   | (with_reducible exact ih0 _ _ _ _ _)
   | (with_reducible exact ih1 _ _ _ _ _ _)
   | (with_reducible exact downpourref01_Same.mono _ _ _ _ _)
   | (with_reducible exact LeO.refl _)
   | (with_reducible exact LeO.none _)
   | (with_reducible refine LeO.ite ?_ ?_)
   | (with_reducible refine LeO.bind ?_ (fun _ => ?_))
   | exact ih0 _ _ _ _ _
   | exact ih1 _ _ _ _ _ _
   | exact downpourref01_Same.mono _ _ _ _ _
   | exact LeO.none _
   | refine LeO.ite ?_ ?_
   | refine LeO.bind ?_ (fun _ => ?_)
theorem downpourref03_Same.mono : ∀ a0 a1 a2 a3 k, LeO (downpourref03_Same.f k a0 a1 a2 a3) (downpourref03_Same.f (k + 1) a0 a1 a2 a3) := by
 intro a0 a1 a2 a3 k
 obtain ⟨ih0, ih1⟩ := downpourref03_Same.mono_l k
 unfold downpourref03_Same.f
 repeat' first
   | (with_reducible exact ih0 _ _ _ _ _)
   | (with_reducible exact ih1 _ _ _ _ _ _)
   | (with_reducible exact downpourref01_Same.mono _ _ _ _ _)
   | (with_reducible exact LeO.refl _)
   | (with_reducible exact LeO.none _)
   | (with_reducible refine LeO.ite ?_ ?_)
   | (with_reducible refine LeO.bind ?_ (fun _ => ?_))
   | exact ih0 _ _ _ _ _
   | exact ih1 _ _ _ _ _ _
   | exact downpourref01_Same.mono _ _ _ _ _
   | exact LeO.none _
   | refine LeO.ite ?_ ?_
   | refine LeO.bind ?_ (fun _ => ?_)
def downpourref03_Same.T6 : Bool × List (List Nat × List Nat) := (true, [([], []), ([0], [0]), ([], []), ([1, 2], [1, 2]), ([3], [3]), ([], []), ([5], [5]), ([], []), ([6, 7], [6, 7]), ([8], [8]), ([4, 9], [4, 9]), ([10], [10])])
def downpourref03_Same.B6 : List Nat := [0, 1, 0, 7, 15, 0, 32, 0, 224, 480, 1023, 2047]
theorem downpourref03_Same.tab6 : rtab .any (opsOf Tryd.f40 6) = downpourref03_Same.T6 := by kernel_rfl
theorem downpourref03_Same.bits6 : waitsOk downpourref03_Same.T6.2 downpourref03_Same.B6 = true := by kernel_rfl
set_option maxHeartbeats 8000000 in
set_option maxRecDepth 100000 in
theorem downpourref03_Same.calls (k : Nat) (a0_0 : Int) (A0_1 : Option Addr) (c0_1 : Nat) (l0_1 : List (S25)) (a1_0 : Int) (A1_1 : Option Addr) (c1_1 : Nat) (l1_1 : List (S25)) (r : Bool) (w : World) (hr0_1 : Kd.C k25 w A0_1 l0_1.length l0_1) (hc0_1 : l0_1.length ≤ c0_1) (hr1_1 : Kd.C k25 w A1_1 l1_1.length l1_1) (hc1_1 : l1_1.length ≤ c1_1) (h : downpourref03_Same.f k a0_0 l0_1 a1_0 l1_1 = some r) :
  Calls Tryd.prog 40 #[.agg #[.int .i64 a0_0, .slice A0_1 l0_1.length c0_1], .agg #[.int .i64 a1_0, .slice A1_1 l1_1.length c1_1]] w fun e w' => e = .returned (.bool r) ∧ Below w.heap.size w w' := by
 have hu55 := Tryd.underlying55
 have hu25 := Tryd.underlying25
 have HR0_1 := Aside0.mk hr0_1
 have HC0_1 := Aside0.mk hc0_1
 clear hr0_1 hc0_1
 have HR1_1 := Aside0.mk hr1_1
 have HC1_1 := Aside0.mk hc1_1
 clear hr1_1 hc1_1
 have HB := am (Below.refl w.heap.size w)
 have H : (if a0_0 = a1_0 then (downpourref03_Same.j0 k ((l0_1.length : Int) != (l1_1.length : Int)) a0_0 l0_1 a1_0 l1_1) else (downpourref03_Same.j0 k true a0_0 l0_1 a1_0 l1_1)) = some r := h
 clear h
 have HC3 := Aside0.mk H
 clear H
 go_enter Tryd.func40, Tryd.ntmps40
 go_upto_region 1 with (first | ((with_reducible refine gate_dst (N := 2) rfl ?_); (try (refine gate_guard (by rfl) ?_; dsimp only)); refine box_event ?hg (N := 2) ?hd (cs := #[.int .i64 a0_0, .slice A0_1 l0_1.length c0_1]) (t := 55) ?hr ?_; (case hd => rfl); (case hg => rfl); (case hr => first | (go_simp; done) | (go_simp; rfl)); intro gb297 hg w4 hbox hb; have n0_ := am (below_step (pb HB) hb); have n1_ := am (hbox); have n2_ := am ((by rw [hg]; exact (below_size (pb HB)) : w.heap.size ≤ gb297)); have n3_ := am ((by rw [hg]; exact (below_size (pb HB)) : w.heap.size ≤ gb297)); clear HB; have HB := n0_; have BK297 := n1_; have GW297 := n2_; have GE297 := n3_; clear n0_ n1_ n2_ n3_ hb hbox hg) | ((with_reducible refine gate_dst (N := 3) rfl ?_); (try (refine gate_guard (by rfl) ?_; dsimp only)); refine box_event ?hg (N := 3) ?hd (cs := #[.int .i64 a1_0, .slice A1_1 l1_1.length c1_1]) (t := 55) ?hr ?_; (case hd => rfl); (case hg => rfl); (case hr => first | (go_simp; done) | (go_simp; rfl)); intro gb298 hg w5 hbox hb; have n0_ := bb BK297 hb; have n1_ := am (below_step (pb HB) hb); have n2_ := am (hbox); have n3_ := am ((by rw [hg]; exact (below_size (pb HB)) : w.heap.size ≤ gb298)); have n4_ := am ((by rw [hg]; exact (below_size (pb HB)) : w.heap.size ≤ gb298)); have n5_ := am ((by rw [hg]; exact Nat.ne_of_lt (bl BK297) : gb297 ≠ gb298)); have n6_ := am ((by rw [hg]; exact Nat.ne_of_gt (bl BK297) : gb298 ≠ gb297)); clear BK297 HB; have BK297 := n0_; have HB := n1_; have BK298 := n2_; have GW298 := n3_; have GE298 := n4_; have NB297_298 := n5_; have NB298_297 := n6_; clear n0_ n1_ n2_ n3_ n4_ n5_ n6_ hb hbox hg))
 (try simp only [Act.put, q1, q2, q3])
 go_cut [19] (fun v19 wc => ∃ (kq : Nat) (x19_2 : Bool), v19 = .bool x19_2 ∧ Aside0 (downpourref03_Same.j0 kq x19_2 a0_0 l0_1 a1_0 l1_1 = some r) ∧ Aside0 (kq ≤ k) ∧ Aside0 (wc.heap[gb297]? = some (.cells #[.int .i64 a0_0, (.slice A0_1 l0_1.length c0_1)] 55 (0, 0))) ∧ Aside0 (wc.heap[gb298]? = some (.cells #[.int .i64 a1_0, (.slice A1_1 l1_1.length c1_1)] 55 (0, 0))) ∧ Aside0 (Below w.heap.size w wc))
 case first =>
  have H := HC3.out
  clear HC3
  by_cases c6 : a0_0 = a1_0
  ·
   rw [if_pos c6] at H
   have c6b0 : (a0_0 == a1_0) = true := beq_iff_eq.mpr c6
   have c6b1 : (a0_0 != a1_0) = false := bne_eq_false_iff_eq.mpr c6
   clear c6
   (first | rw [c6b0] | (simp only [i64_w, i32_w]; rw [c6b0]) | skip)
   have H' := Aside0.mk H
   clear H
   have hnb7 := NB297_298.out
   have hnc7 := NB298_297.out
   have hcz8_0 : w5.cell? ⟨gb297, 0, none⟩ = some (.int .i64 a0_0) := (blk_cell BK297.out 0).trans rfl
   have hcz8_1 : w5.cell? ⟨gb297, 1, none⟩ = some (.slice A0_1 l0_1.length c0_1) := (blk_cell BK297.out 1).trans rfl
   have hfz8_0 := blk_frozen BK297.out 0
   have hfz8_1 := blk_frozen BK297.out 1
   have hcz9_0 : w5.cell? ⟨gb298, 0, none⟩ = some (.int .i64 a1_0) := (blk_cell BK298.out 0).trans rfl
   have hcz9_1 : w5.cell? ⟨gb298, 1, none⟩ = some (.slice A1_1 l1_1.length c1_1) := (blk_cell BK298.out 1).trans rfl
   have hfz9_0 := blk_frozen BK298.out 0
   have hfz9_1 := blk_frozen BK298.out 1
   go_wp2
   go_meet
   case rel => exact ⟨_, (((l0_1.length : Int) != (l1_1.length : Int))), (by first | rfl | (simp; done) | (simp [*]; done)), H', ⟨by first | omega | exact Nat.le_refl _⟩, ⟨by (with_reducible repeat (first | refine blk_drewN ?_ _ | refine blk_drew ?_ | refine blk_alloc ?_ _)); exact BK297.out⟩, ⟨by (with_reducible repeat (first | refine blk_drewN ?_ _ | refine blk_drew ?_ | refine blk_alloc ?_ _)); exact BK298.out⟩, ⟨pb HB⟩⟩
  ·
   rw [if_neg c6] at H
   have c6b0 : (a0_0 == a1_0) = false := beq_eq_false_iff_ne.mpr c6
   have c6b1 : (a0_0 != a1_0) = true := bne_iff_ne.mpr c6
   (first | rw [c6b0] | (simp only [i64_w, i32_w]; rw [c6b0]) | skip)
   have H' := Aside0.mk H
   clear H
   have hnb10 := NB297_298.out
   have hnc10 := NB298_297.out
   have hcz11_0 : w5.cell? ⟨gb297, 0, none⟩ = some (.int .i64 a0_0) := (blk_cell BK297.out 0).trans rfl
   have hcz11_1 : w5.cell? ⟨gb297, 1, none⟩ = some (.slice A0_1 l0_1.length c0_1) := (blk_cell BK297.out 1).trans rfl
   have hfz11_0 := blk_frozen BK297.out 0
   have hfz11_1 := blk_frozen BK297.out 1
   have hcz12_0 : w5.cell? ⟨gb298, 0, none⟩ = some (.int .i64 a1_0) := (blk_cell BK298.out 0).trans rfl
   have hcz12_1 : w5.cell? ⟨gb298, 1, none⟩ = some (.slice A1_1 l1_1.length c1_1) := (blk_cell BK298.out 1).trans rfl
   have hfz12_0 := blk_frozen BK298.out 0
   have hfz12_1 := blk_frozen BK298.out 1
   go_wp2
   go_meet
   case rel => exact ⟨_, (true), (by first | rfl | (simp; done) | (simp [*]; done)), H', ⟨by first | omega | exact Nat.le_refl _⟩, ⟨by (with_reducible repeat (first | refine blk_drewN ?_ _ | refine blk_drew ?_ | refine blk_alloc ?_ _)); exact BK297.out⟩, ⟨by (with_reducible repeat (first | refine blk_drewN ?_ _ | refine blk_drew ?_ | refine blk_alloc ?_ _)); exact BK298.out⟩, ⟨pb HB⟩⟩
 case rest =>
  clear HC3
  try clear c1
  try clear p2
  try clear c4
  try clear c6
  try clear c6b0
  try clear c6b1
  try clear c7
  try clear c10
  try clear hcz11_0
  try clear hcz11_1
  try clear hcz12_0
  try clear hcz12_1
  try clear hcz8_0
  try clear hcz8_1
  try clear hcz9_0
  try clear hcz9_1
  try clear hfz11_0
  try clear hfz11_1
  try clear hfz12_0
  try clear hfz12_1
  try clear hfz8_0
  try clear hfz8_1
  try clear hfz9_0
  try clear hfz9_1
  obtain ⟨kq, x19_2, rfl, HA, HJ2, BK297, BK298, HB⟩ := hcut
  cases kq with
  | zero => exact absurd HA.out (by simp [downpourref03_Same.j0])
  | succ kj2 =>
   have H := HA.out
   clear HA
   simp only [downpourref03_Same.j0] at H
   by_cases c13 : x19_2 = true
   ·
    subst c13
    have H1 : (some false) = some r := by rw [if_pos rfl] at H; exact H
    clear H
    have H := H1
    clear H1
    obtain rfl := Option.some.inj H
    go_wp2
    go_ret
    exact ⟨by first | rfl | (simp [errW_none, errW_some] <;> rfl) | (simp [*, errW_none, errW_some] <;> rfl), pb HB⟩
   ·
    replace c13 := Bool.eq_false_iff.mpr c13
    subst c13
    have H1 : (downpourref03_Same.l0 kj2 (l0_1.length : Int) 0 a0_0 l0_1 a1_0 l1_1) = some r := by rw [if_neg (show ¬ (false = true) by decide)] at H; exact H
    clear H
    have H := H1
    clear H1
    have H' := Aside0.mk H
    clear H
    have hnb14 := NB297_298.out
    have hnc14 := NB298_297.out
    have hcz15_0 : wc.cell? ⟨gb297, 0, none⟩ = some (.int .i64 a0_0) := (blk_cell BK297.out 0).trans rfl
    have hcz15_1 : wc.cell? ⟨gb297, 1, none⟩ = some (.slice A0_1 l0_1.length c0_1) := (blk_cell BK297.out 1).trans rfl
    have hfz15_0 := blk_frozen BK297.out 0
    have hfz15_1 := blk_frozen BK297.out 1
    go_wp2
    go_loopg [23] kj2 (fun kq v23 w' => ∃ (x23_2 : Int), v23 = .int .i64 x23_2 ∧ Aside0 (downpourref03_Same.l0 kq (l0_1.length : Int) x23_2 a0_0 l0_1 a1_0 l1_1 = some r) ∧ Aside0 (kq ≤ kj2) ∧ Aside0 (w'.heap[gb297]? = some (.cells #[.int .i64 a0_0, (.slice A0_1 l0_1.length c0_1)] 55 (0, 0))) ∧ Aside0 (w'.heap[gb298]? = some (.cells #[.int .i64 a1_0, (.slice A1_1 l1_1.length c1_1)] 55 (0, 0))) ∧ Aside0 (Below w.heap.size w w'))
    case atStart => exact ⟨(0), (by first | rfl | (simp; done) | (simp [*]; done)), H', ⟨Nat.le_refl _⟩, ⟨by (with_reducible repeat (first | refine blk_drewN ?_ _ | refine blk_drew ?_ | refine blk_alloc ?_ _)); exact BK297.out⟩, ⟨by (with_reducible repeat (first | refine blk_drewN ?_ _ | refine blk_drew ?_ | refine blk_alloc ?_ _)); exact BK298.out⟩, ⟨pb HB⟩⟩
    case round =>
     clear H'
     try clear c1
     try clear p2
     try clear c4
     try clear c6
     try clear c6b0
     try clear c6b1
     try clear c7
     try clear c10
     try clear c13
     try clear c14
     try clear hcz11_0
     try clear hcz11_1
     try clear hcz12_0
     try clear hcz12_1
     try clear hcz15_0
     try clear hcz15_1
     try clear hcz8_0
     try clear hcz8_1
     try clear hcz9_0
     try clear hcz9_1
     try clear hfz11_0
     try clear hfz11_1
     try clear hfz12_0
     try clear hfz12_1
     try clear hfz15_0
     try clear hfz15_1
     try clear hfz8_0
     try clear hfz8_1
     try clear hfz9_0
     try clear hfz9_1
     try clear p2
     obtain ⟨x23_2, rfl, HA, HK2, BK297, BK298, HB⟩ := hrel
     cases gk with
     | zero => exact absurd HA.out (by simp [downpourref03_Same.l0])
     | succ k2 =>
      have H := HA.out
      clear HA
      simp only [downpourref03_Same.l0] at H
      by_cases c16 : x23_2 < (l0_1.length : Int)
      ·
       rw [if_pos c16] at H
       have c16b0 : decide (x23_2 < (l0_1.length : Int)) = true := decide_eq_true c16
       clear c16
       by_cases c17 : 0 ≤ x23_2
       ·
        rw [if_pos c17] at H
        have c17b0 : decide (0 ≤ x23_2) = true := decide_eq_true c17
        clear c17
        by_cases c18 : x23_2 < (l0_1.length : Int)
        ·
         rw [if_pos c18] at H
         have c18b0 : decide (x23_2 < (l0_1.length : Int)) = true := decide_eq_true c18
         clear c18
         by_cases c19 : x23_2 < (l1_1.length : Int)
         ·
          rw [if_pos c19] at H
          have c19b0 : decide (x23_2 < (l1_1.length : Int)) = true := decide_eq_true c19
          clear c19
          replace H := Option.bind_eq_some_iff.mp H
          obtain ⟨t301, A200, H⟩ := H
          replace H : (if t301 = true then (downpourref03_Same.l0 k2 (l0_1.length : Int) (wrap64 (x23_2 + 1)) a0_0 l0_1 a1_0 l1_1) else (some false)) = some r := H
          have A20 := Aside0.mk A200
          clear A200
          by_cases c21 : t301 = true
          ·
           subst c21
           have H1 : (downpourref03_Same.l0 k2 (l0_1.length : Int) (wrap64 (x23_2 + 1)) a0_0 l0_1 a1_0 l1_1) = some r := by rw [if_pos rfl] at H; exact H
           clear H
           have H := H1
           clear H1
           have H' := Aside0.mk H
           clear H
           try go_wp2
           have n0_ := am (blk_drew BK297.out)
           have n1_ := am (blk_drew BK298.out)
           have n2_ := am (below_drew1 HB.out)
           clear BK297
           clear BK298
           clear HB
           have BK297 := n0_
           have BK298 := n1_
           have HB := n2_
           clear n0_ n1_ n2_
           have p299 : 0 ≤ (x23_2 : Int) := of_decide_eq_true (by first | (with_reducible assumption) | assumption)
           have q299 : x23_2 < (l0_1.length : Int) := of_decide_eq_true (by first | (with_reducible assumption) | assumption)
           obtain ⟨ad299, A299_1, c299_1, e299, hx299_0, hx299_1, hl299_1, hi299_1⟩ := at_T25 HR0_1.out x23_2 p299 q299
           have hw299_1 := hx299_1
           have hw299_0 := hx299_0
           cases e299
           replace hx299_0 := (HB.out.cell (World.block_lt_of_cell? w _ hx299_0)).trans hx299_0
           replace hx299_1 := (HB.out.cell (World.block_lt_of_cell? w _ hx299_1)).trans hx299_1
           have HR299_1 := Aside0.mk hi299_1
           have HC299_1 := Aside0.mk hl299_1
           clear hi299_1 hl299_1
           replace p299 := eq_true p299
           replace q299 := eq_true q299
           have p300 : 0 ≤ (x23_2 : Int) := of_decide_eq_true (by first | (with_reducible assumption) | assumption)
           have q300 : x23_2 < (l1_1.length : Int) := of_decide_eq_true (by first | (with_reducible assumption) | assumption)
           obtain ⟨ad300, A300_1, c300_1, e300, hx300_0, hx300_1, hl300_1, hi300_1⟩ := at_T25 HR1_1.out x23_2 p300 q300
           have hw300_1 := hx300_1
           have hw300_0 := hx300_0
           cases e300
           replace hx300_0 := (HB.out.cell (World.block_lt_of_cell? w _ hx300_0)).trans hx300_0
           replace hx300_1 := (HB.out.cell (World.block_lt_of_cell? w _ hx300_1)).trans hx300_1
           have HR300_1 := Aside0.mk hi300_1
           have HC300_1 := Aside0.mk hl300_1
           clear hi300_1 hl300_1
           replace p300 := eq_true p300
           replace q300 := eq_true q300
           refine start_ (n := 12) (S := fun w' => w'.cell? ⟨gb297, 0, none⟩ = some (.int .i64 a0_0) ∧ w'.cell? ⟨gb297, 1, none⟩ = some (.slice (some ad299) l0_1.length c0_1) ∧ w'.cell? ⟨gb298, 0, none⟩ = some (.int .i64 a1_0) ∧ w'.cell? ⟨gb298, 1, none⟩ = some (.slice (some ad300) l1_1.length c1_1) ∧ w'.cell? (ad299.add ((x23_2).toNat * 2)) = some (.int .i64 ((rd_T25 l0_1 x23_2).f0)) ∧ w'.cell? ⟨(ad299.add ((x23_2).toNat * 2)).block, (ad299.add ((x23_2).toNat * 2)).off + 1, none⟩ = some (.slice A299_1 ((rd_T25 l0_1 x23_2).f1).length c299_1) ∧ w'.cell? (ad300.add ((x23_2).toNat * 2)) = some (.int .i64 ((rd_T25 l1_1 x23_2).f0)) ∧ w'.cell? ⟨(ad300.add ((x23_2).toNat * 2)).block, (ad300.add ((x23_2).toNat * 2)).off + 1, none⟩ = some (.slice A300_1 ((rd_T25 l1_1 x23_2).f1).length c300_1)) (ds := []) #[F, F, F, F, F, F, F, F, F, F, F, F] (by kernel_rfl) rfl rfl ⟨(blk_cell BK297.out 0).trans rfl, (blk_cell BK297.out 1).trans rfl, (blk_cell BK298.out 0).trans rfl, (blk_cell BK298.out 1).trans rfl, ((HB.out.cell (World.block_lt_of_cell? w _ hw299_0)).trans hw299_0), ((HB.out.cell (World.block_lt_of_cell? w _ hw299_1)).trans hw299_1), ((HB.out.cell (World.block_lt_of_cell? w _ hw300_0)).trans hw300_0), ((HB.out.cell (World.block_lt_of_cell? w _ hw300_1)).trans hw300_1)⟩ (fun hHeld => ?_); refine with_tabW downpourref03_Same.tab6 downpourref03_Same.bits6 (fun HT_ HW_ => ?_)
           generalize wr.drew = w22 at BK297 BK298 HB HR299_1 HR300_1 hx299_0 hx299_1 hx300_0 hx300_1 hHeld ⊢
           refine pure_ (i := 0) (N := some 26) (v := ?_) (a' := ?_) #[T, F, F, F, F, F, F, F, F, F, F, F] rfl rfl (any_of HT_.out (by kernel_rfl)) (fun _ _ _ h => h) (Or.inl ⟨by rfl, ?_⟩) ?_ ?_
           rotate_left
           ·
            intro w'
            go_simp
            with_reducible rfl
           rotate_left
           ·
            simp only [Act.put, q1, q2, q3, i64_w, i32_w]
            rfl
           refine pure_ (i := 2) (N := some 28) (v := ?_) (a' := ?_) #[T, F, T, F, F, F, F, F, F, F, F, F] rfl rfl (any_of HT_.out (by kernel_rfl)) (fun _ _ _ h => h) (Or.inl ⟨by rfl, ?_⟩) ?_ ?_
           rotate_left
           ·
            intro w'
            go_simp
            with_reducible rfl
           rotate_left
           ·
            simp only [Act.put, q1, q2, q3, i64_w, i32_w]
            rfl
           refine pure_ (i := 5) (N := some 31) (v := ?_) (a' := ?_) #[T, F, T, F, F, T, F, F, F, F, F, F] rfl rfl (any_of HT_.out (by kernel_rfl)) (fun _ _ _ h => h) (Or.inl ⟨by rfl, ?_⟩) ?_ ?_
           rotate_left
           ·
            intro w'
            go_simp
            with_reducible rfl
           rotate_left
           ·
            simp only [Act.put, q1, q2, q3, i64_w, i32_w]
            rfl
           refine pure_ (i := 7) (N := some 33) (v := ?_) (a' := ?_) #[T, F, T, F, F, T, F, T, F, F, F, F] rfl rfl (any_of HT_.out (by kernel_rfl)) (fun _ _ _ h => h) (Or.inl ⟨by rfl, ?_⟩) ?_ ?_
           rotate_left
           ·
            intro w'
            go_simp
            with_reducible rfl
           rotate_left
           ·
            simp only [Act.put, q1, q2, q3, i64_w, i32_w]
            rfl
           refine take_ (i := 1) (N := some 27) (v := ?_) (a' := ?_) #[T, T, T, F, F, T, F, T, F, F, F, F] rfl rfl (take_ofW HT_.out HW_.out (by kernel_rfl)) (fun _ _ _ h => h) (Or.inl ⟨by rfl, ?_⟩) hHeld ?_ ?_
           rotate_left
           ·
            rintro w' ⟨s0, s1, s2, s3, s4, s5, s6, s7⟩
            go_simp
            with_reducible rfl
           rotate_left
           ·
            simp only [Act.put, q1, q2, q3, i64_w, i32_w]
            rfl
           refine pure_ (i := 3) (N := some 29) (v := ?_) (a' := ?_) #[T, T, T, T, F, T, F, T, F, F, F, F] rfl rfl (any_of HT_.out (by kernel_rfl)) (fun _ _ _ h => h) (Or.inl ⟨by rfl, ?_⟩) ?_ ?_
           rotate_left
           ·
            intro w'
            go_simp
            with_reducible rfl
           rotate_left
           ·
            simp only [Act.put, q1, q2, q3, i64_w, i32_w]
            rfl
           refine take_ (i := 4) (N := some 30) (v := ?_) (a' := ?_) #[T, T, T, T, T, T, F, T, F, F, F, F] rfl rfl (take_ofW HT_.out HW_.out (by kernel_rfl)) (fun _ _ _ h => h) (Or.inl ⟨by rfl, ?_⟩) hHeld ?_ ?_
           rotate_left
           ·
            rintro w' ⟨s0, s1, s2, s3, s4, s5, s6, s7⟩
            go_simp
            with_reducible rfl
           rotate_left
           ·
            simp only [Act.put, q1, q2, q3, i64_w, i32_w]
            rfl
           refine take_ (i := 6) (N := some 32) (v := ?_) (a' := ?_) #[T, T, T, T, T, T, T, T, F, F, F, F] rfl rfl (take_ofW HT_.out HW_.out (by kernel_rfl)) (fun _ _ _ h => h) (Or.inl ⟨by rfl, ?_⟩) hHeld ?_ ?_
           rotate_left
           ·
            rintro w' ⟨s0, s1, s2, s3, s4, s5, s6, s7⟩
            go_simp
            with_reducible rfl
           rotate_left
           ·
            simp only [Act.put, q1, q2, q3, i64_w, i32_w]
            rfl
           refine pure_ (i := 8) (N := some 34) (v := ?_) (a' := ?_) #[T, T, T, T, T, T, T, T, T, F, F, F] rfl rfl (any_of HT_.out (by kernel_rfl)) (fun _ _ _ h => h) (Or.inl ⟨by rfl, ?_⟩) ?_ ?_
           rotate_left
           ·
            intro w'
            go_simp
            with_reducible rfl
           rotate_left
           ·
            simp only [Act.put, q1, q2, q3, i64_w, i32_w]
            rfl
           refine take_ (i := 9) (N := some 35) (v := ?_) (a' := ?_) #[T, T, T, T, T, T, T, T, T, T, F, F] rfl rfl (take_ofW HT_.out HW_.out (by kernel_rfl)) (fun _ _ _ h => h) (Or.inl ⟨by rfl, ?_⟩) hHeld ?_ ?_
           rotate_left
           ·
            rintro w' ⟨s0, s1, s2, s3, s4, s5, s6, s7⟩
            go_simp
            with_reducible rfl
           rotate_left
           ·
            simp only [Act.put, q1, q2, q3, i64_w, i32_w]
            rfl
           refine one_ (i := 10) (N := some 36) #[T, T, T, T, T, T, T, T, T, T, T, F] rfl rfl (one_of HT_.out (by kernel_rfl)) (by decide) (fun K hK => ?_)
           refine goes_ Tryd.func29 (by kernel_rfl) rfl #[.agg #[.int .i64 ((rd_T25 l0_1 x23_2).f0), .slice A299_1 ((rd_T25 l0_1 x23_2).f1).length c299_1], .agg #[.int .i64 ((rd_T25 l1_1 x23_2).f0), .slice A300_1 ((rd_T25 l1_1 x23_2).f1).length c300_1]] (by rfl) rfl rfl (by (try simp only [List.map_toArray, List.map_cons, List.map_nil]); first | done | rfl | (simp only [List.length_drop, List.length_take]; rfl)) ?_
           with_reducible refine (downpourref01_Same.calls k2 ((rd_T25 l0_1 x23_2).f0) _ _ ((rd_T25 l0_1 x23_2).f1) ((rd_T25 l1_1 x23_2).f0) _ _ ((rd_T25 l1_1 x23_2).f1) true _ ?side1 ?side2 ?side3 ?side4 A20.out).mono ?_
           (case side1 => repeat (first | exact (Kd.C_below HR299_1.out HB.out) | (with_reducible refine Kd.C_alloc ?_ _) | (with_reducible refine Kd.C_drewN ?_ _) | (with_reducible refine Kd.C_drew ?_)))
           (case side2 => exact HC299_1.out)
           (case side3 => repeat (first | exact (Kd.C_below HR300_1.out HB.out) | (with_reducible refine Kd.C_alloc ?_ _) | (with_reducible refine Kd.C_drewN ?_ _) | (with_reducible refine Kd.C_drew ?_)))
           (case side4 => exact HC300_1.out)
           rintro e w23 ⟨rfl, hb⟩
           refine ⟨_, rfl, ?_⟩
           have n0_ := bb BK297 hb
           have n1_ := bb BK298 hb
           have n2_ := am (below_step (pb HB) hb)
           clear BK297
           clear BK298
           clear HB
           have BK297 := n0_
           have BK298 := n1_
           have HB := n2_
           clear n0_ n1_ n2_
           (try clear hb)
           (try clear hb2)
           (try clear hk)
           (try clear hi)
           refine hK.out _ _ ⟨(blk_cell BK297.out 0).trans rfl, (blk_cell BK297.out 1).trans rfl, (blk_cell BK298.out 0).trans rfl, (blk_cell BK298.out 1).trans rfl, ((HB.out.cell (World.block_lt_of_cell? w _ hw299_0)).trans hw299_0), ((HB.out.cell (World.block_lt_of_cell? w _ hw299_1)).trans hw299_1), ((HB.out.cell (World.block_lt_of_cell? w _ hw300_0)).trans hw300_0), ((HB.out.cell (World.block_lt_of_cell? w _ hw300_1)).trans hw300_1)⟩ (fun hHeld => ?_)
           clear hK K
           refine norm_ (a' := ?_) ?_ ?_
           rotate_left
           ·
            show Act.put _ (some 36) _ = _
            simp only [Act.put, q1, q2, q3, i64_w, i32_w]
            rfl
           refine pure_ (i := 11) (N := some 37) (v := ?_) (a' := ?_) #[T, T, T, T, T, T, T, T, T, T, T, T] rfl rfl (any_of HT_.out (by kernel_rfl)) (fun _ _ _ h => h) (Or.inl ⟨by rfl, ?_⟩) ?_ ?_
           rotate_left
           ·
            intro w'
            go_simp
            with_reducible rfl
           rotate_left
           ·
            simp only [Act.put, q1, q2, q3, i64_w, i32_w]
            rfl
           refine done_ (done_of HT_.out (by kernel_rfl)) ?_
           try go_wp2
           go_roundg k2
           case measure => have := HJ2.out; have := HK2.out; omega
           case rel => exact ⟨(wrap64 (x23_2 + 1)), (by first | rfl | (simp; done) | (simp [*]; done)), H', ⟨by have := HJ2.out; have := HK2.out; omega⟩, ⟨by (with_reducible repeat (first | refine blk_drewN ?_ _ | refine blk_drew ?_ | refine blk_alloc ?_ _)); exact BK297.out⟩, ⟨by (with_reducible repeat (first | refine blk_drewN ?_ _ | refine blk_drew ?_ | refine blk_alloc ?_ _)); exact BK298.out⟩, ⟨pb HB⟩⟩
          ·
           replace c21 := Bool.eq_false_iff.mpr c21
           subst c21
           have H1 : (some false) = some r := by rw [if_neg (show ¬ (false = true) by decide)] at H; exact H
           clear H
           have H := H1
           clear H1
           obtain rfl := Option.some.inj H
           try go_wp2
           have n0_ := am (blk_drew BK297.out)
           have n1_ := am (blk_drew BK298.out)
           have n2_ := am (below_drew1 HB.out)
           clear BK297
           clear BK298
           clear HB
           have BK297 := n0_
           have BK298 := n1_
           have HB := n2_
           clear n0_ n1_ n2_
           have p299 : 0 ≤ (x23_2 : Int) := of_decide_eq_true (by first | (with_reducible assumption) | assumption)
           have q299 : x23_2 < (l0_1.length : Int) := of_decide_eq_true (by first | (with_reducible assumption) | assumption)
           obtain ⟨ad299, A299_1, c299_1, e299, hx299_0, hx299_1, hl299_1, hi299_1⟩ := at_T25 HR0_1.out x23_2 p299 q299
           have hw299_1 := hx299_1
           have hw299_0 := hx299_0
           cases e299
           replace hx299_0 := (HB.out.cell (World.block_lt_of_cell? w _ hx299_0)).trans hx299_0
           replace hx299_1 := (HB.out.cell (World.block_lt_of_cell? w _ hx299_1)).trans hx299_1
           have HR299_1 := Aside0.mk hi299_1
           have HC299_1 := Aside0.mk hl299_1
           clear hi299_1 hl299_1
           replace p299 := eq_true p299
           replace q299 := eq_true q299
           have p300 : 0 ≤ (x23_2 : Int) := of_decide_eq_true (by first | (with_reducible assumption) | assumption)
           have q300 : x23_2 < (l1_1.length : Int) := of_decide_eq_true (by first | (with_reducible assumption) | assumption)
           obtain ⟨ad300, A300_1, c300_1, e300, hx300_0, hx300_1, hl300_1, hi300_1⟩ := at_T25 HR1_1.out x23_2 p300 q300
           have hw300_1 := hx300_1
           have hw300_0 := hx300_0
           cases e300
           replace hx300_0 := (HB.out.cell (World.block_lt_of_cell? w _ hx300_0)).trans hx300_0
           replace hx300_1 := (HB.out.cell (World.block_lt_of_cell? w _ hx300_1)).trans hx300_1
           have HR300_1 := Aside0.mk hi300_1
           have HC300_1 := Aside0.mk hl300_1
           clear hi300_1 hl300_1
           replace p300 := eq_true p300
           replace q300 := eq_true q300
           refine start_ (n := 12) (S := fun w' => w'.cell? ⟨gb297, 0, none⟩ = some (.int .i64 a0_0) ∧ w'.cell? ⟨gb297, 1, none⟩ = some (.slice (some ad299) l0_1.length c0_1) ∧ w'.cell? ⟨gb298, 0, none⟩ = some (.int .i64 a1_0) ∧ w'.cell? ⟨gb298, 1, none⟩ = some (.slice (some ad300) l1_1.length c1_1) ∧ w'.cell? (ad299.add ((x23_2).toNat * 2)) = some (.int .i64 ((rd_T25 l0_1 x23_2).f0)) ∧ w'.cell? ⟨(ad299.add ((x23_2).toNat * 2)).block, (ad299.add ((x23_2).toNat * 2)).off + 1, none⟩ = some (.slice A299_1 ((rd_T25 l0_1 x23_2).f1).length c299_1) ∧ w'.cell? (ad300.add ((x23_2).toNat * 2)) = some (.int .i64 ((rd_T25 l1_1 x23_2).f0)) ∧ w'.cell? ⟨(ad300.add ((x23_2).toNat * 2)).block, (ad300.add ((x23_2).toNat * 2)).off + 1, none⟩ = some (.slice A300_1 ((rd_T25 l1_1 x23_2).f1).length c300_1)) (ds := []) #[F, F, F, F, F, F, F, F, F, F, F, F] (by kernel_rfl) rfl rfl ⟨(blk_cell BK297.out 0).trans rfl, (blk_cell BK297.out 1).trans rfl, (blk_cell BK298.out 0).trans rfl, (blk_cell BK298.out 1).trans rfl, ((HB.out.cell (World.block_lt_of_cell? w _ hw299_0)).trans hw299_0), ((HB.out.cell (World.block_lt_of_cell? w _ hw299_1)).trans hw299_1), ((HB.out.cell (World.block_lt_of_cell? w _ hw300_0)).trans hw300_0), ((HB.out.cell (World.block_lt_of_cell? w _ hw300_1)).trans hw300_1)⟩ (fun hHeld => ?_); refine with_tabW downpourref03_Same.tab6 downpourref03_Same.bits6 (fun HT_ HW_ => ?_)
           generalize wr.drew = w24 at BK297 BK298 HB HR299_1 HR300_1 hx299_0 hx299_1 hx300_0 hx300_1 hHeld ⊢
           refine pure_ (i := 0) (N := some 26) (v := ?_) (a' := ?_) #[T, F, F, F, F, F, F, F, F, F, F, F] rfl rfl (any_of HT_.out (by kernel_rfl)) (fun _ _ _ h => h) (Or.inl ⟨by rfl, ?_⟩) ?_ ?_
           rotate_left
           ·
            intro w'
            go_simp
            with_reducible rfl
           rotate_left
           ·
            simp only [Act.put, q1, q2, q3, i64_w, i32_w]
            rfl
           refine pure_ (i := 2) (N := some 28) (v := ?_) (a' := ?_) #[T, F, T, F, F, F, F, F, F, F, F, F] rfl rfl (any_of HT_.out (by kernel_rfl)) (fun _ _ _ h => h) (Or.inl ⟨by rfl, ?_⟩) ?_ ?_
           rotate_left
           ·
            intro w'
            go_simp
            with_reducible rfl
           rotate_left
           ·
            simp only [Act.put, q1, q2, q3, i64_w, i32_w]
            rfl
           refine pure_ (i := 5) (N := some 31) (v := ?_) (a' := ?_) #[T, F, T, F, F, T, F, F, F, F, F, F] rfl rfl (any_of HT_.out (by kernel_rfl)) (fun _ _ _ h => h) (Or.inl ⟨by rfl, ?_⟩) ?_ ?_
           rotate_left
           ·
            intro w'
            go_simp
            with_reducible rfl
           rotate_left
           ·
            simp only [Act.put, q1, q2, q3, i64_w, i32_w]
            rfl
           refine pure_ (i := 7) (N := some 33) (v := ?_) (a' := ?_) #[T, F, T, F, F, T, F, T, F, F, F, F] rfl rfl (any_of HT_.out (by kernel_rfl)) (fun _ _ _ h => h) (Or.inl ⟨by rfl, ?_⟩) ?_ ?_
           rotate_left
           ·
            intro w'
            go_simp
            with_reducible rfl
           rotate_left
           ·
            simp only [Act.put, q1, q2, q3, i64_w, i32_w]
            rfl
           refine take_ (i := 1) (N := some 27) (v := ?_) (a' := ?_) #[T, T, T, F, F, T, F, T, F, F, F, F] rfl rfl (take_ofW HT_.out HW_.out (by kernel_rfl)) (fun _ _ _ h => h) (Or.inl ⟨by rfl, ?_⟩) hHeld ?_ ?_
           rotate_left
           ·
            rintro w' ⟨s0, s1, s2, s3, s4, s5, s6, s7⟩
            go_simp
            with_reducible rfl
           rotate_left
           ·
            simp only [Act.put, q1, q2, q3, i64_w, i32_w]
            rfl
           refine pure_ (i := 3) (N := some 29) (v := ?_) (a' := ?_) #[T, T, T, T, F, T, F, T, F, F, F, F] rfl rfl (any_of HT_.out (by kernel_rfl)) (fun _ _ _ h => h) (Or.inl ⟨by rfl, ?_⟩) ?_ ?_
           rotate_left
           ·
            intro w'
            go_simp
            with_reducible rfl
           rotate_left
           ·
            simp only [Act.put, q1, q2, q3, i64_w, i32_w]
            rfl
           refine take_ (i := 4) (N := some 30) (v := ?_) (a' := ?_) #[T, T, T, T, T, T, F, T, F, F, F, F] rfl rfl (take_ofW HT_.out HW_.out (by kernel_rfl)) (fun _ _ _ h => h) (Or.inl ⟨by rfl, ?_⟩) hHeld ?_ ?_
           rotate_left
           ·
            rintro w' ⟨s0, s1, s2, s3, s4, s5, s6, s7⟩
            go_simp
            with_reducible rfl
           rotate_left
           ·
            simp only [Act.put, q1, q2, q3, i64_w, i32_w]
            rfl
           refine take_ (i := 6) (N := some 32) (v := ?_) (a' := ?_) #[T, T, T, T, T, T, T, T, F, F, F, F] rfl rfl (take_ofW HT_.out HW_.out (by kernel_rfl)) (fun _ _ _ h => h) (Or.inl ⟨by rfl, ?_⟩) hHeld ?_ ?_
           rotate_left
           ·
            rintro w' ⟨s0, s1, s2, s3, s4, s5, s6, s7⟩
            go_simp
            with_reducible rfl
           rotate_left
           ·
            simp only [Act.put, q1, q2, q3, i64_w, i32_w]
            rfl
           refine pure_ (i := 8) (N := some 34) (v := ?_) (a' := ?_) #[T, T, T, T, T, T, T, T, T, F, F, F] rfl rfl (any_of HT_.out (by kernel_rfl)) (fun _ _ _ h => h) (Or.inl ⟨by rfl, ?_⟩) ?_ ?_
           rotate_left
           ·
            intro w'
            go_simp
            with_reducible rfl
           rotate_left
           ·
            simp only [Act.put, q1, q2, q3, i64_w, i32_w]
            rfl
           refine take_ (i := 9) (N := some 35) (v := ?_) (a' := ?_) #[T, T, T, T, T, T, T, T, T, T, F, F] rfl rfl (take_ofW HT_.out HW_.out (by kernel_rfl)) (fun _ _ _ h => h) (Or.inl ⟨by rfl, ?_⟩) hHeld ?_ ?_
           rotate_left
           ·
            rintro w' ⟨s0, s1, s2, s3, s4, s5, s6, s7⟩
            go_simp
            with_reducible rfl
           rotate_left
           ·
            simp only [Act.put, q1, q2, q3, i64_w, i32_w]
            rfl
           refine one_ (i := 10) (N := some 36) #[T, T, T, T, T, T, T, T, T, T, T, F] rfl rfl (one_of HT_.out (by kernel_rfl)) (by decide) (fun K hK => ?_)
           refine goes_ Tryd.func29 (by kernel_rfl) rfl #[.agg #[.int .i64 ((rd_T25 l0_1 x23_2).f0), .slice A299_1 ((rd_T25 l0_1 x23_2).f1).length c299_1], .agg #[.int .i64 ((rd_T25 l1_1 x23_2).f0), .slice A300_1 ((rd_T25 l1_1 x23_2).f1).length c300_1]] (by rfl) rfl rfl (by (try simp only [List.map_toArray, List.map_cons, List.map_nil]); first | done | rfl | (simp only [List.length_drop, List.length_take]; rfl)) ?_
           with_reducible refine (downpourref01_Same.calls k2 ((rd_T25 l0_1 x23_2).f0) _ _ ((rd_T25 l0_1 x23_2).f1) ((rd_T25 l1_1 x23_2).f0) _ _ ((rd_T25 l1_1 x23_2).f1) false _ ?side1 ?side2 ?side3 ?side4 A20.out).mono ?_
           (case side1 => repeat (first | exact (Kd.C_below HR299_1.out HB.out) | (with_reducible refine Kd.C_alloc ?_ _) | (with_reducible refine Kd.C_drewN ?_ _) | (with_reducible refine Kd.C_drew ?_)))
           (case side2 => exact HC299_1.out)
           (case side3 => repeat (first | exact (Kd.C_below HR300_1.out HB.out) | (with_reducible refine Kd.C_alloc ?_ _) | (with_reducible refine Kd.C_drewN ?_ _) | (with_reducible refine Kd.C_drew ?_)))
           (case side4 => exact HC300_1.out)
           rintro e w25 ⟨rfl, hb⟩
           refine ⟨_, rfl, ?_⟩
           have n0_ := bb BK297 hb
           have n1_ := bb BK298 hb
           have n2_ := am (below_step (pb HB) hb)
           clear BK297
           clear BK298
           clear HB
           have BK297 := n0_
           have BK298 := n1_
           have HB := n2_
           clear n0_ n1_ n2_
           (try clear hb)
           (try clear hb2)
           (try clear hk)
           (try clear hi)
           refine hK.out _ _ ⟨(blk_cell BK297.out 0).trans rfl, (blk_cell BK297.out 1).trans rfl, (blk_cell BK298.out 0).trans rfl, (blk_cell BK298.out 1).trans rfl, ((HB.out.cell (World.block_lt_of_cell? w _ hw299_0)).trans hw299_0), ((HB.out.cell (World.block_lt_of_cell? w _ hw299_1)).trans hw299_1), ((HB.out.cell (World.block_lt_of_cell? w _ hw300_0)).trans hw300_0), ((HB.out.cell (World.block_lt_of_cell? w _ hw300_1)).trans hw300_1)⟩ (fun hHeld => ?_)
           clear hK K
           refine norm_ (a' := ?_) ?_ ?_
           rotate_left
           ·
            show Act.put _ (some 36) _ = _
            simp only [Act.put, q1, q2, q3, i64_w, i32_w]
            rfl
           refine pure_ (i := 11) (N := some 37) (v := ?_) (a' := ?_) #[T, T, T, T, T, T, T, T, T, T, T, T] rfl rfl (any_of HT_.out (by kernel_rfl)) (fun _ _ _ h => h) (Or.inl ⟨by rfl, ?_⟩) ?_ ?_
           rotate_left
           ·
            intro w'
            go_simp
            with_reducible rfl
           rotate_left
           ·
            simp only [Act.put, q1, q2, q3, i64_w, i32_w]
            rfl
           refine done_ (done_of HT_.out (by kernel_rfl)) ?_
           try go_wp2
           go_ret
           exact ⟨by first | rfl | (simp [errW_none, errW_some] <;> rfl) | (simp [*, errW_none, errW_some] <;> rfl), pb HB⟩
         ·
          rw [if_neg c19] at H
          exact absurd H (by simp)
        ·
         rw [if_neg c18] at H
         exact absurd H (by simp)
       ·
        rw [if_neg c17] at H
        exact absurd H (by simp)
      ·
       rw [if_neg c16] at H
       have c16b0 : decide (x23_2 < (l0_1.length : Int)) = false := decide_eq_false c16
       clear c16
       obtain rfl := Option.some.inj H
       go_wp2
       go_ret
       exact ⟨by first | rfl | (simp [errW_none, errW_some] <;> rfl) | (simp [*, errW_none, errW_some] <;> rfl), pb HB⟩

/-! ### downpourref02_Texts: function 42 -/
def downpourref02_Texts.l0 : Nat → List ByteArray → List ByteArray → Int → Int → Option (Bool)
 | 0, _, _, _, _ => none
 | k + 1, x0, x1, x12, x13 => if x13 < x12 then (if 0 ≤ x13 then (if x13 < (x0.length : Int) then (if x13 < (x1.length : Int) then (if (rdOf ByteArray.empty x0 x13).toList = (rdOf ByteArray.empty x1 x13).toList then (downpourref02_Texts.l0 k x0 x1 x12 (wrap64 (x13 + 1))) else (some false)) else (none)) else (none)) else (none)) else (some true)
def downpourref02_Texts.f (k : Nat) (l0 : List ByteArray) (l1 : List ByteArray) : Option (Bool) := if (l0.length : Int) = (l1.length : Int) then (downpourref02_Texts.l0 k l0 l1 (l0.length : Int) 0) else (some false)
theorem downpourref02_Texts.mono_l : ∀ k, (∀ y0 y1 y2 y3, LeO (downpourref02_Texts.l0 k y0 y1 y2 y3) (downpourref02_Texts.l0 (k + 1) y0 y1 y2 y3))
 | 0 => fun _ _ _ _ r h => by simp [downpourref02_Texts.l0] at h
 | k + 1 => by
  have ih0 := downpourref02_Texts.mono_l k
  ·
   intro y0 y1 y2 y3
   unfold downpourref02_Texts.l0
   repeat' first
   | (with_reducible exact ih0 _ _ _ _)
   | (with_reducible exact LeO.refl _)
   | (with_reducible exact LeO.none _)
   | (with_reducible refine LeO.ite ?_ ?_)
   | (with_reducible refine LeO.bind ?_ (fun _ => ?_))
   | exact ih0 _ _ _ _
   | exact LeO.none _
   | refine LeO.ite ?_ ?_
   | refine LeO.bind ?_ (fun _ => ?_)
theorem downpourref02_Texts.mono : ∀ a0 a1 k, LeO (downpourref02_Texts.f k a0 a1) (downpourref02_Texts.f (k + 1) a0 a1) := by
 intro a0 a1 k
 have ih0 := downpourref02_Texts.mono_l k
 unfold downpourref02_Texts.f
 repeat' first
   | (with_reducible exact ih0 _ _ _ _)
   | (with_reducible exact LeO.refl _)
   | (with_reducible exact LeO.none _)
   | (with_reducible refine LeO.ite ?_ ?_)
   | (with_reducible refine LeO.bind ?_ (fun _ => ?_))
   | exact ih0 _ _ _ _
   | exact LeO.none _
   | refine LeO.ite ?_ ?_
   | refine LeO.bind ?_ (fun _ => ?_)
set_option maxHeartbeats 8000000 in
set_option maxRecDepth 100000 in
theorem downpourref02_Texts.calls (k : Nat) (A0 : Option Addr) (c0 : Nat) (l0 : List ByteArray) (A1 : Option Addr) (c1 : Nat) (l1 : List ByteArray) (r : Bool) (w : World) (hr0 : Kd.C Kd.string w A0 l0.length l0) (hc0 : l0.length ≤ c0) (hr1 : Kd.C Kd.string w A1 l1.length l1) (hc1 : l1.length ≤ c1) (h : downpourref02_Texts.f k l0 l1 = some r) :
  Calls Tryd.prog 42 #[.slice A0 l0.length c0, .slice A1 l1.length c1] w fun e w' => e = .returned (.bool r) ∧ Drawn0 w w' := by
 have HR0 := Aside0.mk hr0
 have HC0 := Aside0.mk hc0
 clear hr0 hc0
 have HR1 := Aside0.mk hr1
 have HC1 := Aside0.mk hc1
 clear hr1 hc1
 have H : (if (l0.length : Int) = (l1.length : Int) then (downpourref02_Texts.l0 k l0 l1 (l0.length : Int) 0) else (some false)) = some r := h
 clear h
 by_cases c3 : (l0.length : Int) = (l1.length : Int)
 ·
  rw [if_pos c3] at H
  have c3b0 : ((l0.length : Int) == (l1.length : Int)) = true := beq_iff_eq.mpr c3
  have c3b1 : ((l0.length : Int) != (l1.length : Int)) = false := bne_eq_false_iff_eq.mpr c3
  have c3b2 : (l0.length == l1.length) = true := by first | simpa using c3 | (simp at c3 ⊢; omega)
  clear c3
  have H' := Aside0.mk H
  clear H
  go_enter Tryd.func42, Tryd.ntmps42
  go_wp2
  repeat (go_quiet (fail); try go_wp2)
  go_loopg [13] k (fun kq v13 w' => ∃ (x13_1 : Int), v13 = .int .i64 x13_1 ∧ Aside0 (downpourref02_Texts.l0 kq l0 l1 (l0.length : Int) x13_1 = some r) ∧ Aside0 (kq ≤ k) ∧ Drawn0 w w')
  case atStart => exact ⟨(0), (by first | rfl | (simp; done) | (simp [*]; done)), H', ⟨Nat.le_refl _⟩, by repeat (first | exact Drawn0.refl _ | apply Drawn0.step)⟩
  case round =>
   clear H'
   try clear c1
   try clear p2
   try clear c3
   try clear c3b0
   try clear c3b1
   try clear c3b2
   obtain ⟨x13_1, rfl, HA, HK1, ⟨m1, rfl⟩⟩ := hrel
   cases gk with
   | zero => exact absurd HA.out (by simp [downpourref02_Texts.l0])
   | succ k1 =>
    have H := HA.out
    clear HA
    simp only [downpourref02_Texts.l0] at H
    by_cases c4 : x13_1 < (l0.length : Int)
    ·
     rw [if_pos c4] at H
     have c4b0 : decide (x13_1 < (l0.length : Int)) = true := decide_eq_true c4
     clear c4
     by_cases c5 : 0 ≤ x13_1
     ·
      rw [if_pos c5] at H
      have c5b0 : decide (0 ≤ x13_1) = true := decide_eq_true c5
      clear c5
      by_cases c6 : x13_1 < (l0.length : Int)
      ·
       rw [if_pos c6] at H
       have c6b0 : decide (x13_1 < (l0.length : Int)) = true := decide_eq_true c6
       clear c6
       by_cases c7 : x13_1 < (l1.length : Int)
       ·
        rw [if_pos c7] at H
        have c7b0 : decide (x13_1 < (l1.length : Int)) = true := decide_eq_true c7
        clear c7
        by_cases c8 : (rdOf ByteArray.empty l0 x13_1).toList = (rdOf ByteArray.empty l1 x13_1).toList
        ·
         rw [if_pos c8] at H
         have c8b0 : ((rdOf ByteArray.empty l0 x13_1).toList == (rdOf ByteArray.empty l1 x13_1).toList) = true := beq_iff_eq.mpr c8
         have c8b1 : ((rdOf ByteArray.empty l0 x13_1).toList != (rdOf ByteArray.empty l1 x13_1).toList) = false := bne_eq_false_iff_eq.mpr c8
         clear c8
         have H' := Aside0.mk H
         clear H
         have p302 : 0 ≤ (x13_1 : Int) := of_decide_eq_true (by first | (with_reducible assumption) | assumption)
         have q302 : x13_1 < (l0.length : Int) := of_decide_eq_true (by first | (with_reducible assumption) | assumption)
         obtain ⟨ad302, e302, hx302_0⟩ := Kd.at_string HR0.out x13_1 p302 q302
         cases e302
         replace p302 := eq_true p302
         replace q302 := eq_true q302
         have p303 : 0 ≤ (x13_1 : Int) := of_decide_eq_true (by first | (with_reducible assumption) | assumption)
         have q303 : x13_1 < (l1.length : Int) := of_decide_eq_true (by first | (with_reducible assumption) | assumption)
         obtain ⟨ad303, e303, hx303_0⟩ := Kd.at_string HR1.out x13_1 p303 q303
         cases e303
         replace p303 := eq_true p303
         replace q303 := eq_true q303
         go_wp2
         repeat (go_quiet (fail); try go_wp2)
         go_roundg k1
         case measure => have := HK1.out; omega
         case rel => exact ⟨(wrap64 (x13_1 + 1)), (by first | rfl | (simp; done) | (simp [*]; done)), H', ⟨by have := HK1.out; omega⟩, by repeat (first | exact Drawn0.refl _ | apply Drawn0.step)⟩
        ·
         rw [if_neg c8] at H
         have c8b0 : ((rdOf ByteArray.empty l0 x13_1).toList == (rdOf ByteArray.empty l1 x13_1).toList) = false := beq_eq_false_iff_ne.mpr c8
         have c8b1 : ((rdOf ByteArray.empty l0 x13_1).toList != (rdOf ByteArray.empty l1 x13_1).toList) = true := bne_iff_ne.mpr c8
         obtain rfl := Option.some.inj H
         have p302 : 0 ≤ (x13_1 : Int) := of_decide_eq_true (by first | (with_reducible assumption) | assumption)
         have q302 : x13_1 < (l0.length : Int) := of_decide_eq_true (by first | (with_reducible assumption) | assumption)
         obtain ⟨ad302, e302, hx302_0⟩ := Kd.at_string HR0.out x13_1 p302 q302
         cases e302
         replace p302 := eq_true p302
         replace q302 := eq_true q302
         have p303 : 0 ≤ (x13_1 : Int) := of_decide_eq_true (by first | (with_reducible assumption) | assumption)
         have q303 : x13_1 < (l1.length : Int) := of_decide_eq_true (by first | (with_reducible assumption) | assumption)
         obtain ⟨ad303, e303, hx303_0⟩ := Kd.at_string HR1.out x13_1 p303 q303
         cases e303
         replace p303 := eq_true p303
         replace q303 := eq_true q303
         go_wp2
         repeat (go_quiet (fail); try go_wp2)
         go_ret
         exact ⟨by first | rfl | (simp; done) | (simp [*]; done), by repeat (first | exact Drawn0.refl _ | apply Drawn0.step)⟩
       ·
        rw [if_neg c7] at H
        exact absurd H (by simp)
      ·
       rw [if_neg c6] at H
       exact absurd H (by simp)
     ·
      rw [if_neg c5] at H
      exact absurd H (by simp)
    ·
     rw [if_neg c4] at H
     have c4b0 : decide (x13_1 < (l0.length : Int)) = false := decide_eq_false c4
     clear c4
     obtain rfl := Option.some.inj H
     go_wp2
     repeat (go_quiet (fail); try go_wp2)
     go_ret
     exact ⟨by first | rfl | (simp; done) | (simp [*]; done), by repeat (first | exact Drawn0.refl _ | apply Drawn0.step)⟩
 ·
  rw [if_neg c3] at H
  have c3b0 : ((l0.length : Int) == (l1.length : Int)) = false := beq_eq_false_iff_ne.mpr c3
  have c3b1 : ((l0.length : Int) != (l1.length : Int)) = true := bne_iff_ne.mpr c3
  have c3b2 : (l0.length == l1.length) = false := by first | simpa using c3 | (simp at c3 ⊢; omega)
  obtain rfl := Option.some.inj H
  go_enter Tryd.func42, Tryd.ntmps42
  go_wp2
  repeat (go_quiet (fail); try go_wp2)
  go_ret
  exact ⟨by first | rfl | (simp; done) | (simp [*]; done), by repeat (first | exact Drawn0.refl _ | apply Drawn0.step)⟩

/-! ### bitrow_Get: function 22 -/
def bitrow_Get.f (a0_0 : Int) (l0_1 : List Int) (a1 : Int) : Option (Int × Int) := (bitrow_Right.f a0_0 l0_1).bind fun t305 => (if t305 = true then (if a1 < 0 then (some (0, 3)) else (if a1 ≥ a0_0 then (some (0, 3)) else (if 0 ≤ (wrap64 (Int.tdiv a1 64)) then (if (wrap64 (Int.tdiv a1 64)) < (l0_1.length : Int) then (if 0 ≤ (Int.tmod a1 64) then (some (wrap64 (Go.bits .and .u64 (shr .u64 (rd l0_1 (wrap64 (Int.tdiv a1 64))) (Int.tmod a1 64)) 1), 0)) else (none)) else (none)) else (none)))) else (some (0, 1)))
set_option maxHeartbeats 8000000 in
set_option maxRecDepth 100000 in
theorem bitrow_Get.calls (a0_0 : Int) (A0_1 : Option Addr) (c0_1 : Nat) (l0_1 : List Int) (a1 : Int) (r1 : Int) (r2 : Int) (w : World) (hr0_1 : Kd.C (Kd.int .u64) w A0_1 l0_1.length l0_1) (hc0_1 : l0_1.length ≤ c0_1) (h : bitrow_Get.f a0_0 l0_1 a1 = some (r1, r2)) :
  Calls Tryd.prog 22 #[.agg #[.int .i64 a0_0, .slice A0_1 l0_1.length c0_1], .int .i64 a1] w fun e w' => e = .returned (.tuple #[.int .i64 r1, .int .i64 r2]) ∧ Below w.heap.size w w' := by
 have hu25 := Tryd.underlying25
 have HR0_1 := Aside0.mk hr0_1
 have HC0_1 := Aside0.mk hc0_1
 clear hr0_1 hc0_1
 have HB := am (Below.refl w.heap.size w)
 have H : ((bitrow_Right.f a0_0 l0_1).bind fun t305 => (if t305 = true then (if a1 < 0 then (some (0, 3)) else (if a1 ≥ a0_0 then (some (0, 3)) else (if 0 ≤ (wrap64 (Int.tdiv a1 64)) then (if (wrap64 (Int.tdiv a1 64)) < (l0_1.length : Int) then (if 0 ≤ (Int.tmod a1 64) then (some (wrap64 (Go.bits .and .u64 (shr .u64 (rd l0_1 (wrap64 (Int.tdiv a1 64))) (Int.tmod a1 64)) 1), 0)) else (none)) else (none)) else (none)))) else (some (0, 1)))) = some (r1, r2) := h
 clear h
 replace H := Option.bind_eq_some_iff.mp H
 obtain ⟨t305, A30, H⟩ := H
 replace H : (if t305 = true then (if a1 < 0 then (some (0, 3)) else (if a1 ≥ a0_0 then (some (0, 3)) else (if 0 ≤ (wrap64 (Int.tdiv a1 64)) then (if (wrap64 (Int.tdiv a1 64)) < (l0_1.length : Int) then (if 0 ≤ (Int.tmod a1 64) then (some (wrap64 (Go.bits .and .u64 (shr .u64 (rd l0_1 (wrap64 (Int.tdiv a1 64))) (Int.tmod a1 64)) 1), 0)) else (none)) else (none)) else (none)))) else (some (0, 1))) = some (r1, r2) := H
 have A3 := Aside0.mk A30
 clear A30
 by_cases c4 : t305 = true
 ·
  subst c4
  have H1 : (if a1 < 0 then (some (0, 3)) else (if a1 ≥ a0_0 then (some (0, 3)) else (if 0 ≤ (wrap64 (Int.tdiv a1 64)) then (if (wrap64 (Int.tdiv a1 64)) < (l0_1.length : Int) then (if 0 ≤ (Int.tmod a1 64) then (some (wrap64 (Go.bits .and .u64 (shr .u64 (rd l0_1 (wrap64 (Int.tdiv a1 64))) (Int.tmod a1 64)) 1), 0)) else (none)) else (none)) else (none)))) = some (r1, r2) := by rw [if_pos rfl] at H; exact H
  clear H
  have H := H1
  clear H1
  by_cases c5 : a1 < 0
  ·
   rw [if_pos c5] at H
   have c5b0 : decide (a1 < 0) = true := decide_eq_true c5
   clear c5
   simp only [Option.some.injEq, Prod.mk.injEq] at H
   obtain ⟨rfl, rfl⟩ := H
   go_enter Tryd.func22, Tryd.ntmps22
   go_wp2_with (first | ((with_reducible refine gate_dst (N := 2) rfl ?_); refine box_event ?hg (N := 2) ?hd (cs := #[.int .i64 a0_0, .slice A0_1 l0_1.length c0_1]) (t := 25) ?hr ?_; (case hd => rfl); (case hg => rfl); (case hr => first | (go_simp; done) | (go_simp; rfl)); intro gb304 hg w6 hbox hb; have n0_ := am (below_step (pb HB) hb); have n1_ := am (hbox); have n2_ := am ((by rw [hg]; exact (below_size (pb HB)) : w.heap.size ≤ gb304)); have n3_ := am ((by rw [hg]; exact (below_size (pb HB)) : w.heap.size ≤ gb304)); clear HB; have HB := n0_; have BK304 := n1_; have GW304 := n2_; have GE304 := n3_; clear n0_ n1_ n2_ n3_ hb hbox hg; have hcz7_0 : w6.cell? ⟨gb304, 0, none⟩ = some (.int .i64 a0_0) := (blk_cell BK304.out 0).trans rfl; have hcz7_1 : w6.cell? ⟨gb304, 1, none⟩ = some (.slice A0_1 l0_1.length c0_1) := (blk_cell BK304.out 1).trans rfl; have hfz7_0 := blk_frozen BK304.out 0; have hfz7_1 := blk_frozen BK304.out 1) | ((with_reducible refine gate_callee (f := 31) rfl ?_); refine goesL_ (some 8) rfl rfl Tryd.func31 (by kernel_rfl) rfl #[.agg #[.int .i64 a0_0, .slice A0_1 l0_1.length c0_1]] rfl (by (try simp only [List.map_toArray, List.map_cons, List.map_nil]); first | done | rfl | (simp only [List.length_drop, List.length_take]; rfl)) ?_; (with_reducible refine (bitrow_Right.calls a0_0 _ _ l0_1 true _ ?side1 ?side2 A3.out).mono ?_); (case side1 => repeat (first | exact (Kd.C_below HR0_1.out HB.out) | (with_reducible refine Kd.C_alloc ?_ _) | (with_reducible refine Kd.C_drewN ?_ _) | (with_reducible refine Kd.C_drew ?_))); (case side2 => exact HC0_1.out); rintro e w8 ⟨rfl, hb⟩; refine ⟨_, rfl, ?_⟩; have n0_ := bb BK304 hb; have n1_ := am (below_step (pb HB) hb); clear BK304 HB; have BK304 := n0_; have HB := n1_; clear n0_ n1_; (try clear hb); (try clear hb2); (try clear hk); (try clear hi)))
   go_ret2
   exact ⟨by first | rfl | (simp [errW_none, errW_some] <;> rfl) | (simp [*, errW_none, errW_some] <;> rfl), pb HB⟩
  ·
   rw [if_neg c5] at H
   have c5b0 : decide (a1 < 0) = false := decide_eq_false c5
   clear c5
   by_cases c9 : a1 ≥ a0_0
   ·
    rw [if_pos c9] at H
    have c9b0 : decide (a0_0 ≤ a1) = true := decide_eq_true c9
    clear c9
    simp only [Option.some.injEq, Prod.mk.injEq] at H
    obtain ⟨rfl, rfl⟩ := H
    go_enter Tryd.func22, Tryd.ntmps22
    go_wp2_with (first | ((with_reducible refine gate_dst (N := 2) rfl ?_); refine box_event ?hg (N := 2) ?hd (cs := #[.int .i64 a0_0, .slice A0_1 l0_1.length c0_1]) (t := 25) ?hr ?_; (case hd => rfl); (case hg => rfl); (case hr => first | (go_simp; done) | (go_simp; rfl)); intro gb304 hg w10 hbox hb; have n0_ := am (below_step (pb HB) hb); have n1_ := am (hbox); have n2_ := am ((by rw [hg]; exact (below_size (pb HB)) : w.heap.size ≤ gb304)); have n3_ := am ((by rw [hg]; exact (below_size (pb HB)) : w.heap.size ≤ gb304)); clear HB; have HB := n0_; have BK304 := n1_; have GW304 := n2_; have GE304 := n3_; clear n0_ n1_ n2_ n3_ hb hbox hg; have hcz11_0 : w10.cell? ⟨gb304, 0, none⟩ = some (.int .i64 a0_0) := (blk_cell BK304.out 0).trans rfl; have hcz11_1 : w10.cell? ⟨gb304, 1, none⟩ = some (.slice A0_1 l0_1.length c0_1) := (blk_cell BK304.out 1).trans rfl; have hfz11_0 := blk_frozen BK304.out 0; have hfz11_1 := blk_frozen BK304.out 1) | ((with_reducible refine gate_callee (f := 31) rfl ?_); refine goesL_ (some 8) rfl rfl Tryd.func31 (by kernel_rfl) rfl #[.agg #[.int .i64 a0_0, .slice A0_1 l0_1.length c0_1]] rfl (by (try simp only [List.map_toArray, List.map_cons, List.map_nil]); first | done | rfl | (simp only [List.length_drop, List.length_take]; rfl)) ?_; (with_reducible refine (bitrow_Right.calls a0_0 _ _ l0_1 true _ ?side1 ?side2 A3.out).mono ?_); (case side1 => repeat (first | exact (Kd.C_below HR0_1.out HB.out) | (with_reducible refine Kd.C_alloc ?_ _) | (with_reducible refine Kd.C_drewN ?_ _) | (with_reducible refine Kd.C_drew ?_))); (case side2 => exact HC0_1.out); rintro e w12 ⟨rfl, hb⟩; refine ⟨_, rfl, ?_⟩; have n0_ := bb BK304 hb; have n1_ := am (below_step (pb HB) hb); clear BK304 HB; have BK304 := n0_; have HB := n1_; clear n0_ n1_; (try clear hb); (try clear hb2); (try clear hk); (try clear hi); have hcz13_0 : w12.cell? ⟨gb304, 0, none⟩ = some (.int .i64 a0_0) := (blk_cell BK304.out 0).trans rfl; have hcz13_1 : w12.cell? ⟨gb304, 1, none⟩ = some (.slice A0_1 l0_1.length c0_1) := (blk_cell BK304.out 1).trans rfl; have hfz13_0 := blk_frozen BK304.out 0; have hfz13_1 := blk_frozen BK304.out 1))
    go_ret2
    exact ⟨by first | rfl | (simp [errW_none, errW_some] <;> rfl) | (simp [*, errW_none, errW_some] <;> rfl), pb HB⟩
   ·
    rw [if_neg c9] at H
    have c9b0 : decide (a0_0 ≤ a1) = false := decide_eq_false c9
    clear c9
    obtain ⟨ji14, hji14⟩ : ∃ j_ : Int, (wrap64 (Int.tdiv a1 64)) = j_ := ⟨_, rfl⟩
    replace H : (if 0 ≤ (ji14) then (if (ji14) < (l0_1.length : Int) then (if 0 ≤ (Int.tmod a1 64) then (some (wrap64 (Go.bits .and .u64 (shr .u64 (rd l0_1 (ji14)) (Int.tmod a1 64)) 1), 0)) else (none)) else (none)) else (none)) = some (r1, r2) := by first | (rw [hji14] at H; exact H) | (simp only [hji14] at H ⊢; exact H)
    (try rw [hji14] at A3)
    have hji14w : (IntKind.i64.wrap (Int.tdiv a1 64)) = ji14 := (i64_w _).trans hji14
    by_cases c15 : 0 ≤ (ji14)
    ·
     rw [if_pos c15] at H
     have c15b0 : decide (0 ≤ (ji14)) = true := decide_eq_true c15
     clear c15
     by_cases c16 : (ji14) < (l0_1.length : Int)
     ·
      rw [if_pos c16] at H
      have c16b0 : decide ((ji14) < (l0_1.length : Int)) = true := decide_eq_true c16
      clear c16
      obtain ⟨ji17, hji17⟩ : ∃ j_ : Int, (Int.tmod a1 64) = j_ := ⟨_, rfl⟩
      replace H : (if 0 ≤ (ji17) then (some (wrap64 (Go.bits .and .u64 (shr .u64 (rd l0_1 (ji14)) (ji17)) 1), 0)) else (none)) = some (r1, r2) := by first | (rw [hji17] at H; exact H) | (simp only [hji17] at H ⊢; exact H)
      (try rw [hji17] at A3)
      by_cases c18 : 0 ≤ (ji17)
      ·
       rw [if_pos c18] at H
       have c18b0 := eq_true c18
       have c18b1 : decide (0 ≤ (ji17)) = true := decide_eq_true c18
       clear c18
       obtain ⟨ji19, hji19⟩ : ∃ j_ : Int, (shr .u64 (rd l0_1 (ji14)) (ji17)) = j_ := ⟨_, rfl⟩
       replace H : (some (wrap64 (Go.bits .and .u64 (ji19) 1), 0)) = some (r1, r2) := by first | (rw [hji19] at H; exact H) | (simp only [hji19] at H ⊢; exact H)
       (try rw [hji19] at A3)
       have hji19_ : ((rd l0_1 (ji14)) / 2 ^ min (ji17).toNat 64) = ji19 := hji19
       have hji19z : (ji17) ≤ 64 → ((rd l0_1 (ji14)) / 2 ^ (ji17).toNat) = ji19 := shr_small hji19
       simp only [Option.some.injEq, Prod.mk.injEq] at H
       obtain ⟨rfl, rfl⟩ := H
       go_enter Tryd.func22, Tryd.ntmps22
       go_wp2_with (first | ((with_reducible refine gate_dst (N := 2) rfl ?_); refine box_event ?hg (N := 2) ?hd (cs := #[.int .i64 a0_0, .slice A0_1 l0_1.length c0_1]) (t := 25) ?hr ?_; (case hd => rfl); (case hg => rfl); (case hr => first | (go_simp; done) | (go_simp; rfl)); intro gb304 hg w20 hbox hb; have n0_ := am (below_step (pb HB) hb); have n1_ := am (hbox); have n2_ := am ((by rw [hg]; exact (below_size (pb HB)) : w.heap.size ≤ gb304)); have n3_ := am ((by rw [hg]; exact (below_size (pb HB)) : w.heap.size ≤ gb304)); clear HB; have HB := n0_; have BK304 := n1_; have GW304 := n2_; have GE304 := n3_; clear n0_ n1_ n2_ n3_ hb hbox hg; have hcz21_0 : w20.cell? ⟨gb304, 0, none⟩ = some (.int .i64 a0_0) := (blk_cell BK304.out 0).trans rfl; have hcz21_1 : w20.cell? ⟨gb304, 1, none⟩ = some (.slice A0_1 l0_1.length c0_1) := (blk_cell BK304.out 1).trans rfl; have hfz21_0 := blk_frozen BK304.out 0; have hfz21_1 := blk_frozen BK304.out 1) | ((with_reducible refine gate_callee (f := 31) rfl ?_); refine goesL_ (some 8) rfl rfl Tryd.func31 (by kernel_rfl) rfl #[.agg #[.int .i64 a0_0, .slice A0_1 l0_1.length c0_1]] rfl (by (try simp only [List.map_toArray, List.map_cons, List.map_nil]); first | done | rfl | (simp only [List.length_drop, List.length_take]; rfl)) ?_; (with_reducible refine (bitrow_Right.calls a0_0 _ _ l0_1 true _ ?side1 ?side2 A3.out).mono ?_); (case side1 => repeat (first | exact (Kd.C_below HR0_1.out HB.out) | (with_reducible refine Kd.C_alloc ?_ _) | (with_reducible refine Kd.C_drewN ?_ _) | (with_reducible refine Kd.C_drew ?_))); (case side2 => exact HC0_1.out); rintro e w22 ⟨rfl, hb⟩; refine ⟨_, rfl, ?_⟩; have n0_ := bb BK304 hb; have n1_ := am (below_step (pb HB) hb); clear BK304 HB; have BK304 := n0_; have HB := n1_; clear n0_ n1_; (try clear hb); (try clear hb2); (try clear hk); (try clear hi); have hcz23_0 : w22.cell? ⟨gb304, 0, none⟩ = some (.int .i64 a0_0) := (blk_cell BK304.out 0).trans rfl; have hcz23_1 : w22.cell? ⟨gb304, 1, none⟩ = some (.slice A0_1 l0_1.length c0_1) := (blk_cell BK304.out 1).trans rfl; have hfz23_0 := blk_frozen BK304.out 0; have hfz23_1 := blk_frozen BK304.out 1; have p306 : 0 ≤ ((ji14) : Int) := of_decide_eq_true (by first | (with_reducible assumption) | assumption); have q306 : (ji14) < (l0_1.length : Int) := of_decide_eq_true (by first | (with_reducible assumption) | assumption); obtain ⟨ad306, e306, hx306_0⟩ := Kd.at_int HR0_1.out (ji14) p306 q306; cases e306; replace hx306_0 := (HB.out.cell (World.block_lt_of_cell? w _ hx306_0)).trans hx306_0; replace p306 := eq_true p306; replace q306 := eq_true q306))
       go_ret2
       exact ⟨by first | rfl | (simp [errW_none, errW_some] <;> rfl) | (simp only [← hji14, ← hji17, ← hji19]; first | rfl | (simp [errW_none, errW_some] <;> rfl)) | (simp [*, errW_none, errW_some] <;> rfl), pb HB⟩
      ·
       rw [if_neg c18] at H
       exact absurd H (by simp)
     ·
      rw [if_neg c16] at H
      exact absurd H (by simp)
    ·
     rw [if_neg c15] at H
     exact absurd H (by simp)
 ·
  replace c4 := Bool.eq_false_iff.mpr c4
  subst c4
  have H1 : (some (0, 1)) = some (r1, r2) := by rw [if_neg (show ¬ (false = true) by decide)] at H; exact H
  clear H
  have H := H1
  clear H1
  simp only [Option.some.injEq, Prod.mk.injEq] at H
  obtain ⟨rfl, rfl⟩ := H
  go_enter Tryd.func22, Tryd.ntmps22
  go_wp2_with (first | ((with_reducible refine gate_dst (N := 2) rfl ?_); refine box_event ?hg (N := 2) ?hd (cs := #[.int .i64 a0_0, .slice A0_1 l0_1.length c0_1]) (t := 25) ?hr ?_; (case hd => rfl); (case hg => rfl); (case hr => first | (go_simp; done) | (go_simp; rfl)); intro gb304 hg w24 hbox hb; have n0_ := am (below_step (pb HB) hb); have n1_ := am (hbox); have n2_ := am ((by rw [hg]; exact (below_size (pb HB)) : w.heap.size ≤ gb304)); have n3_ := am ((by rw [hg]; exact (below_size (pb HB)) : w.heap.size ≤ gb304)); clear HB; have HB := n0_; have BK304 := n1_; have GW304 := n2_; have GE304 := n3_; clear n0_ n1_ n2_ n3_ hb hbox hg; have hcz25_0 : w24.cell? ⟨gb304, 0, none⟩ = some (.int .i64 a0_0) := (blk_cell BK304.out 0).trans rfl; have hcz25_1 : w24.cell? ⟨gb304, 1, none⟩ = some (.slice A0_1 l0_1.length c0_1) := (blk_cell BK304.out 1).trans rfl; have hfz25_0 := blk_frozen BK304.out 0; have hfz25_1 := blk_frozen BK304.out 1) | ((with_reducible refine gate_callee (f := 31) rfl ?_); refine goesL_ (some 8) rfl rfl Tryd.func31 (by kernel_rfl) rfl #[.agg #[.int .i64 a0_0, .slice A0_1 l0_1.length c0_1]] rfl (by (try simp only [List.map_toArray, List.map_cons, List.map_nil]); first | done | rfl | (simp only [List.length_drop, List.length_take]; rfl)) ?_; (with_reducible refine (bitrow_Right.calls a0_0 _ _ l0_1 false _ ?side1 ?side2 A3.out).mono ?_); (case side1 => repeat (first | exact (Kd.C_below HR0_1.out HB.out) | (with_reducible refine Kd.C_alloc ?_ _) | (with_reducible refine Kd.C_drewN ?_ _) | (with_reducible refine Kd.C_drew ?_))); (case side2 => exact HC0_1.out); rintro e w26 ⟨rfl, hb⟩; refine ⟨_, rfl, ?_⟩; have n0_ := bb BK304 hb; have n1_ := am (below_step (pb HB) hb); clear BK304 HB; have BK304 := n0_; have HB := n1_; clear n0_ n1_; (try clear hb); (try clear hb2); (try clear hk); (try clear hi)))
  go_ret2
  exact ⟨by first | rfl | (simp [errW_none, errW_some] <;> rfl) | (simp [*, errW_none, errW_some] <;> rfl), pb HB⟩

end Go.Proofs.YtfcedhejbnoinaaDoor.PR
