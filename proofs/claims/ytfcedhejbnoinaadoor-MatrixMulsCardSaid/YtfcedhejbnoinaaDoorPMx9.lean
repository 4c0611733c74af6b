-- PRINTED by print.py (a twelfth state) out of the translation. Not trusted: Lean checks it.
import Derived.Test.YtfcedhejbnoinaaDoorPMx0
import Derived.Test.YtfcedhejbnoinaaDoorPMx7
import Derived.Test.YtfcedhejbnoinaaDoorPMx8
namespace Go.Proofs.YtfcedhejbnoinaaDoor.PM
open Go.RowKit Go.Proofs.YtfcedhejbnoinaaDoorW.PrintWords Go.Proofs.YtfcedhejbnoinaaDoorW.PrintLast Go.Proofs.YtfcedhejbnoinaaDoorW.PrintMore
open Bool renaming true → T, false → F
open List renaming setIfInBounds_toArray → q1, set_cons_zero → q2, set_cons_succ → q3
attribute [local go_sem] run_store_func max2_int min2_int max_two min_two max_three min_three max_four min_four   -- for this text's walks alone
set_option linter.unusedVariables false
set_option linter.unusedSimpArgs false

/-! ### downpourref03_Same: function 40 -/
mutual
def downpourref03_Same.j0 : Nat → Bool → Int → List (S25) → Int → List (S25) → Option (Bool)
 | 0, _, _, _, _, _ => none
 | k + 1, x19, x308000, x308001, x309000, x309001 => if x19 = true then (some false) else (downpourref03_Same.l0 k (x308001.length : Int) 0 x308000 x308001 x309000 x309001)
def downpourref03_Same.l0 : Nat → Int → Int → Int → List (S25) → Int → List (S25) → Option (Bool)
 | 0, _, _, _, _, _, _ => none
 | k + 1, x22, x23, x308000, x308001, x309000, x309001 => if x23 < x22 then (if 0 ≤ x23 then (if x23 < (x308001.length : Int) then (if x23 < (x309001.length : Int) then ((downpourref01_Same.f k ((rd_T25 x308001 x23).f0) ((rd_T25 x308001 x23).f1) ((rd_T25 x309001 x23).f0) ((rd_T25 x309001 x23).f1)).bind fun t311 => (if t311 = true then (downpourref03_Same.l0 k x22 (wrap64 (x23 + 1)) x308000 x308001 x309000 x309001) else (some false))) else (none)) else (none)) else (none)) else (some true)
end
def downpourref03_Same.f (k : Nat) (a0_0 : Int) (l0_1 : List (S25)) (a1_0 : Int) (l1_1 : List (S25)) : Option (Bool) := if a0_0 = a1_0 then (downpourref03_Same.j0 k ((l0_1.length : Int) != (l1_1.length : Int)) a0_0 l0_1 a1_0 l1_1) else (downpourref03_Same.j0 k true a0_0 l0_1 a1_0 l1_1)
theorem downpourref03_Same.mono_l : ∀ k, (∀ y0 y1 y2 y3 y4, LeO (downpourref03_Same.j0 k y0 y1 y2 y3 y4) (downpourref03_Same.j0 (k + 1) y0 y1 y2 y3 y4)) ∧ (∀ y0 y1 y2 y3 y4 y5, LeO (downpourref03_Same.l0 k y0 y1 y2 y3 y4 y5) (downpourref03_Same.l0 (k + 1) y0 y1 y2 y3 y4 y5))
 | 0 => ⟨fun _ _ _ _ _ r h => by simp [downpourref03_Same.j0] at h, fun _ _ _ _ _ _ r h => by simp [downpourref03_Same.l0] at h⟩
 | k + 1 => by
  obtain ⟨ih0, ih1⟩ := downpourref03_Same.mono_l k
  refine ⟨?_, ?_⟩
  ·
   intro y0 y1 y2 y3 y4
   unfold downpourref03_Same.j0
   repeat' first
   | (with_reducible exact ih0 _ _ _ _ _)
   | (with_reducible exact ih1 _ _ _ _ _ _)
   | (with_reducible exact downpourref01_Same.mono _ _ _ _ _)
   | (with_reducible exact LeO.refl _)
   | (with_reducible exact LeO.none _)
   | (with_reducible refine LeO.ite ?_ ?_)
   | (with_reducible refine LeO.bind ?_ (fun _ => ?_))
   | exact ih0 _ _ _ _ _
   | exact ih1 _ _ _ _ _ _
   | exact downpourref01_Same.mono _ _ _ _ _
   | exact LeO.none _
   | refine LeO.ite ?_ ?_
   | refine LeO.bind ?_ (fun _ => ?_)
  ·
   intro y0 y1 y2 y3 y4 y5
   unfold downpourref03_Same.l0
   repeat' first
   | (with_reducible exact ih0 _ _ _ _ _)
   | (with_reducible exact ih1 _ _ _ _ _ _)
   | (with_reducible exact downpourref01_Same.mono _ _ _ _ _)
   | (with_reducible exact LeO.refl _)
   | (with_reducible exact LeO.none _)
   | (with_reducible refine LeO.ite ?_ ?_)
   | (with_reducible refine LeO.bind ?_ (fun _ => ?_))
   | exact ih0 _ _ _ _ _
   | exact ih1 _ _ _ _ _ _
   | exact downpourref01_Same.mono _ _ _ _ _
   | exact LeO.none _
   | refine LeO.ite ?_ ?_
   | refine LeO.bind ?_ (fun _ => ?_)
theorem downpourref03_Same.mono : ∀ a0 a1 a2 a3 k, LeO (downpourref03_Same.f k a0 a1 a2 a3) (downpourref03_Same.f (k + 1) a0 a1 a2 a3) := by
 intro a0 a1 a2 a3 k
 obtain ⟨ih0, ih1⟩ := downpourref03_Same.mono_l k
 unfold downpourref03_Same.f
 repeat' first
   | (with_reducible exact ih0 _ _ _ _ _)
   | (with_reducible exact ih1 _ _ _ _ _ _)
   | (with_reducible exact downpourref01_Same.mono _ _ _ _ _)
   | (with_reducible exact LeO.refl _)
   | (with_reducible exact LeO.none _)
   | (with_reducible refine LeO.ite ?_ ?_)
   | (with_reducible refine LeO.bind ?_ (fun _ => ?_))
   | exact ih0 _ _ _ _ _
   | exact ih1 _ _ _ _ _ _
   | exact downpourref01_Same.mono _ _ _ _ _
   | exact LeO.none _
   | refine LeO.ite ?_ ?_
   | refine LeO.bind ?_ (fun _ => ?_)
def downpourref03_Same.T6 : Bool × List (List Nat × List Nat) := (true, [([], []), ([0], [0]), ([], []), ([1, 2], [1, 2]), ([3], [3]), ([], []), ([5], [5]), ([], []), ([6, 7], [6, 7]), ([8], [8]), ([4, 9], [4, 9]), ([10], [10])])
def downpourref03_Same.B6 : List Nat := [0, 1, 0, 7, 15, 0, 32, 0, 224, 480, 1023, 2047]
theorem downpourref03_Same.tab6 : rtab .any (opsOf Tryd.f40 6) = downpourref03_Same.T6 := by kernel_rfl
theorem downpourref03_Same.bits6 : waitsOk downpourref03_Same.T6.2 downpourref03_Same.B6 = true := by kernel_rfl
set_option maxHeartbeats 8000000 in
set_option maxRecDepth 100000 in
theorem downpourref03_Same.calls (k : Nat) (a0_0 : Int) (A0_1 : Option Addr) (c0_1 : Nat) (l0_1 : List (S25)) (a1_0 : Int) (A1_1 : Option Addr) (c1_1 : Nat) (l1_1 : List (S25)) (r : Bool) (w : World) (hr0_1 : Kd.C k25 w A0_1 l0_1.length l0_1) (hc0_1 : l0_1.length ≤ c0_1) (hr1_1 : Kd.C k25 w A1_1 l1_1.length l1_1) (hc1_1 : l1_1.length ≤ c1_1) (h : downpourref03_Same.f k a0_0 l0_1 a1_0 l1_1 = some r) :
  Calls Tryd.prog 40 #[.agg #[.int .i64 a0_0, .slice A0_1 l0_1.length c0_1], .agg #[.int .i64 a1_0, .slice A1_1 l1_1.length c1_1]] w fun e w' => e = .returned (.bool r) ∧ Below w.heap.size w w' := by
 have hu55 := Tryd.underlying55
 have hu25 := Tryd.underlying25
 have HR0_1 := Aside0.mk hr0_1
 have HC0_1 := Aside0.mk hc0_1
 clear hr0_1 hc0_1
 have HR1_1 := Aside0.mk hr1_1
 have HC1_1 := Aside0.mk hc1_1
 clear hr1_1 hc1_1
 have HB := am (Below.refl w.heap.size w)
 have H : (if a0_0 = a1_0 then (downpourref03_Same.j0 k ((l0_1.length : Int) != (l1_1.length : Int)) a0_0 l0_1 a1_0 l1_1) else (downpourref03_Same.j0 k true a0_0 l0_1 a1_0 l1_1)) = some r := h
 clear h
 have HC3 := Aside0.mk H
 clear H
 go_enter Tryd.func40, Tryd.ntmps40
 go_upto_region 1 with (first | ((with_reducible refine gate_dst (N := 2) rfl ?_); (try (refine gate_guard (by rfl) ?_; dsimp only)); refine box_event ?hg (N := 2) ?hd (cs := #[.int .i64 a0_0, .slice A0_1 l0_1.length c0_1]) (t := 55) ?hr ?_; (case hd => rfl); (case hg => rfl); (case hr => first | (go_simp; done) | (go_simp; rfl)); intro gb307 hg w4 hbox hb; have n0_ := am (below_step (pb HB) hb); have n1_ := am (hbox); have n2_ := am ((by rw [hg]; exact (below_size (pb HB)) : w.heap.size ≤ gb307)); have n3_ := am ((by rw [hg]; exact (below_size (pb HB)) : w.heap.size ≤ gb307)); clear HB; have HB := n0_; have BK307 := n1_; have GW307 := n2_; have GE307 := n3_; clear n0_ n1_ n2_ n3_ hb hbox hg) | ((with_reducible refine gate_dst (N := 3) rfl ?_); (try (refine gate_guard (by rfl) ?_; dsimp only)); refine box_event ?hg (N := 3) ?hd (cs := #[.int .i64 a1_0, .slice A1_1 l1_1.length c1_1]) (t := 55) ?hr ?_; (case hd => rfl); (case hg => rfl); (case hr => first | (go_simp; done) | (go_simp; rfl)); intro gb308 hg w5 hbox hb; have n0_ := bb BK307 hb; have n1_ := am (below_step (pb HB) hb); have n2_ := am (hbox); have n3_ := am ((by rw [hg]; exact (below_size (pb HB)) : w.heap.size ≤ gb308)); have n4_ := am ((by rw [hg]; exact (below_size (pb HB)) : w.heap.size ≤ gb308)); have n5_ := am ((by rw [hg]; exact Nat.ne_of_lt (bl BK307) : gb307 ≠ gb308)); have n6_ := am ((by rw [hg]; exact Nat.ne_of_gt (bl BK307) : gb308 ≠ gb307)); clear BK307 HB; have BK307 := n0_; have HB := n1_; have BK308 := n2_; have GW308 := n3_; have GE308 := n4_; have NB307_308 := n5_; have NB308_307 := n6_; clear n0_ n1_ n2_ n3_ n4_ n5_ n6_ hb hbox hg))
 (try simp only [Act.put, q1, q2, q3])
 go_cut [19] (fun v19 wc => ∃ (kq : Nat) (x19_2 : Bool), v19 = .bool x19_2 ∧ Aside0 (downpourref03_Same.j0 kq x19_2 a0_0 l0_1 a1_0 l1_1 = some r) ∧ Aside0 (kq ≤ k) ∧ Aside0 (wc.heap[gb307]? = some (.cells #[.int .i64 a0_0, (.slice A0_1 l0_1.length c0_1)] 55 (0, 0))) ∧ Aside0 (wc.heap[gb308]? = some (.cells #[.int .i64 a1_0, (.slice A1_1 l1_1.length c1_1)] 55 (0, 0))) ∧ Aside0 (Below w.heap.size w wc))
 case first =>
  have H := HC3.out
  clear HC3
  by_cases c6 : a0_0 = a1_0
  ·
   rw [if_pos c6] at H
   have c6b0 : (a0_0 == a1_0) = true := beq_iff_eq.mpr c6
   have c6b1 : (a0_0 != a1_0) = false := bne_eq_false_iff_eq.mpr c6
   clear c6
   (first | rw [c6b0] | (simp only [i64_w, i32_w]; rw [c6b0]) | skip)
   have H' := Aside0.mk H
   clear H
   have hnb7 := NB307_308.out
   have hnc7 := NB308_307.out
   have hcz8_0 : w5.cell? ⟨gb307, 0, none⟩ = some (.int .i64 a0_0) := (blk_cell BK307.out 0).trans rfl
   have hcz8_1 : w5.cell? ⟨gb307, 1, none⟩ = some (.slice A0_1 l0_1.length c0_1) := (blk_cell BK307.out 1).trans rfl
   have hfz8_0 := blk_frozen BK307.out 0
   have hfz8_1 := blk_frozen BK307.out 1
   have hcz9_0 : w5.cell? ⟨gb308, 0, none⟩ = some (.int .i64 a1_0) := (blk_cell BK308.out 0).trans rfl
   have hcz9_1 : w5.cell? ⟨gb308, 1, none⟩ = some (.slice A1_1 l1_1.length c1_1) := (blk_cell BK308.out 1).trans rfl
   have hfz9_0 := blk_frozen BK308.out 0
   have hfz9_1 := blk_frozen BK308.out 1
   go_wp2
   go_meet
   case rel => exact ⟨_, (((l0_1.length : Int) != (l1_1.length : Int))), (by first | rfl | (simp; done) | (simp [*]; done)), H', ⟨by first | omega | exact Nat.le_refl _⟩, ⟨by (with_reducible repeat (first | refine blk_drewN ?_ _ | refine blk_drew ?_ | refine blk_alloc ?_ _)); exact BK307.out⟩, ⟨by (with_reducible repeat (first | refine blk_drewN ?_ _ | refine blk_drew ?_ | refine blk_alloc ?_ _)); exact BK308.out⟩, ⟨pb HB⟩⟩
  ·
   rw [if_neg c6] at H
   have c6b0 : (a0_0 == a1_0) = false := beq_eq_false_iff_ne.mpr c6
   have c6b1 : (a0_0 != a1_0) = true := bne_iff_ne.mpr c6
   (first | rw [c6b0] | (simp only [i64_w, i32_w]; rw [c6b0]) | skip)
   have H' := Aside0.mk H
   clear H
   have hnb10 := NB307_308.out
   have hnc10 := NB308_307.out
   have hcz11_0 : w5.cell? ⟨gb307, 0, none⟩ = some (.int .i64 a0_0) := (blk_cell BK307.out 0).trans rfl
   have hcz11_1 : w5.cell? ⟨gb307, 1, none⟩ = some (.slice A0_1 l0_1.length c0_1) := (blk_cell BK307.out 1).trans rfl
   have hfz11_0 := blk_frozen BK307.out 0
   have hfz11_1 := blk_frozen BK307.out 1
   have hcz12_0 : w5.cell? ⟨gb308, 0, none⟩ = some (.int .i64 a1_0) := (blk_cell BK308.out 0).trans rfl
   have hcz12_1 : w5.cell? ⟨gb308, 1, none⟩ = some (.slice A1_1 l1_1.length c1_1) := (blk_cell BK308.out 1).trans rfl
   have hfz12_0 := blk_frozen BK308.out 0
   have hfz12_1 := blk_frozen BK308.out 1
   go_wp2
   go_meet
   case rel => exact ⟨_, (true), (by first | rfl | (simp; done) | (simp [*]; done)), H', ⟨by first | omega | exact Nat.le_refl _⟩, ⟨by (with_reducible repeat (first | refine blk_drewN ?_ _ | refine blk_drew ?_ | refine blk_alloc ?_ _)); exact BK307.out⟩, ⟨by (with_reducible repeat (first | refine blk_drewN ?_ _ | refine blk_drew ?_ | refine blk_alloc ?_ _)); exact BK308.out⟩, ⟨pb HB⟩⟩
 case rest =>
  clear HC3
  try clear c1
  try clear p2
  try clear c4
  try clear c6
  try clear c6b0
  try clear c6b1
  try clear c7
  try clear c10
  try clear hcz11_0
  try clear hcz11_1
  try clear hcz12_0
  try clear hcz12_1
  try clear hcz8_0
  try clear hcz8_1
  try clear hcz9_0
  try clear hcz9_1
  try clear hfz11_0
  try clear hfz11_1
  try clear hfz12_0
  try clear hfz12_1
  try clear hfz8_0
  try clear hfz8_1
  try clear hfz9_0
  try clear hfz9_1
  obtain ⟨kq, x19_2, rfl, HA, HJ2, BK307, BK308, HB⟩ := hcut
  cases kq with
  | zero => exact absurd HA.out (by simp [downpourref03_Same.j0])
  | succ kj2 =>
   have H := HA.out
   clear HA
   simp only [downpourref03_Same.j0] at H
   by_cases c13 : x19_2 = true
   ·
    subst c13
    have H1 : (some false) = some r := by rw [if_pos rfl] at H; exact H
    clear H
    have H := H1
    clear H1
    obtain rfl := Option.some.inj H
    go_wp2
    go_ret
    exact ⟨by first | rfl | (simp [errW_none, errW_some] <;> rfl) | (simp [*, errW_none, errW_some] <;> rfl), pb HB⟩
   ·
    replace c13 := Bool.eq_false_iff.mpr c13
    subst c13
    have H1 : (downpourref03_Same.l0 kj2 (l0_1.length : Int) 0 a0_0 l0_1 a1_0 l1_1) = some r := by rw [if_neg (show ¬ (false = true) by decide)] at H; exact H
    clear H
    have H := H1
    clear H1
    have H' := Aside0.mk H
    clear H
    have hnb14 := NB307_308.out
    have hnc14 := NB308_307.out
    have hcz15_0 : wc.cell? ⟨gb307, 0, none⟩ = some (.int .i64 a0_0) := (blk_cell BK307.out 0).trans rfl
    have hcz15_1 : wc.cell? ⟨gb307, 1, none⟩ = some (.slice A0_1 l0_1.length c0_1) := (blk_cell BK307.out 1).trans rfl
    have hfz15_0 := blk_frozen BK307.out 0
    have hfz15_1 := blk_frozen BK307.out 1
    go_wp2
    go_loopg [23] kj2 (fun kq v23 w' => ∃ (x23_2 : Int), v23 = .int .i64 x23_2 ∧ Aside0 (downpourref03_Same.l0 kq (l0_1.length : Int) x23_2 a0_0 l0_1 a1_0 l1_1 = some r) ∧ Aside0 (kq ≤ kj2) ∧ Aside0 (w'.heap[gb307]? = some (.cells #[.int .i64 a0_0, (.slice A0_1 l0_1.length c0_1)] 55 (0, 0))) ∧ Aside0 (w'.heap[gb308]? = some (.cells #[.int .i64 a1_0, (.slice A1_1 l1_1.length c1_1)] 55 (0, 0))) ∧ Aside0 (Below w.heap.size w w'))
    case atStart => exact ⟨(0), (by first | rfl | (simp; done) | (simp [*]; done)), H', ⟨Nat.le_refl _⟩, ⟨by (with_reducible repeat (first | refine blk_drewN ?_ _ | refine blk_drew ?_ | refine blk_alloc ?_ _)); exact BK307.out⟩, ⟨by (with_reducible repeat (first | refine blk_drewN ?_ _ | refine blk_drew ?_ | refine blk_alloc ?_ _)); exact BK308.out⟩, ⟨pb HB⟩⟩
    case round =>
     clear H'
     try clear c1
     try clear p2
     try clear c4
     try clear c6
     try clear c6b0
     try clear c6b1
     try clear c7
     try clear c10
     try clear c13
     try clear c14
     try clear hcz11_0
     try clear hcz11_1
     try clear hcz12_0
     try clear hcz12_1
     try clear hcz15_0
     try clear hcz15_1
     try clear hcz8_0
     try clear hcz8_1
     try clear hcz9_0
     try clear hcz9_1
     try clear hfz11_0
     try clear hfz11_1
     try clear hfz12_0
     try clear hfz12_1
     try clear hfz15_0
     try clear hfz15_1
     try clear hfz8_0
     try clear hfz8_1
     try clear hfz9_0
     try clear hfz9_1
     try clear p2
     obtain ⟨x23_2, rfl, HA, HK2, BK307, BK308, HB⟩ := hrel
     cases gk with
     | zero => exact absurd HA.out (by simp [downpourref03_Same.l0])
     | succ k2 =>
      have H := HA.out
      clear HA
      simp only [downpourref03_Same.l0] at H
      by_cases c16 : x23_2 < (l0_1.length : Int)
      ·
       rw [if_pos c16] at H
       have c16b0 : decide (x23_2 < (l0_1.length : Int)) = true := decide_eq_true c16
       clear c16
       by_cases c17 : 0 ≤ x23_2
       ·
        rw [if_pos c17] at H
        have c17b0 : decide (0 ≤ x23_2) = true := decide_eq_true c17
        clear c17
        by_cases c18 : x23_2 < (l0_1.length : Int)
        ·
         rw [if_pos c18] at H
         have c18b0 : decide (x23_2 < (l0_1.length : Int)) = true := decide_eq_true c18
         clear c18
         by_cases c19 : x23_2 < (l1_1.length : Int)
         ·
          rw [if_pos c19] at H
          have c19b0 : decide (x23_2 < (l1_1.length : Int)) = true := decide_eq_true c19
          clear c19
          replace H := Option.bind_eq_some_iff.mp H
          obtain ⟨t311, A200, H⟩ := H
          replace H : (if t311 = true then (downpourref03_Same.l0 k2 (l0_1.length : Int) (wrap64 (x23_2 + 1)) a0_0 l0_1 a1_0 l1_1) else (some false)) = some r := H
          have A20 := Aside0.mk A200
          clear A200
          by_cases c21 : t311 = true
          ·
           subst c21
           have H1 : (downpourref03_Same.l0 k2 (l0_1.length : Int) (wrap64 (x23_2 + 1)) a0_0 l0_1 a1_0 l1_1) = some r := by rw [if_pos rfl] at H; exact H
           clear H
           have H := H1
           clear H1
           have H' := Aside0.mk H
           clear H
           try go_wp2
           have n0_ := am (blk_drew BK307.out)
           have n1_ := am (blk_drew BK308.out)
           have n2_ := am (below_drew1 HB.out)
           clear BK307
           clear BK308
           clear HB
           have BK307 := n0_
           have BK308 := n1_
           have HB := n2_
           clear n0_ n1_ n2_
           have p309 : 0 ≤ (x23_2 : Int) := of_decide_eq_true (by first | (with_reducible assumption) | assumption)
           have q309 : x23_2 < (l0_1.length : Int) := of_decide_eq_true (by first | (with_reducible assumption) | assumption)
           obtain ⟨ad309, A309_1, c309_1, e309, hx309_0, hx309_1, hl309_1, hi309_1⟩ := at_T25 HR0_1.out x23_2 p309 q309
           have hw309_1 := hx309_1
           have hw309_0 := hx309_0
           cases e309
           replace hx309_0 := (HB.out.cell (World.block_lt_of_cell? w _ hx309_0)).trans hx309_0
           replace hx309_1 := (HB.out.cell (World.block_lt_of_cell? w _ hx309_1)).trans hx309_1
           have HR309_1 := Aside0.mk hi309_1
           have HC309_1 := Aside0.mk hl309_1
           clear hi309_1 hl309_1
           replace p309 := eq_true p309
           replace q309 := eq_true q309
           have p310 : 0 ≤ (x23_2 : Int) := of_decide_eq_true (by first | (with_reducible assumption) | assumption)
           have q310 : x23_2 < (l1_1.length : Int) := of_decide_eq_true (by first | (with_reducible assumption) | assumption)
           obtain ⟨ad310, A310_1, c310_1, e310, hx310_0, hx310_1, hl310_1, hi310_1⟩ := at_T25 HR1_1.out x23_2 p310 q310
           have hw310_1 := hx310_1
           have hw310_0 := hx310_0
           cases e310
           replace hx310_0 := (HB.out.cell (World.block_lt_of_cell? w _ hx310_0)).trans hx310_0
           replace hx310_1 := (HB.out.cell (World.block_lt_of_cell? w _ hx310_1)).trans hx310_1
           have HR310_1 := Aside0.mk hi310_1
           have HC310_1 := Aside0.mk hl310_1
           clear hi310_1 hl310_1
           replace p310 := eq_true p310
           replace q310 := eq_true q310
           refine start_ (n := 12) (S := fun w' => w'.cell? ⟨gb307, 0, none⟩ = some (.int .i64 a0_0) ∧ w'.cell? ⟨gb307, 1, none⟩ = some (.slice (some ad309) l0_1.length c0_1) ∧ w'.cell? ⟨gb308, 0, none⟩ = some (.int .i64 a1_0) ∧ w'.cell? ⟨gb308, 1, none⟩ = some (.slice (some ad310) l1_1.length c1_1) ∧ w'.cell? (ad309.add ((x23_2).toNat * 2)) = some (.int .i64 ((rd_T25 l0_1 x23_2).f0)) ∧ w'.cell? ⟨(ad309.add ((x23_2).toNat * 2)).block, (ad309.add ((x23_2).toNat * 2)).off + 1, none⟩ = some (.slice A309_1 ((rd_T25 l0_1 x23_2).f1).length c309_1) ∧ w'.cell? (ad310.add ((x23_2).toNat * 2)) = some (.int .i64 ((rd_T25 l1_1 x23_2).f0)) ∧ w'.cell? ⟨(ad310.add ((x23_2).toNat * 2)).block, (ad310.add ((x23_2).toNat * 2)).off + 1, none⟩ = some (.slice A310_1 ((rd_T25 l1_1 x23_2).f1).length c310_1)) (ds := []) #[F, F, F, F, F, F, F, F, F, F, F, F] (by kernel_rfl) rfl rfl ⟨(blk_cell BK307.out 0).trans rfl, (blk_cell BK307.out 1).trans rfl, (blk_cell BK308.out 0).trans rfl, (blk_cell BK308.out 1).trans rfl, ((HB.out.cell (World.block_lt_of_cell? w _ hw309_0)).trans hw309_0), ((HB.out.cell (World.block_lt_of_cell? w _ hw309_1)).trans hw309_1), ((HB.out.cell (World.block_lt_of_cell? w _ hw310_0)).trans hw310_0), ((HB.out.cell (World.block_lt_of_cell? w _ hw310_1)).trans hw310_1)⟩ (fun hHeld => ?_); refine with_tabW downpourref03_Same.tab6 downpourref03_Same.bits6 (fun HT_ HW_ => ?_)
           generalize wr.drew = w22 at BK307 BK308 HB HR309_1 HR310_1 hx309_0 hx309_1 hx310_0 hx310_1 hHeld ⊢
           refine pure_ (i := 0) (N := some 26) (v := ?_) (a' := ?_) #[T, F, F, F, F, F, F, F, F, F, F, F] rfl rfl (any_of HT_.out (by kernel_rfl)) (fun _ _ _ h => h) (Or.inl ⟨by rfl, ?_⟩) ?_ ?_
           rotate_left
           ·
            intro w'
            go_simp
            with_reducible rfl
           rotate_left
           ·
            simp only [Act.put, q1, q2, q3, i64_w, i32_w]
            rfl
           refine pure_ (i := 2) (N := some 28) (v := ?_) (a' := ?_) #[T, F, T, F, F, F, F, F, F, F, F, F] rfl rfl (any_of HT_.out (by kernel_rfl)) (fun _ _ _ h => h) (Or.inl ⟨by rfl, ?_⟩) ?_ ?_
           rotate_left
           ·
            intro w'
            go_simp
            with_reducible rfl
           rotate_left
           ·
            simp only [Act.put, q1, q2, q3, i64_w, i32_w]
            rfl
           refine pure_ (i := 5) (N := some 31) (v := ?_) (a' := ?_) #[T, F, T, F, F, T, F, F, F, F, F, F] rfl rfl (any_of HT_.out (by kernel_rfl)) (fun _ _ _ h => h) (Or.inl ⟨by rfl, ?_⟩) ?_ ?_
           rotate_left
           ·
            intro w'
            go_simp
            with_reducible rfl
           rotate_left
           ·
            simp only [Act.put, q1, q2, q3, i64_w, i32_w]
            rfl
           refine pure_ (i := 7) (N := some 33) (v := ?_) (a' := ?_) #[T, F, T, F, F, T, F, T, F, F, F, F] rfl rfl (any_of HT_.out (by kernel_rfl)) (fun _ _ _ h => h) (Or.inl ⟨by rfl, ?_⟩) ?_ ?_
           rotate_left
           ·
            intro w'
            go_simp
            with_reducible rfl
           rotate_left
           ·
            simp only [Act.put, q1, q2, q3, i64_w, i32_w]
            rfl
           refine take_ (i := 1) (N := some 27) (v := ?_) (a' := ?_) #[T, T, T, F, F, T, F, T, F, F, F, F] rfl rfl (take_ofW HT_.out HW_.out (by kernel_rfl)) (fun _ _ _ h => h) (Or.inl ⟨by rfl, ?_⟩) hHeld ?_ ?_
           rotate_left
           ·
            rintro w' ⟨s0, s1, s2, s3, s4, s5, s6, s7⟩
            go_simp
            with_reducible rfl
           rotate_left
           ·
            simp only [Act.put, q1, q2, q3, i64_w, i32_w]
            rfl
           refine pure_ (i := 3) (N := some 29) (v := ?_) (a' := ?_) #[T, T, T, T, F, T, F, T, F, F, F, F] rfl rfl (any_of HT_.out (by kernel_rfl)) (fun _ _ _ h => h) (Or.inl ⟨by rfl, ?_⟩) ?_ ?_
           rotate_left
           ·
            intro w'
            go_simp
            with_reducible rfl
           rotate_left
           ·
            simp only [Act.put, q1, q2, q3, i64_w, i32_w]
            rfl
           refine take_ (i := 4) (N := some 30) (v := ?_) (a' := ?_) #[T, T, T, T, T, T, F, T, F, F, F, F] rfl rfl (take_ofW HT_.out HW_.out (by kernel_rfl)) (fun _ _ _ h => h) (Or.inl ⟨by rfl, ?_⟩) hHeld ?_ ?_
           rotate_left
           ·
            rintro w' ⟨s0, s1, s2, s3, s4, s5, s6, s7⟩
            go_simp
            with_reducible rfl
           rotate_left
           ·
            simp only [Act.put, q1, q2, q3, i64_w, i32_w]
            rfl
           refine take_ (i := 6) (N := some 32) (v := ?_) (a' := ?_) #[T, T, T, T, T, T, T, T, F, F, F, F] rfl rfl (take_ofW HT_.out HW_.out (by kernel_rfl)) (fun _ _ _ h => h) (Or.inl ⟨by rfl, ?_⟩) hHeld ?_ ?_
           rotate_left
           ·
            rintro w' ⟨s0, s1, s2, s3, s4, s5, s6, s7⟩
            go_simp
            with_reducible rfl
           rotate_left
           ·
            simp only [Act.put, q1, q2, q3, i64_w, i32_w]
            rfl
           refine pure_ (i := 8) (N := some 34) (v := ?_) (a' := ?_) #[T, T, T, T, T, T, T, T, T, F, F, F] rfl rfl (any_of HT_.out (by kernel_rfl)) (fun _ _ _ h => h) (Or.inl ⟨by rfl, ?_⟩) ?_ ?_
           rotate_left
           ·
            intro w'
            go_simp
            with_reducible rfl
           rotate_left
           ·
            simp only [Act.put, q1, q2, q3, i64_w, i32_w]
            rfl
           refine take_ (i := 9) (N := some 35) (v := ?_) (a' := ?_) #[T, T, T, T, T, T, T, T, T, T, F, F] rfl rfl (take_ofW HT_.out HW_.out (by kernel_rfl)) (fun _ _ _ h => h) (Or.inl ⟨by rfl, ?_⟩) hHeld ?_ ?_
           rotate_left
           ·
            rintro w' ⟨s0, s1, s2, s3, s4, s5, s6, s7⟩
            go_simp
            with_reducible rfl
           rotate_left
           ·
            simp only [Act.put, q1, q2, q3, i64_w, i32_w]
            rfl
           refine one_ (i := 10) (N := some 36) #[T, T, T, T, T, T, T, T, T, T, T, F] rfl rfl (one_of HT_.out (by kernel_rfl)) (by decide) (fun K hK => ?_)
           refine goes_ Tryd.func29 (by kernel_rfl) rfl #[.agg #[.int .i64 ((rd_T25 l0_1 x23_2).f0), .slice A309_1 ((rd_T25 l0_1 x23_2).f1).length c309_1], .agg #[.int .i64 ((rd_T25 l1_1 x23_2).f0), .slice A310_1 ((rd_T25 l1_1 x23_2).f1).length c310_1]] (by rfl) rfl rfl (by (try simp only [List.map_toArray, List.map_cons, List.map_nil]); first | done | rfl | (simp only [List.length_drop, List.length_take]; rfl)) ?_
           with_reducible refine (downpourref01_Same.calls k2 ((rd_T25 l0_1 x23_2).f0) _ _ ((rd_T25 l0_1 x23_2).f1) ((rd_T25 l1_1 x23_2).f0) _ _ ((rd_T25 l1_1 x23_2).f1) true _ ?side1 ?side2 ?side3 ?side4 A20.out).mono ?_
           (case side1 => repeat (first | exact (Kd.C_below HR309_1.out HB.out) | (with_reducible refine Kd.C_alloc ?_ _) | (with_reducible refine Kd.C_drewN ?_ _) | (with_reducible refine Kd.C_drew ?_)))
           (case side2 => exact HC309_1.out)
           (case side3 => repeat (first | exact (Kd.C_below HR310_1.out HB.out) | (with_reducible refine Kd.C_alloc ?_ _) | (with_reducible refine Kd.C_drewN ?_ _) | (with_reducible refine Kd.C_drew ?_)))
           (case side4 => exact HC310_1.out)
           rintro e w23 ⟨rfl, hb⟩
           refine ⟨_, rfl, ?_⟩
           have n0_ := bb BK307 hb
           have n1_ := bb BK308 hb
           have n2_ := am (below_step (pb HB) hb)
           clear BK307
           clear BK308
           clear HB
           have BK307 := n0_
           have BK308 := n1_
           have HB := n2_
           clear n0_ n1_ n2_
           (try clear hb)
           (try clear hb2)
           (try clear hk)
           (try clear hi)
           refine hK.out _ _ ⟨(blk_cell BK307.out 0).trans rfl, (blk_cell BK307.out 1).trans rfl, (blk_cell BK308.out 0).trans rfl, (blk_cell BK308.out 1).trans rfl, ((HB.out.cell (World.block_lt_of_cell? w _ hw309_0)).trans hw309_0), ((HB.out.cell (World.block_lt_of_cell? w _ hw309_1)).trans hw309_1), ((HB.out.cell (World.block_lt_of_cell? w _ hw310_0)).trans hw310_0), ((HB.out.cell (World.block_lt_of_cell? w _ hw310_1)).trans hw310_1)⟩ (fun hHeld => ?_)
           clear hK K
           refine norm_ (a' := ?_) ?_ ?_
           rotate_left
           ·
            show Act.put _ (some 36) _ = _
            simp only [Act.put, q1, q2, q3, i64_w, i32_w]
            rfl
           refine pure_ (i := 11) (N := some 37) (v := ?_) (a' := ?_) #[T, T, T, T, T, T, T, T, T, T, T, T] rfl rfl (any_of HT_.out (by kernel_rfl)) (fun _ _ _ h => h) (Or.inl ⟨by rfl, ?_⟩) ?_ ?_
           rotate_left
           ·
            intro w'
            go_simp
            with_reducible rfl
           rotate_left
           ·
            simp only [Act.put, q1, q2, q3, i64_w, i32_w]
            rfl
           refine done_ (done_of HT_.out (by kernel_rfl)) ?_
           try go_wp2
           go_roundg k2
           case measure => have := HJ2.out; have := HK2.out; omega
           case rel => exact ⟨(wrap64 (x23_2 + 1)), (by first | rfl | (simp; done) | (simp [*]; done)), H', ⟨by have := HJ2.out; have := HK2.out; omega⟩, ⟨by (with_reducible repeat (first | refine blk_drewN ?_ _ | refine blk_drew ?_ | refine blk_alloc ?_ _)); exact BK307.out⟩, ⟨by (with_reducible repeat (first | refine blk_drewN ?_ _ | refine blk_drew ?_ | refine blk_alloc ?_ _)); exact BK308.out⟩, ⟨pb HB⟩⟩
          ·
           replace c21 := Bool.eq_false_iff.mpr c21
           subst c21
           have H1 : (some false) = some r := by rw [if_neg (show ¬ (false = true) by decide)] at H; exact H
           clear H
           have H := H1
           clear H1
           obtain rfl := Option.some.inj H
           try go_wp2
           have n0_ := am (blk_drew BK307.out)
           have n1_ := am (blk_drew BK308.out)
           have n2_ := am (below_drew1 HB.out)
           clear BK307
           clear BK308
           clear HB
           have BK307 := n0_
           have BK308 := n1_
           have HB := n2_
           clear n0_ n1_ n2_
           have p309 : 0 ≤ (x23_2 : Int) := of_decide_eq_true (by first | (with_reducible assumption) | assumption)
           have q309 : x23_2 < (l0_1.length : Int) := of_decide_eq_true (by first | (with_reducible assumption) | assumption)
           obtain ⟨ad309, A309_1, c309_1, e309, hx309_0, hx309_1, hl309_1, hi309_1⟩ := at_T25 HR0_1.out x23_2 p309 q309
           have hw309_1 := hx309_1
           have hw309_0 := hx309_0
           cases e309
           replace hx309_0 := (HB.out.cell (World.block_lt_of_cell? w _ hx309_0)).trans hx309_0
           replace hx309_1 := (HB.out.cell (World.block_lt_of_cell? w _ hx309_1)).trans hx309_1
           have HR309_1 := Aside0.mk hi309_1
           have HC309_1 := Aside0.mk hl309_1
           clear hi309_1 hl309_1
           replace p309 := eq_true p309
           replace q309 := eq_true q309
           have p310 : 0 ≤ (x23_2 : Int) := of_decide_eq_true (by first | (with_reducible assumption) | assumption)
           have q310 : x23_2 < (l1_1.length : Int) := of_decide_eq_true (by first | (with_reducible assumption) | assumption)
           obtain ⟨ad310, A310_1, c310_1, e310, hx310_0, hx310_1, hl310_1, hi310_1⟩ := at_T25 HR1_1.out x23_2 p310 q310
           have hw310_1 := hx310_1
           have hw310_0 := hx310_0
           cases e310
           replace hx310_0 := (HB.out.cell (World.block_lt_of_cell? w _ hx310_0)).trans hx310_0
           replace hx310_1 := (HB.out.cell (World.block_lt_of_cell? w _ hx310_1)).trans hx310_1
           have HR310_1 := Aside0.mk hi310_1
           have HC310_1 := Aside0.mk hl310_1
           clear hi310_1 hl310_1
           replace p310 := eq_true p310
           replace q310 := eq_true q310
           refine start_ (n := 12) (S := fun w' => w'.cell? ⟨gb307, 0, none⟩ = some (.int .i64 a0_0) ∧ w'.cell? ⟨gb307, 1, none⟩ = some (.slice (some ad309) l0_1.length c0_1) ∧ w'.cell? ⟨gb308, 0, none⟩ = some (.int .i64 a1_0) ∧ w'.cell? ⟨gb308, 1, none⟩ = some (.slice (some ad310) l1_1.length c1_1) ∧ w'.cell? (ad309.add ((x23_2).toNat * 2)) = some (.int .i64 ((rd_T25 l0_1 x23_2).f0)) ∧ w'.cell? ⟨(ad309.add ((x23_2).toNat * 2)).block, (ad309.add ((x23_2).toNat * 2)).off + 1, none⟩ = some (.slice A309_1 ((rd_T25 l0_1 x23_2).f1).length c309_1) ∧ w'.cell? (ad310.add ((x23_2).toNat * 2)) = some (.int .i64 ((rd_T25 l1_1 x23_2).f0)) ∧ w'.cell? ⟨(ad310.add ((x23_2).toNat * 2)).block, (ad310.add ((x23_2).toNat * 2)).off + 1, none⟩ = some (.slice A310_1 ((rd_T25 l1_1 x23_2).f1).length c310_1)) (ds := []) #[F, F, F, F, F, F, F, F, F, F, F, F] (by kernel_rfl) rfl rfl ⟨(blk_cell BK307.out 0).trans rfl, (blk_cell BK307.out 1).trans rfl, (blk_cell BK308.out 0).trans rfl, (blk_cell BK308.out 1).trans rfl, ((HB.out.cell (World.block_lt_of_cell? w _ hw309_0)).trans hw309_0), ((HB.out.cell (World.block_lt_of_cell? w _ hw309_1)).trans hw309_1), ((HB.out.cell (World.block_lt_of_cell? w _ hw310_0)).trans hw310_0), ((HB.out.cell (World.block_lt_of_cell? w _ hw310_1)).trans hw310_1)⟩ (fun hHeld => ?_); refine with_tabW downpourref03_Same.tab6 downpourref03_Same.bits6 (fun HT_ HW_ => ?_)
           generalize wr.drew = w24 at BK307 BK308 HB HR309_1 HR310_1 hx309_0 hx309_1 hx310_0 hx310_1 hHeld ⊢
           refine pure_ (i := 0) (N := some 26) (v := ?_) (a' := ?_) #[T, F, F, F, F, F, F, F, F, F, F, F] rfl rfl (any_of HT_.out (by kernel_rfl)) (fun _ _ _ h => h) (Or.inl ⟨by rfl, ?_⟩) ?_ ?_
           rotate_left
           ·
            intro w'
            go_simp
            with_reducible rfl
           rotate_left
           ·
            simp only [Act.put, q1, q2, q3, i64_w, i32_w]
            rfl
           refine pure_ (i := 2) (N := some 28) (v := ?_) (a' := ?_) #[T, F, T, F, F, F, F, F, F, F, F, F] rfl rfl (any_of HT_.out (by kernel_rfl)) (fun _ _ _ h => h) (Or.inl ⟨by rfl, ?_⟩) ?_ ?_
           rotate_left
           ·
            intro w'
            go_simp
            with_reducible rfl
           rotate_left
           ·
            simp only [Act.put, q1, q2, q3, i64_w, i32_w]
            rfl
           refine pure_ (i := 5) (N := some 31) (v := ?_) (a' := ?_) #[T, F, T, F, F, T, F, F, F, F, F, F] rfl rfl (any_of HT_.out (by kernel_rfl)) (fun _ _ _ h => h) (Or.inl ⟨by rfl, ?_⟩) ?_ ?_
           rotate_left
           ·
            intro w'
            go_simp
            with_reducible rfl
           rotate_left
           ·
            simp only [Act.put, q1, q2, q3, i64_w, i32_w]
            rfl
           refine pure_ (i := 7) (N := some 33) (v := ?_) (a' := ?_) #[T, F, T, F, F, T, F, T, F, F, F, F] rfl rfl (any_of HT_.out (by kernel_rfl)) (fun _ _ _ h => h) (Or.inl ⟨by rfl, ?_⟩) ?_ ?_
           rotate_left
           ·
            intro w'
            go_simp
            with_reducible rfl
           rotate_left
           ·
            simp only [Act.put, q1, q2, q3, i64_w, i32_w]
            rfl
           refine take_ (i := 1) (N := some 27) (v := ?_) (a' := ?_) #[T, T, T, F, F, T, F, T, F, F, F, F] rfl rfl (take_ofW HT_.out HW_.out (by kernel_rfl)) (fun _ _ _ h => h) (Or.inl ⟨by rfl, ?_⟩) hHeld ?_ ?_
           rotate_left
           ·
            rintro w' ⟨s0, s1, s2, s3, s4, s5, s6, s7⟩
            go_simp
            with_reducible rfl
           rotate_left
           ·
            simp only [Act.put, q1, q2, q3, i64_w, i32_w]
            rfl
           refine pure_ (i := 3) (N := some 29) (v := ?_) (a' := ?_) #[T, T, T, T, F, T, F, T, F, F, F, F] rfl rfl (any_of HT_.out (by kernel_rfl)) (fun _ _ _ h => h) (Or.inl ⟨by rfl, ?_⟩) ?_ ?_
           rotate_left
           ·
            intro w'
            go_simp
            with_reducible rfl
           rotate_left
           ·
            simp only [Act.put, q1, q2, q3, i64_w, i32_w]
            rfl
           refine take_ (i := 4) (N := some 30) (v := ?_) (a' := ?_) #[T, T, T, T, T, T, F, T, F, F, F, F] rfl rfl (take_ofW HT_.out HW_.out (by kernel_rfl)) (fun _ _ _ h => h) (Or.inl ⟨by rfl, ?_⟩) hHeld ?_ ?_
           rotate_left
           ·
            rintro w' ⟨s0, s1, s2, s3, s4, s5, s6, s7⟩
            go_simp
            with_reducible rfl
           rotate_left
           ·
            simp only [Act.put, q1, q2, q3, i64_w, i32_w]
            rfl
           refine take_ (i := 6) (N := some 32) (v := ?_) (a' := ?_) #[T, T, T, T, T, T, T, T, F, F, F, F] rfl rfl (take_ofW HT_.out HW_.out (by kernel_rfl)) (fun _ _ _ h => h) (Or.inl ⟨by rfl, ?_⟩) hHeld ?_ ?_
           rotate_left
           ·
            rintro w' ⟨s0, s1, s2, s3, s4, s5, s6, s7⟩
            go_simp
            with_reducible rfl
           rotate_left
           ·
            simp only [Act.put, q1, q2, q3, i64_w, i32_w]
            rfl
           refine pure_ (i := 8) (N := some 34) (v := ?_) (a' := ?_) #[T, T, T, T, T, T, T, T, T, F, F, F] rfl rfl (any_of HT_.out (by kernel_rfl)) (fun _ _ _ h => h) (Or.inl ⟨by rfl, ?_⟩) ?_ ?_
           rotate_left
           ·
            intro w'
            go_simp
            with_reducible rfl
           rotate_left
           ·
            simp only [Act.put, q1, q2, q3, i64_w, i32_w]
            rfl
           refine take_ (i := 9) (N := some 35) (v := ?_) (a' := ?_) #[T, T, T, T, T, T, T, T, T, T, F, F] rfl rfl (take_ofW HT_.out HW_.out (by kernel_rfl)) (fun _ _ _ h => h) (Or.inl ⟨by rfl, ?_⟩) hHeld ?_ ?_
           rotate_left
           ·
            rintro w' ⟨s0, s1, s2, s3, s4, s5, s6, s7⟩
            go_simp
            with_reducible rfl
           rotate_left
           ·
            simp only [Act.put, q1, q2, q3, i64_w, i32_w]
            rfl
           refine one_ (i := 10) (N := some 36) #[T, T, T, T, T, T, T, T, T, T, T, F] rfl rfl (one_of HT_.out (by kernel_rfl)) (by decide) (fun K hK => ?_)
           refine goes_ Tryd.func29 (by kernel_rfl) rfl #[.agg #[.int .i64 ((rd_T25 l0_1 x23_2).f0), .slice A309_1 ((rd_T25 l0_1 x23_2).f1).length c309_1], .agg #[.int .i64 ((rd_T25 l1_1 x23_2).f0), .slice A310_1 ((rd_T25 l1_1 x23_2).f1).length c310_1]] (by rfl) rfl rfl (by (try simp only [List.map_toArray, List.map_cons, List.map_nil]); first | done | rfl | (simp only [List.length_drop, List.length_take]; rfl)) ?_
           with_reducible refine (downpourref01_Same.calls k2 ((rd_T25 l0_1 x23_2).f0) _ _ ((rd_T25 l0_1 x23_2).f1) ((rd_T25 l1_1 x23_2).f0) _ _ ((rd_T25 l1_1 x23_2).f1) false _ ?side1 ?side2 ?side3 ?side4 A20.out).mono ?_
           (case side1 => repeat (first | exact (Kd.C_below HR309_1.out HB.out) | (with_reducible refine Kd.C_alloc ?_ _) | (with_reducible refine Kd.C_drewN ?_ _) | (with_reducible refine Kd.C_drew ?_)))
           (case side2 => exact HC309_1.out)
           (case side3 => repeat (first | exact (Kd.C_below HR310_1.out HB.out) | (with_reducible refine Kd.C_alloc ?_ _) | (with_reducible refine Kd.C_drewN ?_ _) | (with_reducible refine Kd.C_drew ?_)))
           (case side4 => exact HC310_1.out)
           rintro e w25 ⟨rfl, hb⟩
           refine ⟨_, rfl, ?_⟩
           have n0_ := bb BK307 hb
           have n1_ := bb BK308 hb
           have n2_ := am (below_step (pb HB) hb)
           clear BK307
           clear BK308
           clear HB
           have BK307 := n0_
           have BK308 := n1_
           have HB := n2_
           clear n0_ n1_ n2_
           (try clear hb)
           (try clear hb2)
           (try clear hk)
           (try clear hi)
           refine hK.out _ _ ⟨(blk_cell BK307.out 0).trans rfl, (blk_cell BK307.out 1).trans rfl, (blk_cell BK308.out 0).trans rfl, (blk_cell BK308.out 1).trans rfl, ((HB.out.cell (World.block_lt_of_cell? w _ hw309_0)).trans hw309_0), ((HB.out.cell (World.block_lt_of_cell? w _ hw309_1)).trans hw309_1), ((HB.out.cell (World.block_lt_of_cell? w _ hw310_0)).trans hw310_0), ((HB.out.cell (World.block_lt_of_cell? w _ hw310_1)).trans hw310_1)⟩ (fun hHeld => ?_)
           clear hK K
           refine norm_ (a' := ?_) ?_ ?_
           rotate_left
           ·
            show Act.put _ (some 36) _ = _
            simp only [Act.put, q1, q2, q3, i64_w, i32_w]
            rfl
           refine pure_ (i := 11) (N := some 37) (v := ?_) (a' := ?_) #[T, T, T, T, T, T, T, T, T, T, T, T] rfl rfl (any_of HT_.out (by kernel_rfl)) (fun _ _ _ h => h) (Or.inl ⟨by rfl, ?_⟩) ?_ ?_
           rotate_left
           ·
            intro w'
            go_simp
            with_reducible rfl
           rotate_left
           ·
            simp only [Act.put, q1, q2, q3, i64_w, i32_w]
            rfl
           refine done_ (done_of HT_.out (by kernel_rfl)) ?_
           try go_wp2
           go_ret
           exact ⟨by first | rfl | (simp [errW_none, errW_some] <;> rfl) | (simp [*, errW_none, errW_some] <;> rfl), pb HB⟩
         ·
          rw [if_neg c19] at H
          exact absurd H (by simp)
        ·
         rw [if_neg c18] at H
         exact absurd H (by simp)
       ·
        rw [if_neg c17] at H
        exact absurd H (by simp)
      ·
       rw [if_neg c16] at H
       have c16b0 : decide (x23_2 < (l0_1.length : Int)) = false := decide_eq_false c16
       clear c16
       obtain rfl := Option.some.inj H
       go_wp2
       go_ret
       exact ⟨by first | rfl | (simp [errW_none, errW_some] <;> rfl) | (simp [*, errW_none, errW_some] <;> rfl), pb HB⟩

/-! ### downpourref03_bit: function 74 -/
def downpourref03_bit.l0 : Nat → Int → Int → List (S25) → Int → Int → Int → List Int → Option (Int)
 | 0, _, _, _, _, _, _, _ => none
 | k + 1, x2, x7, x11, x12, x13, x313000, x313001 => if x13 < x12 then (if 0 ≤ x13 then (if x13 < (x11.length : Int) then ((downpourref01_Bit.f x313000 x313001 x13).bind fun t316 => ((downpourref01_Bit.f ((rd_T25 x11 x13).f0) ((rd_T25 x11 x13).f1) x2).bind fun t317 => (downpourref03_bit.l0 k x2 (wrap64 (x7 + (wrap64 (t316 * t317)))) x11 x12 (wrap64 (x13 + 1)) x313000 x313001))) else (none)) else (none)) else (some (Int.tmod x7 2))
def downpourref03_bit.f (k : Nat) (a0_0 : Int) (l0_1 : List Int) (a1_0 : Int) (l1_1 : List (S25)) (a2 : Int) : Option (Int) := downpourref03_bit.l0 k a2 0 l1_1 (l1_1.length : Int) 0 a0_0 l0_1
theorem downpourref03_bit.mono_l : ∀ k, (∀ y0 y1 y2 y3 y4 y5 y6, LeO (downpourref03_bit.l0 k y0 y1 y2 y3 y4 y5 y6) (downpourref03_bit.l0 (k + 1) y0 y1 y2 y3 y4 y5 y6))
 | 0 => fun _ _ _ _ _ _ _ r h => by simp [downpourref03_bit.l0] at h
 | k + 1 => by
  have ih0 := downpourref03_bit.mono_l k
  ·
   intro y0 y1 y2 y3 y4 y5 y6
   unfold downpourref03_bit.l0
   repeat' first
   | (with_reducible exact ih0 _ _ _ _ _ _ _)
   | (with_reducible exact LeO.refl _)
   | (with_reducible exact LeO.none _)
   | (with_reducible refine LeO.ite ?_ ?_)
   | (with_reducible refine LeO.bind ?_ (fun _ => ?_))
   | exact ih0 _ _ _ _ _ _ _
   | exact LeO.none _
   | refine LeO.ite ?_ ?_
   | refine LeO.bind ?_ (fun _ => ?_)
theorem downpourref03_bit.mono : ∀ a0 a1 a2 a3 a4 k, LeO (downpourref03_bit.f k a0 a1 a2 a3 a4) (downpourref03_bit.f (k + 1) a0 a1 a2 a3 a4) := by
 intro a0 a1 a2 a3 a4 k
 have ih0 := downpourref03_bit.mono_l k
 unfold downpourref03_bit.f
 repeat' first
   | (with_reducible exact ih0 _ _ _ _ _ _ _)
   | (with_reducible exact LeO.refl _)
   | (with_reducible exact LeO.none _)
   | (with_reducible refine LeO.ite ?_ ?_)
   | (with_reducible refine LeO.bind ?_ (fun _ => ?_))
   | exact ih0 _ _ _ _ _ _ _
   | exact LeO.none _
   | refine LeO.ite ?_ ?_
   | refine LeO.bind ?_ (fun _ => ?_)
def downpourref03_bit.T5 : Bool × List (List Nat × List Nat) := (true, [([], []), ([], []), ([], []), ([1, 2], [1, 2]), ([], []), ([], []), ([4, 5, 3], [4, 5]), ([3, 6], [3, 6]), ([0, 7], [0, 7]), ([8, 6, 0, 1, 2, 3, 4, 5, 6, 7, 8], [0, 8])])
def downpourref03_bit.B5 : List Nat := [0, 0, 0, 6, 0, 0, 62, 126, 255, 511]
theorem downpourref03_bit.tab5 : rtab .any (opsOf Tryd.f74 5) = downpourref03_bit.T5 := by kernel_rfl
theorem downpourref03_bit.bits5 : waitsOk downpourref03_bit.T5.2 downpourref03_bit.B5 = true := by kernel_rfl
set_option maxHeartbeats 8000000 in
set_option maxRecDepth 100000 in
theorem downpourref03_bit.calls (k : Nat) (a0_0 : Int) (A0_1 : Option Addr) (c0_1 : Nat) (l0_1 : List Int) (a1_0 : Int) (A1_1 : Option Addr) (c1_1 : Nat) (l1_1 : List (S25)) (a2 : Int) (r : Int) (w : World) (hr0_1 : Kd.C (Kd.int .u64) w A0_1 l0_1.length l0_1) (hc0_1 : l0_1.length ≤ c0_1) (hr1_1 : Kd.C k25 w A1_1 l1_1.length l1_1) (hc1_1 : l1_1.length ≤ c1_1) (h : downpourref03_bit.f k a0_0 l0_1 a1_0 l1_1 a2 = some r) :
  Calls Tryd.prog 74 #[.agg #[.int .i64 a0_0, .slice A0_1 l0_1.length c0_1], .agg #[.int .i64 a1_0, .slice A1_1 l1_1.length c1_1], .int .i64 a2] w fun e w' => e = .returned (.int .i64 r) ∧ Below w.heap.size w w' := by
 have hu25 := Tryd.underlying25
 have hu55 := Tryd.underlying55
 have HR0_1 := Aside0.mk hr0_1
 have HC0_1 := Aside0.mk hc0_1
 clear hr0_1 hc0_1
 have HR1_1 := Aside0.mk hr1_1
 have HC1_1 := Aside0.mk hc1_1
 clear hr1_1 hc1_1
 have HB := am (Below.refl w.heap.size w)
 have H : (downpourref03_bit.l0 k a2 0 l1_1 (l1_1.length : Int) 0 a0_0 l0_1) = some r := h
 clear h
 have H' := Aside0.mk H
 clear H
 go_enter Tryd.func74, Tryd.ntmps74
 go_wp2_with (first | ((with_reducible refine gate_dst (N := 3) rfl ?_); refine box_event ?hg (N := 3) ?hd (cs := #[.int .i64 a0_0, .slice A0_1 l0_1.length c0_1]) (t := 25) ?hr ?_; (case hd => rfl); (case hg => rfl); (case hr => first | (go_simp; done) | (go_simp; rfl)); intro gb312 hg w4 hbox hb; have n0_ := am (below_step (pb HB) hb); have n1_ := am (hbox); have n2_ := am ((by rw [hg]; exact (below_size (pb HB)) : w.heap.size ≤ gb312)); have n3_ := am ((by rw [hg]; exact (below_size (pb HB)) : w.heap.size ≤ gb312)); clear HB; have HB := n0_; have BK312 := n1_; have GW312 := n2_; have GE312 := n3_; clear n0_ n1_ n2_ n3_ hb hbox hg) | ((with_reducible refine gate_dst (N := 4) rfl ?_); refine box_event ?hg (N := 4) ?hd (cs := #[.int .i64 a1_0, .slice A1_1 l1_1.length c1_1]) (t := 55) ?hr ?_; (case hd => rfl); (case hg => rfl); (case hr => first | (go_simp; done) | (go_simp; rfl)); intro gb313 hg w5 hbox hb; have n0_ := bb BK312 hb; have n1_ := am (below_step (pb HB) hb); have n2_ := am (hbox); have n3_ := am ((by rw [hg]; exact (below_size (pb HB)) : w.heap.size ≤ gb313)); have n4_ := am ((by rw [hg]; exact (below_size (pb HB)) : w.heap.size ≤ gb313)); have n5_ := am ((by rw [hg]; exact Nat.ne_of_lt (bl BK312) : gb312 ≠ gb313)); have n6_ := am ((by rw [hg]; exact Nat.ne_of_gt (bl BK312) : gb313 ≠ gb312)); clear BK312 HB; have BK312 := n0_; have HB := n1_; have BK313 := n2_; have GW313 := n3_; have GE313 := n4_; have NB312_313 := n5_; have NB313_312 := n6_; clear n0_ n1_ n2_ n3_ n4_ n5_ n6_ hb hbox hg; have hnb6 := NB313_312.out; have hnc6 := NB312_313.out; have hcz7_0 : w5.cell? ⟨gb313, 0, none⟩ = some (.int .i64 a1_0) := (blk_cell BK313.out 0).trans rfl; have hcz7_1 : w5.cell? ⟨gb313, 1, none⟩ = some (.slice A1_1 l1_1.length c1_1) := (blk_cell BK313.out 1).trans rfl; have hfz7_0 := blk_frozen BK313.out 0; have hfz7_1 := blk_frozen BK313.out 1))
 go_loopg [7, 13] k (fun kq v7 v13 w' => ∃ (x7_1 : Int) (x13_1 : Int), v7 = .int .i64 x7_1 ∧ v13 = .int .i64 x13_1 ∧ Aside0 (downpourref03_bit.l0 kq a2 x7_1 l1_1 (l1_1.length : Int) x13_1 a0_0 l0_1 = some r) ∧ Aside0 (kq ≤ k) ∧ Aside0 (w'.heap[gb312]? = some (.cells #[.int .i64 a0_0, (.slice A0_1 l0_1.length c0_1)] 25 (0, 0))) ∧ Aside0 (w'.heap[gb313]? = some (.cells #[.int .i64 a1_0, (.slice A1_1 l1_1.length c1_1)] 55 (0, 0))) ∧ Aside0 (Below w.heap.size w w'))
 case atStart => exact ⟨(0), (0), (by first | rfl | (simp; done) | (simp [*]; done)), (by first | rfl | (simp; done) | (simp [*]; done)), H', ⟨Nat.le_refl _⟩, ⟨by (with_reducible repeat (first | refine blk_drewN ?_ _ | refine blk_drew ?_ | refine blk_alloc ?_ _)); exact BK312.out⟩, ⟨by (with_reducible repeat (first | refine blk_drewN ?_ _ | refine blk_drew ?_ | refine blk_alloc ?_ _)); exact BK313.out⟩, ⟨pb HB⟩⟩
 case round =>
  clear H'
  try clear c1
  try clear p2
  try clear c6
  try clear c7
  try clear hcz7_0
  try clear hcz7_1
  try clear hfz7_0
  try clear hfz7_1
  obtain ⟨x7_1, x13_1, rfl, rfl, HA, HK1, BK312, BK313, HB⟩ := hrel
  cases gk with
  | zero => exact absurd HA.out (by simp [downpourref03_bit.l0])
  | succ k1 =>
   have H := HA.out
   clear HA
   simp only [downpourref03_bit.l0] at H
   by_cases c8 : x13_1 < (l1_1.length : Int)
   ·
    rw [if_pos c8] at H
    have c8b0 : decide (x13_1 < (l1_1.length : Int)) = true := decide_eq_true c8
    clear c8
    by_cases c9 : 0 ≤ x13_1
    ·
     rw [if_pos c9] at H
     have c9b0 : decide (0 ≤ x13_1) = true := decide_eq_true c9
     clear c9
     by_cases c10 : x13_1 < (l1_1.length : Int)
     ·
      rw [if_pos c10] at H
      have c10b0 : decide (x13_1 < (l1_1.length : Int)) = true := decide_eq_true c10
      clear c10
      replace H := Option.bind_eq_some_iff.mp H
      obtain ⟨t316, A110, H⟩ := H
      replace H : ((downpourref01_Bit.f ((rd_T25 l1_1 x13_1).f0) ((rd_T25 l1_1 x13_1).f1) a2).bind fun t317 => (downpourref03_bit.l0 k1 a2 (wrap64 (x7_1 + (wrap64 (t316 * t317)))) l1_1 (l1_1.length : Int) (wrap64 (x13_1 + 1)) a0_0 l0_1)) = some r := H
      have A11 := Aside0.mk A110
      clear A110
      replace H := Option.bind_eq_some_iff.mp H
      obtain ⟨t317, A120, H⟩ := H
      replace H : (downpourref03_bit.l0 k1 a2 (wrap64 (x7_1 + (wrap64 (t316 * t317)))) l1_1 (l1_1.length : Int) (wrap64 (x13_1 + 1)) a0_0 l0_1) = some r := H
      have A12 := Aside0.mk A120
      clear A120
      have H' := Aside0.mk H
      clear H
      have p314 : 0 ≤ (x13_1 : Int) := of_decide_eq_true (by first | (with_reducible assumption) | assumption)
      have q314 : x13_1 < (l1_1.length : Int) := of_decide_eq_true (by first | (with_reducible assumption) | assumption)
      obtain ⟨ad314, A314_1, c314_1, e314, hx314_0, hx314_1, hl314_1, hi314_1⟩ := at_T25 HR1_1.out x13_1 p314 q314
      cases e314
      replace hx314_0 := (HB.out.cell (World.block_lt_of_cell? w _ hx314_0)).trans hx314_0
      replace hx314_1 := (HB.out.cell (World.block_lt_of_cell? w _ hx314_1)).trans hx314_1
      have HR314_1 := Aside0.mk hi314_1
      have HC314_1 := Aside0.mk hl314_1
      clear hi314_1 hl314_1
      replace p314 := eq_true p314
      replace q314 := eq_true q314
      try go_wp2_with (first | ((with_reducible refine gate_dst (N := 9) rfl ?_); refine box_event ?hg (N := 9) ?hd (cs := #[.int .i64 0, .slice none 0 0]) (t := 25) ?hr ?_; (case hd => rfl); (case hg => rfl); (case hr => first | (go_simp; done) | (go_simp; rfl)); intro gb315 hg w13 hbox hb; have n0_ := bb BK312 hb; have n1_ := bb BK313 hb; have n2_ := am (below_step (pb HB) hb); have n3_ := am (hbox); have n4_ := am ((by rw [hg]; exact (below_size (pb HB)) : w.heap.size ≤ gb315)); have n5_ := am ((by rw [hg]; exact (below_size (pb HB)) : w.heap.size ≤ gb315)); have n6_ := am ((by rw [hg]; exact Nat.ne_of_lt (bl BK312) : gb312 ≠ gb315)); have n7_ := am ((by rw [hg]; exact Nat.ne_of_gt (bl BK312) : gb315 ≠ gb312)); have n8_ := am ((by rw [hg]; exact Nat.ne_of_lt (bl BK313) : gb313 ≠ gb315)); have n9_ := am ((by rw [hg]; exact Nat.ne_of_gt (bl BK313) : gb315 ≠ gb313)); clear BK312 BK313 HB; have BK312 := n0_; have BK313 := n1_; have HB := n2_; have BK315 := n3_; have GW315 := n4_; have GE315 := n5_; have NB312_315 := n6_; have NB315_312 := n7_; have NB313_315 := n8_; have NB315_313 := n9_; clear n0_ n1_ n2_ n3_ n4_ n5_ n6_ n7_ n8_ n9_ hb hbox hg; have hnb14 := NB315_312.out; have hnc14 := NB312_315.out; have hnb15 := NB315_313.out; have hnc15 := NB313_315.out; have hcz16_0 : w13.cell? ⟨gb315, 0, none⟩ = some (.int .i64 0) := (blk_cell BK315.out 0).trans rfl; have hcz16_1 : w13.cell? ⟨gb315, 1, none⟩ = some (.slice none 0 0) := (blk_cell BK315.out 1).trans rfl; have hfz16_0 := blk_frozen BK315.out 0; have hfz16_1 := blk_frozen BK315.out 1))
      have n0_ : Aside0 (((w13.setCell ⟨gb315, 0, none⟩ (.int .i64 ((rd_T25 l1_1 x13_1).f0))).setCell ⟨gb315, 1, none⟩ (.slice A314_1 ((rd_T25 l1_1 x13_1).f1).length c314_1)).heap[gb312]? = some (.cells #[.int .i64 a0_0, .slice A0_1 l0_1.length c0_1] 25 (0, 0))) := ⟨by (with_reducible repeat (first | refine blk_drewN ?_ _ | refine blk_drew ?_ | refine blk_alloc ?_ _)); refine blk_far ?_ NB312_315.out _; (with_reducible repeat (first | refine blk_drewN ?_ _ | refine blk_drew ?_ | refine blk_alloc ?_ _)); refine blk_far ?_ NB312_315.out _; (with_reducible repeat (first | refine blk_drewN ?_ _ | refine blk_drew ?_ | refine blk_alloc ?_ _)); exact BK312.out⟩
      have n1_ : Aside0 (((w13.setCell ⟨gb315, 0, none⟩ (.int .i64 ((rd_T25 l1_1 x13_1).f0))).setCell ⟨gb315, 1, none⟩ (.slice A314_1 ((rd_T25 l1_1 x13_1).f1).length c314_1)).heap[gb313]? = some (.cells #[.int .i64 a1_0, .slice (some ad314) l1_1.length c1_1] 55 (0, 0))) := ⟨by (with_reducible repeat (first | refine blk_drewN ?_ _ | refine blk_drew ?_ | refine blk_alloc ?_ _)); refine blk_far ?_ NB313_315.out _; (with_reducible repeat (first | refine blk_drewN ?_ _ | refine blk_drew ?_ | refine blk_alloc ?_ _)); refine blk_far ?_ NB313_315.out _; (with_reducible repeat (first | refine blk_drewN ?_ _ | refine blk_drew ?_ | refine blk_alloc ?_ _)); exact BK313.out⟩
      have n2_ : Aside0 (((w13.setCell ⟨gb315, 0, none⟩ (.int .i64 ((rd_T25 l1_1 x13_1).f0))).setCell ⟨gb315, 1, none⟩ (.slice A314_1 ((rd_T25 l1_1 x13_1).f1).length c314_1)).heap[gb315]? = some (.cells #[.int .i64 ((rd_T25 l1_1 x13_1).f0), .slice A314_1 ((rd_T25 l1_1 x13_1).f1).length c314_1] 25 (0, 0))) := ⟨by (with_reducible repeat (first | refine blk_drewN ?_ _ | refine blk_drew ?_ | refine blk_alloc ?_ _)); refine blk_put (cs := #[.int .i64 ((rd_T25 l1_1 x13_1).f0), .slice none 0 0]) ?_ 1 _ rfl; (with_reducible repeat (first | refine blk_drewN ?_ _ | refine blk_drew ?_ | refine blk_alloc ?_ _)); refine blk_put (cs := #[.int .i64 0, .slice none 0 0]) ?_ 0 _ rfl; (with_reducible repeat (first | refine blk_drewN ?_ _ | refine blk_drew ?_ | refine blk_alloc ?_ _)); exact BK315.out⟩
      have n3_ : Aside0 (Below w.heap.size w ((w13.setCell ⟨gb315, 0, none⟩ (.int .i64 ((rd_T25 l1_1 x13_1).f0))).setCell ⟨gb315, 1, none⟩ (.slice A314_1 ((rd_T25 l1_1 x13_1).f1).length c314_1))) := ⟨pb HB⟩
      (try clear BK312)
      (try clear BK313)
      (try clear BK315)
      (try clear HB)
      generalize ((w13.setCell ⟨gb315, 0, none⟩ (.int .i64 ((rd_T25 l1_1 x13_1).f0))).setCell ⟨gb315, 1, none⟩ (.slice A314_1 ((rd_T25 l1_1 x13_1).f1).length c314_1)) = w17 at n0_ n1_ n2_ n3_ ⊢
      have BK312 := n0_
      have BK313 := n1_
      have BK315 := n2_
      have HB := n3_
      clear n0_ n1_ n2_ n3_
      have n0_ := am (blk_drew BK312.out)
      have n1_ := am (blk_drew BK313.out)
      have n2_ := am (blk_drew BK315.out)
      have n3_ := am (below_drew1 HB.out)
      clear BK312
      clear BK313
      clear BK315
      clear HB
      have BK312 := n0_
      have BK313 := n1_
      have BK315 := n2_
      have HB := n3_
      clear n0_ n1_ n2_ n3_
      refine start_ (n := 10) (S := fun w' => w'.cell? ⟨gb312, 0, none⟩ = some (.int .i64 a0_0) ∧ w'.cell? ⟨gb312, 1, none⟩ = some (.slice A0_1 l0_1.length c0_1) ∧ w'.cell? ⟨gb315, 0, none⟩ = some (.int .i64 ((rd_T25 l1_1 x13_1).f0)) ∧ w'.cell? ⟨gb315, 1, none⟩ = some (.slice A314_1 ((rd_T25 l1_1 x13_1).f1).length c314_1)) (ds := []) #[F, F, F, F, F, F, F, F, F, F] (by kernel_rfl) rfl rfl ⟨(blk_cell BK312.out 0).trans rfl, (blk_cell BK312.out 1).trans rfl, (blk_cell BK315.out 0).trans rfl, (blk_cell BK315.out 1).trans rfl⟩ (fun hHeld => ?_); refine with_tabW downpourref03_bit.tab5 downpourref03_bit.bits5 (fun HT_ HW_ => ?_)
      generalize w17.drew = w18 at BK312 BK313 BK315 HB hHeld ⊢
      refine pure_ (i := 0) (N := some 18) (v := ?_) (a' := ?_) #[T, F, F, F, F, F, F, F, F, F] rfl rfl (any_of HT_.out (by kernel_rfl)) (fun _ _ _ h => h) (Or.inl ⟨by rfl, ?_⟩) ?_ ?_
      rotate_left
      ·
       intro w'
       go_simp
       with_reducible rfl
      rotate_left
      ·
       simp only [Act.put, q1, q2, q3, i64_w, i32_w]
       rfl
      refine pure_ (i := 2) (N := some 20) (v := ?_) (a' := ?_) #[T, F, T, F, F, F, F, F, F, F] rfl rfl (any_of HT_.out (by kernel_rfl)) (fun _ _ _ h => h) (Or.inl ⟨by rfl, ?_⟩) ?_ ?_
      rotate_left
      ·
       intro w'
       go_simp
       with_reducible rfl
      rotate_left
      ·
       simp only [Act.put, q1, q2, q3, i64_w, i32_w]
       rfl
      refine pure_ (i := 5) (N := some 23) (v := ?_) (a' := ?_) #[T, F, T, F, F, T, F, F, F, F] rfl rfl (any_of HT_.out (by kernel_rfl)) (fun _ _ _ h => h) (Or.inl ⟨by rfl, ?_⟩) ?_ ?_
      rotate_left
      ·
       intro w'
       go_simp
       with_reducible rfl
      rotate_left
      ·
       simp only [Act.put, q1, q2, q3, i64_w, i32_w]
       rfl
      refine take_ (i := 1) (N := some 19) (v := ?_) (a' := ?_) #[T, T, T, F, F, T, F, F, F, F] rfl rfl (take_ofW HT_.out HW_.out (by kernel_rfl)) (fun _ _ _ h => h) (Or.inl ⟨by rfl, ?_⟩) hHeld ?_ ?_
      rotate_left
      ·
       rintro w' ⟨s0, s1, s2, s3⟩
       go_simp
       with_reducible rfl
      rotate_left
      ·
       simp only [Act.put, q1, q2, q3, i64_w, i32_w]
       rfl
      refine take_ (i := 4) (N := some 22) (v := ?_) (a' := ?_) #[T, T, T, F, T, T, F, F, F, F] rfl rfl (take_ofW HT_.out HW_.out (by kernel_rfl)) (fun _ _ _ h => h) (Or.inl ⟨by rfl, ?_⟩) hHeld ?_ ?_
      rotate_left
      ·
       rintro w' ⟨s0, s1, s2, s3⟩
       go_simp
       with_reducible rfl
      rotate_left
      ·
       simp only [Act.put, q1, q2, q3, i64_w, i32_w]
       rfl
      refine one_ (i := 3) (N := some 21) #[T, T, T, T, T, T, F, F, F, F] rfl rfl (one_of HT_.out (by kernel_rfl)) (by decide) (fun K hK => ?_)
      refine goes_ Tryd.func26 (by kernel_rfl) rfl #[.agg #[.int .i64 a0_0, .slice A0_1 l0_1.length c0_1], .int .i64 x13_1] (by rfl) rfl rfl (by (try simp only [List.map_toArray, List.map_cons, List.map_nil]); first | done | rfl | (simp only [List.length_drop, List.length_take]; rfl)) ?_
      with_reducible refine (downpourref01_Bit.calls a0_0 _ _ l0_1 x13_1 t316 _ ?side1 ?side2 A11.out).mono ?_
      (case side1 => repeat (first | exact (Kd.C_below HR0_1.out HB.out) | (with_reducible refine Kd.C_alloc ?_ _) | (with_reducible refine Kd.C_drewN ?_ _) | (with_reducible refine Kd.C_drew ?_)))
      (case side2 => exact HC0_1.out)
      rintro e w19 ⟨rfl, hb⟩
      refine ⟨_, rfl, ?_⟩
      have n0_ := bb BK312 hb
      have n1_ := bb BK313 hb
      have n2_ := bb BK315 hb
      have n3_ := am (below_step (pb HB) hb)
      clear BK312
      clear BK313
      clear BK315
      clear HB
      have BK312 := n0_
      have BK313 := n1_
      have BK315 := n2_
      have HB := n3_
      clear n0_ n1_ n2_ n3_
      (try clear hb)
      (try clear hb2)
      (try clear hk)
      (try clear hi)
      refine hK.out _ _ ⟨(blk_cell BK312.out 0).trans rfl, (blk_cell BK312.out 1).trans rfl, (blk_cell BK315.out 0).trans rfl, (blk_cell BK315.out 1).trans rfl⟩ (fun hHeld => ?_)
      clear hK K
      refine norm_ (a' := ?_) ?_ ?_
      rotate_left
      ·
       show Act.put _ (some 21) _ = _
       simp only [Act.put, q1, q2, q3, i64_w, i32_w]
       rfl
      refine one_ (i := 6) (N := some 24) #[T, T, T, T, T, T, T, F, F, F] rfl rfl (one_of HT_.out (by kernel_rfl)) (by decide) (fun K hK => ?_)
      refine goes_ Tryd.func26 (by kernel_rfl) rfl #[.agg #[.int .i64 ((rd_T25 l1_1 x13_1).f0), .slice A314_1 ((rd_T25 l1_1 x13_1).f1).length c314_1], .int .i64 a2] (by rfl) rfl rfl (by (try simp only [List.map_toArray, List.map_cons, List.map_nil]); first | done | rfl | (simp only [List.length_drop, List.length_take]; rfl)) ?_
      with_reducible refine (downpourref01_Bit.calls ((rd_T25 l1_1 x13_1).f0) _ _ ((rd_T25 l1_1 x13_1).f1) a2 t317 _ ?side1 ?side2 A12.out).mono ?_
      (case side1 => repeat (first | exact (Kd.C_below HR314_1.out HB.out) | (with_reducible refine Kd.C_alloc ?_ _) | (with_reducible refine Kd.C_drewN ?_ _) | (with_reducible refine Kd.C_drew ?_)))
      (case side2 => exact HC314_1.out)
      rintro e w20 ⟨rfl, hb⟩
      refine ⟨_, rfl, ?_⟩
      have n0_ := bb BK312 hb
      have n1_ := bb BK313 hb
      have n2_ := bb BK315 hb
      have n3_ := am (below_step (pb HB) hb)
      clear BK312
      clear BK313
      clear BK315
      clear HB
      have BK312 := n0_
      have BK313 := n1_
      have BK315 := n2_
      have HB := n3_
      clear n0_ n1_ n2_ n3_
      (try clear hb)
      (try clear hb2)
      (try clear hk)
      (try clear hi)
      refine hK.out _ _ ⟨(blk_cell BK312.out 0).trans rfl, (blk_cell BK312.out 1).trans rfl, (blk_cell BK315.out 0).trans rfl, (blk_cell BK315.out 1).trans rfl⟩ (fun hHeld => ?_)
      clear hK K
      refine norm_ (a' := ?_) ?_ ?_
      rotate_left
      ·
       show Act.put _ (some 24) _ = _
       simp only [Act.put, q1, q2, q3, i64_w, i32_w]
       rfl
      refine pure_ (i := 7) (N := some 25) (v := ?_) (a' := ?_) #[T, T, T, T, T, T, T, T, F, F] rfl rfl (any_of HT_.out (by kernel_rfl)) (fun _ _ _ h => h) (Or.inl ⟨by rfl, ?_⟩) ?_ ?_
      rotate_left
      ·
       intro w'
       go_simp
       with_reducible rfl
      rotate_left
      ·
       simp only [Act.put, q1, q2, q3, i64_w, i32_w]
       rfl
      refine pure_ (i := 8) (N := some 26) (v := ?_) (a' := ?_) #[T, T, T, T, T, T, T, T, T, F] rfl rfl (any_of HT_.out (by kernel_rfl)) (fun _ _ _ h => h) (Or.inl ⟨by rfl, ?_⟩) ?_ ?_
      rotate_left
      ·
       intro w'
       go_simp
       with_reducible rfl
      rotate_left
      ·
       simp only [Act.put, q1, q2, q3, i64_w, i32_w]
       rfl
      refine pure_ (i := 9) (N := some 7) (v := ?_) (a' := ?_) #[T, T, T, T, T, T, T, T, T, T] rfl rfl (any_of HT_.out (by kernel_rfl)) (fun _ _ _ h => h) (Or.inl ⟨by rfl, ?_⟩) ?_ ?_
      rotate_left
      ·
       intro w'
       go_simp
       with_reducible rfl
      rotate_left
      ·
       simp only [Act.put, q1, q2, q3, i64_w, i32_w]
       rfl
      refine done_ (done_of HT_.out (by kernel_rfl)) ?_
      try go_wp2
      go_roundg k1
      case measure => have := HK1.out; omega
      case rel => exact ⟨(wrap64 (x7_1 + (wrap64 (t316 * t317)))), (wrap64 (x13_1 + 1)), (by first | rfl | (simp; done) | (simp [*]; done)), (by first | rfl | (simp; done) | (simp [*]; done)), H', ⟨by have := HK1.out; omega⟩, ⟨by (with_reducible repeat (first | refine blk_drewN ?_ _ | refine blk_drew ?_ | refine blk_alloc ?_ _)); exact BK312.out⟩, ⟨by (with_reducible repeat (first | refine blk_drewN ?_ _ | refine blk_drew ?_ | refine blk_alloc ?_ _)); exact BK313.out⟩, ⟨pb HB⟩⟩
     ·
      rw [if_neg c10] at H
      exact absurd H (by simp)
    ·
     rw [if_neg c9] at H
     exact absurd H (by simp)
   ·
    rw [if_neg c8] at H
    have c8b0 : decide (x13_1 < (l1_1.length : Int)) = false := decide_eq_false c8
    clear c8
    obtain rfl := Option.some.inj H
    go_wp2
    go_ret
    exact ⟨by first | rfl | (simp [errW_none, errW_some] <;> rfl) | (simp [*, errW_none, errW_some] <;> rfl), pb HB⟩

end Go.Proofs.YtfcedhejbnoinaaDoor.PM
