-- PRINTED by print.py (a twelfth state) out of the translation. Not trusted: Lean checks it.
import Derived.Test.YtfcedhejbnoinaaPAx0
import Derived.Test.YtfcedhejbnoinaaPAx1
import Derived.Test.YtfcedhejbnoinaaPAx4
import Derived.Test.YtfcedhejbnoinaaPAx5
import Derived.Test.YtfcedhejbnoinaaPAx7
import Derived.Test.YtfcedhejbnoinaaPAx10
namespace Go.Proofs.Ytfcedhejbnoinaa.PA
open Go.RowKit Go.Proofs.YtfcedhejbnoinaaW.PrintWords Go.Proofs.YtfcedhejbnoinaaW.PrintLast Go.Proofs.YtfcedhejbnoinaaW.PrintMore
attribute [local go_sem] run_store_func max2_int min2_int max_two min_two max_three min_three max_four min_four   -- for this text's walks alone
set_option linter.unusedVariables false
set_option linter.unusedSimpArgs false

/-! ### downpourref04_Places: function 15 -/
def downpourref04_Places.l0 : Nat → List Int → List (S40) → Int → Int → Option (List Int)
 | 0, _, _, _, _ => none
 | k + 1, x3, x7, x8, x9 => if x9 < x8 then (if 0 ≤ x9 then (if x9 < (x7.length : Int) then ((downpourref04_First.f k ((rd_T40 x7 x9).f0) ((rd_T40 x7 x9).f1)).bind fun t293 => (if x3.length < 17592186044416 then (downpourref04_Places.l0 k (x3 ++ [t293]) x7 x8 (wrap64 (x9 + 1))) else (none))) else (none)) else (none)) else (some x3)
def downpourref04_Places.f (k : Nat) (l0 : List (S40)) : Option (List Int) := downpourref04_Places.l0 k (([] : List Int)) l0 (l0.length : Int) 0
theorem downpourref04_Places.mono_l : ∀ k, (∀ y0 y1 y2 y3, LeO (downpourref04_Places.l0 k y0 y1 y2 y3) (downpourref04_Places.l0 (k + 1) y0 y1 y2 y3))
 | 0 => fun _ _ _ _ r h => by simp [downpourref04_Places.l0] at h
 | k + 1 => by
  have ih0 := downpourref04_Places.mono_l k
  ·
   intro y0 y1 y2 y3
   unfold downpourref04_Places.l0
   repeat' first
   | (with_reducible exact ih0 _ _ _ _)
   | (with_reducible exact downpourref04_First.mono _ _ _)
   | (with_reducible exact LeO.refl _)
   | (with_reducible exact LeO.none _)
   | (with_reducible refine LeO.ite ?_ ?_)
   | (with_reducible refine LeO.bind ?_ (fun _ => ?_))
   | exact ih0 _ _ _ _
   | exact downpourref04_First.mono _ _ _
   | exact LeO.none _
   | refine LeO.ite ?_ ?_
   | refine LeO.bind ?_ (fun _ => ?_)
theorem downpourref04_Places.mono : ∀ a0 k, LeO (downpourref04_Places.f k a0) (downpourref04_Places.f (k + 1) a0) := by
 intro a0 k
 have ih0 := downpourref04_Places.mono_l k
 unfold downpourref04_Places.f
 repeat' first
   | (with_reducible exact ih0 _ _ _ _)
   | (with_reducible exact downpourref04_First.mono _ _ _)
   | (with_reducible exact LeO.refl _)
   | (with_reducible exact LeO.none _)
   | (with_reducible refine LeO.ite ?_ ?_)
   | (with_reducible refine LeO.bind ?_ (fun _ => ?_))
   | exact ih0 _ _ _ _
   | exact downpourref04_First.mono _ _ _
   | exact LeO.none _
   | refine LeO.ite ?_ ?_
   | refine LeO.bind ?_ (fun _ => ?_)
set_option maxHeartbeats 8000000 in
set_option maxRecDepth 100000 in
theorem downpourref04_Places.calls (k : Nat) (A0 : Option Addr) (c0 : Nat) (l0 : List (S40)) (r : List Int) (w : World) (hr0 : Kd.C k40 w A0 l0.length l0) (hc0 : l0.length ≤ c0) (h : downpourref04_Places.f k l0 = some r) :
  Calls Try.prog 15 #[.slice A0 l0.length c0] w fun e w' => ∃ v0_ : Value, e = .returned (v0_) ∧ Kd.R (Kd.int .i64) 3 w' w.heap.size (fun _ => True) v0_ r ∧ Below w.heap.size w w' := by
 have hu40 := Try.underlying40
 have HR0 := Aside0.mk hr0
 have HC0 := Aside0.mk hc0
 clear hr0 hc0
 have HB := am (Below.refl w.heap.size w)
 have H : (downpourref04_Places.l0 k (([] : List Int)) l0 (l0.length : Int) 0) = some r := h
 clear h
 obtain ⟨y288, hy288⟩ : ∃ y_ : List Int, y_ = (([] : List Int)) := ⟨_, rfl⟩
 replace H : (downpourref04_Places.l0 k y288 l0 (l0.length : Int) 0) = some r := by first | (rw [hy288]; with_reducible exact H) | (have H2_ := (Option.bind_some _ _).symm.trans H; rw [hy288]; with_reducible exact H2_) | (have H2_ := (Option.bind_some _ _).symm.trans H; with_reducible exact H2_) | with_reducible exact H | (rw [hy288]; exact H) | exact H
 have Ny288 := Aside0.mk hy288
 clear hy288
 have H' := Aside0.mk H
 clear H
 go_enter Try.func15, Try.ntmps15
 go_wp2_with (first | ((with_reducible refine gate_dst (N := 6) rfl ?_); refine Kd.R_lit (Kd.int .i64) _ 3 ?hg (N := 6) ?hd (xs := ([] : List Int)) (inner := []) (ok := fun _ => True) (okp := fun _ => True) ?hr ?hp (fun _ hk => hk) trivial (Below.refl _ _) (Nat.le_refl _) (by simp) ?_; (case hd => rfl); (case hg => rfl); (case hr => first | (go_simp; done) | (go_simp; rfl)); (case hp => exact (Reps.none _ _)); intro v289 w2 ho3 hb hg_ hnew_; clear hg_ hnew_; (first | rw [← Ny288.out] at ho3 | (simp only [Int.reduceToNat] at ho3; rw [← Ny288.out] at ho3)); have n0_ := am (Kd.R_lower ho3 (below_size (pb HB))); have n1_ := am (below_step (pb HB) hb); clear HB; have HO290 := n0_; have HB := n1_; clear n0_ n1_ hb ho3))
 go_loopg [3, 9] k (fun kq v3 v9 w' => ∃ (x3_1 : List Int) (x9_1 : Int), v9 = .int .i64 x9_1 ∧ Aside0 (downpourref04_Places.l0 kq x3_1 l0 (l0.length : Int) x9_1 = some r) ∧ Aside0 (kq ≤ k) ∧ Aside0 (Kd.R (Kd.int .i64) 3 w' w.heap.size (fun _ => True) v3 x3_1) ∧ Aside0 (Below w.heap.size w w'))
 case atStart => exact ⟨(y288), (0), (by first | rfl | (simp; done) | (simp [*]; done)), H', ⟨Nat.le_refl _⟩, ⟨by (with_reducible repeat (first | apply Kd.R_alloc | apply Kd.R_drewN | apply Kd.R_drew)); exact HO290.out⟩, ⟨pb HB⟩⟩
 case round =>
  clear H'
  try clear c1
  try clear p2
  obtain ⟨x3_1, x9_1, rfl, HA, HK1, HO_3, HB⟩ := hrel
  cases gk with
  | zero => exact absurd HA.out (by simp [downpourref04_Places.l0])
  | succ k1 =>
   have H := HA.out
   clear HA
   simp only [downpourref04_Places.l0] at H
   by_cases c4 : x9_1 < (l0.length : Int)
   ·
    rw [if_pos c4] at H
    have c4b0 : decide (x9_1 < (l0.length : Int)) = true := decide_eq_true c4
    clear c4
    by_cases c5 : 0 ≤ x9_1
    ·
     rw [if_pos c5] at H
     have c5b0 : decide (0 ≤ x9_1) = true := decide_eq_true c5
     clear c5
     by_cases c6 : x9_1 < (l0.length : Int)
     ·
      rw [if_pos c6] at H
      have c6b0 : decide (x9_1 < (l0.length : Int)) = true := decide_eq_true c6
      clear c6
      replace H := Option.bind_eq_some_iff.mp H
      obtain ⟨t293, A70, H⟩ := H
      replace H : (if x3_1.length < 17592186044416 then (downpourref04_Places.l0 k1 (x3_1 ++ [t293]) l0 (l0.length : Int) (wrap64 (x9_1 + 1))) else (none)) = some r := H
      have A7 := Aside0.mk A70
      clear A70
      by_cases c8 : x3_1.length < 17592186044416
      ·
       rw [if_pos c8] at H
       have LMc8 := Aside0.mk c8
       clear c8
       obtain ⟨y294, hy294⟩ : ∃ y_ : List Int, y_ = (x3_1 ++ [t293]) := ⟨_, rfl⟩
       replace H : (downpourref04_Places.l0 k1 y294 l0 (l0.length : Int) (wrap64 (x9_1 + 1))) = some r := by first | (rw [hy294]; with_reducible exact H) | (have H2_ := (Option.bind_some _ _).symm.trans H; rw [hy294]; with_reducible exact H2_) | (have H2_ := (Option.bind_some _ _).symm.trans H; with_reducible exact H2_) | with_reducible exact H | (rw [hy294]; exact H) | exact H
       have Ny294 := Aside0.mk hy294
       clear hy294
       have H' := Aside0.mk H
       clear H
       have p291 : 0 ≤ (x9_1 : Int) := of_decide_eq_true (by first | (with_reducible assumption) | assumption)
       have q291 : x9_1 < (l0.length : Int) := of_decide_eq_true (by first | (with_reducible assumption) | assumption)
       obtain ⟨ad291, A291_1, c291_1, e291, hx291_0, hx291_1, hl291_1, hi291_1⟩ := at_T40 HR0.out x9_1 p291 q291
       cases e291
       replace hx291_0 := (HB.out.cell (World.block_lt_of_cell? w _ hx291_0)).trans hx291_0
       replace hx291_1 := (HB.out.cell (World.block_lt_of_cell? w _ hx291_1)).trans hx291_1
       have HR291_1 := Aside0.mk hi291_1
       have HC291_1 := Aside0.mk hl291_1
       clear hi291_1 hl291_1
       replace p291 := eq_true p291
       replace q291 := eq_true q291
       go_wp2_with (first | ((with_reducible refine gate_dst (N := 5) rfl ?_); refine box_event ?hg (N := 5) ?hd (cs := #[.int .i64 0, .slice none 0 0]) (t := 40) ?hr ?_; (case hd => rfl); (case hg => rfl); (case hr => first | (go_simp; done) | (go_simp; rfl)); intro gb292 hg w9 hbox hb; have n0_ := am (Kd.R_below (pr HO_3) hb); have n1_ := am (below_step (pb HB) hb); have n2_ := am (hbox); have n3_ := am ((by rw [hg]; exact (below_size (pb HB)) : w.heap.size ≤ gb292)); have n4_ := am ((by rw [hg]; exact (below_size (pb HB)) : w.heap.size ≤ gb292)); clear HO_3 HB; have HO_3 := n0_; have HB := n1_; have BK292 := n2_; have GW292 := n3_; have GE292 := n4_; clear n0_ n1_ n2_ n3_ n4_ hb hbox hg; have hcz10_0 : w9.cell? ⟨gb292, 0, none⟩ = some (.int .i64 0) := (blk_cell BK292.out 0).trans rfl; have hcz10_1 : w9.cell? ⟨gb292, 1, none⟩ = some (.slice none 0 0) := (blk_cell BK292.out 1).trans rfl; have hfz10_0 := blk_frozen BK292.out 0; have hfz10_1 := blk_frozen BK292.out 1) | ((with_reducible refine gate_callee (f := 31) rfl ?_); refine goesL_ (some 15) rfl rfl Try.func31 (by kernel_rfl) rfl #[.agg #[.int .i64 ((rd_T40 l0 x9_1).f0), .slice A291_1 ((rd_T40 l0 x9_1).f1).length c291_1]] rfl (by (try simp only [List.map_toArray, List.map_cons, List.map_nil]); first | done | rfl | (simp only [List.length_drop, List.length_take]; rfl)) ?_; (with_reducible refine (downpourref04_First.calls k1 ((rd_T40 l0 x9_1).f0) _ _ ((rd_T40 l0 x9_1).f1) t293 _ ?side1 ?side2 A7.out).mono ?_); (case side1 => exact Kd.C_below HR291_1.out (pb HB)); (case side2 => exact HC291_1.out); rintro e w11 ⟨rfl, hb⟩; refine ⟨_, rfl, ?_⟩; have n0_ := am (Kd.R_below (by (with_reducible repeat (first | apply Kd.R_alloc | apply Kd.R_drewN | apply Kd.R_drew)); exact (Kd.R_mono (Kd.R_far (p := ⟨gb292, 1, none⟩) (Kd.R_far (p := ⟨gb292, 0, none⟩) (Kd.R_types HO_3.out BK292.out (by decide)) (fun _ hk => hk.2) (.int .i64 ((rd_T40 l0 x9_1).f0))) (fun _ hk => hk.2) (.slice A291_1 ((rd_T40 l0 x9_1).f1).length c291_1)) (fun _ h_ => h_.1))) hb); have n1_ := am (blk_below (g := gb292) (o := .cells #[.int .i64 ((rd_T40 l0 x9_1).f0), .slice A291_1 ((rd_T40 l0 x9_1).f1).length c291_1] 40 (0, 0)) (by (with_reducible repeat (first | refine blk_drewN ?_ _ | refine blk_drew ?_ | refine blk_alloc ?_ _)); refine blk_put (cs := #[.int .i64 ((rd_T40 l0 x9_1).f0), .slice none 0 0]) ?_ 1 _ rfl; (with_reducible repeat (first | refine blk_drewN ?_ _ | refine blk_drew ?_ | refine blk_alloc ?_ _)); refine blk_put (cs := #[.int .i64 0, .slice none 0 0]) ?_ 0 _ rfl; (with_reducible repeat (first | refine blk_drewN ?_ _ | refine blk_drew ?_ | refine blk_alloc ?_ _)); exact BK292.out) hb); have n2_ := am (below_step (pb HB) hb); clear HO_3 BK292 HB; have HO_3 := n0_; have BK292 := n1_; have HB := n2_; clear n0_ n1_ n2_; (try clear hb); (try clear hb2); (try clear hk); (try clear hi)) | ((with_reducible refine gate_builtin (b := .append) (xs := #[.tmp 13, .tmp 16]) rfl ?_); at_builtin; refine Kd.R_append (Kd.int .i64) (w0 := w) w.heap.size rfl (.tmp 13) (.tmp 16) 26 3 (.int .i64 0) 8 rfl Try.underlying26 info3 rfl (by decide) (by omega) u3 x3_1 t293 [.int .i64 t293] (fun _ => True) (fun _ => False) rfl rfl ?aP (fun _ hk => hk.elim) ?aF ?aO ?aB ?aS ?aL ?_; (case aP => exact rfl); (case aB => exact (pb HB)); (case aF => exact (fun _ _ => trivial)); (case aO => exact (pr HO_3)); (case aS => exact (below_size (pb HB))); (case aL => have := LMc8.out; omega); intro v295 w12 ho hb hg hat; rw [← Ny294.out] at ho; have n0_ := am (blk_grown (g := gb292) (o := .cells #[.int .i64 ((rd_T40 l0 x9_1).f0), .slice A291_1 ((rd_T40 l0 x9_1).f1).length c291_1] 40 (0, 0)) (pk BK292) hg (Kd.R_ne HO_3.out BK292.out (by decide))); have n1_ := am (hb); have n2_ := am (ho); clear BK292 HB HO_3; have BK292 := n0_; have HB := n1_; have HO296 := n2_; clear n0_ n1_ n2_ ho hb hg hat))
       go_roundg k1
       case measure => have := HK1.out; omega
       case rel => exact ⟨(y294), (wrap64 (x9_1 + 1)), (by first | rfl | (simp; done) | (simp [*]; done)), H', ⟨by have := HK1.out; omega⟩, ⟨by (with_reducible repeat (first | apply Kd.R_alloc | apply Kd.R_drewN | apply Kd.R_drew)); exact HO296.out⟩, ⟨pb HB⟩⟩
      ·
       rw [if_neg c8] at H
       exact absurd H (by simp)
     ·
      rw [if_neg c6] at H
      exact absurd H (by simp)
    ·
     rw [if_neg c5] at H
     exact absurd H (by simp)
   ·
    rw [if_neg c4] at H
    have c4b0 : decide (x9_1 < (l0.length : Int)) = false := decide_eq_false c4
    clear c4
    obtain rfl := Option.some.inj H
    go_wp2
    go_ret
    exact ⟨_, by first | rfl | (simp [errW_none, errW_some] <;> rfl) | (simp [*, errW_none, errW_some] <;> rfl), by (with_reducible repeat (first | apply Kd.R_alloc | apply Kd.R_drewN | apply Kd.R_drew)); exact HO_3.out, pb HB⟩

/-! ### downpourlaw04_ReduceRows: function 3 -/
def downpourlaw04_ReduceRows.f (k : Nat) (a0_0 : Int) (l0_1 : List (S40)) : Option (Bool) := (downpourlaw04_few.f k a0_0 l0_1).bind fun bt298 => ((reduce_Echelon.f k bt298.1 bt298.2).bind fun bt302 => ((reduce_Rank.f k bt298.1 bt298.2).bind fun bt311 => ((downpourref03_Right.f k bt298.1 bt298.2).bind fun t313 => (if t313 = true then ((downpourref04_Echelon.f k bt298.1 bt298.2).bind fun t316 => ((downpourlaw04_alive.f k).bind fun t319 => (if t319 = true then (if bt302.2.2.2 = 0 then (if bt311.2 = 0 then ((downpourref03_Same.f k bt302.1 bt302.2.1 bt298.1 t316).bind fun t320 => (if t320 = true then ((downpourref04_Places.f k t316).bind fun t321 => ((downpourref01_Numbers.f k bt302.2.2.1 t321).bind fun t324 => (if t324 = true then (some (bt311.1 == (t316.length : Int))) else (none)))) else (none))) else (none)) else (none)) else (none)))) else ((downpourlaw04_alive.f k).bind fun t314 => (if t314 = true then (if bt302.2.2.2 = 1 then (if bt311.2 = 1 then ((downpourref03_Same.f k bt302.1 bt302.2.1 0 ([] : List (S40))).bind fun t315 => (if t315 = true then (if (bt302.2.2.1.length : Int) = 0 then (some (bt311.1 == 0)) else (none)) else (none))) else (none)) else (none)) else (none)))))))
theorem downpourlaw04_ReduceRows.mono : ∀ a0 a1 k, LeO (downpourlaw04_ReduceRows.f k a0 a1) (downpourlaw04_ReduceRows.f (k + 1) a0 a1) := by
 intro a0 a1 k
 unfold downpourlaw04_ReduceRows.f
 repeat' first
   | (with_reducible exact downpourlaw04_alive.mono _)
   | (with_reducible exact downpourlaw04_few.mono _ _ _)
   | (with_reducible exact downpourref01_Numbers.mono _ _ _)
   | (with_reducible exact downpourref03_Right.mono _ _ _)
   | (with_reducible exact downpourref03_Same.mono _ _ _ _ _)
   | (with_reducible exact downpourref04_Echelon.mono _ _ _)
   | (with_reducible exact downpourref04_Places.mono _ _)
   | (with_reducible exact reduce_Echelon.mono _ _ _)
   | (with_reducible exact reduce_Rank.mono _ _ _)
   | (with_reducible exact LeO.refl _)
   | (with_reducible exact LeO.none _)
   | (with_reducible refine LeO.ite ?_ ?_)
   | (with_reducible refine LeO.bind ?_ (fun _ => ?_))
   | exact downpourlaw04_alive.mono _
   | exact downpourlaw04_few.mono _ _ _
   | exact downpourref01_Numbers.mono _ _ _
   | exact downpourref03_Right.mono _ _ _
   | exact downpourref03_Same.mono _ _ _ _ _
   | exact downpourref04_Echelon.mono _ _ _
   | exact downpourref04_Places.mono _ _
   | exact reduce_Echelon.mono _ _ _
   | exact reduce_Rank.mono _ _ _
   | exact LeO.none _
   | refine LeO.ite ?_ ?_
   | refine LeO.bind ?_ (fun _ => ?_)
set_option maxHeartbeats 8000000 in
set_option maxRecDepth 100000 in
theorem downpourlaw04_ReduceRows.calls (k : Nat) (a0_0 : Int) (A0_1 : Option Addr) (c0_1 : Nat) (l0_1 : List (S40)) (r : Bool) (w : World) (hr0_1 : Kd.C k40 w A0_1 l0_1.length l0_1) (hc0_1 : l0_1.length ≤ c0_1) (h : downpourlaw04_ReduceRows.f k a0_0 l0_1 = some r) :
  Calls Try.prog 3 #[.agg #[.int .i64 a0_0, .slice A0_1 l0_1.length c0_1]] w fun e w' => e = .returned (.bool r) ∧ Below w.heap.size w w' := by
 have hu24 := Try.underlying24
 have HR0_1 := Aside0.mk hr0_1
 have HC0_1 := Aside0.mk hc0_1
 clear hr0_1 hc0_1
 have HB := am (Below.refl w.heap.size w)
 have H : ((downpourlaw04_few.f k a0_0 l0_1).bind fun bt298 => ((reduce_Echelon.f k bt298.1 bt298.2).bind fun bt302 => ((reduce_Rank.f k bt298.1 bt298.2).bind fun bt311 => ((downpourref03_Right.f k bt298.1 bt298.2).bind fun t313 => (if t313 = true then ((downpourref04_Echelon.f k bt298.1 bt298.2).bind fun t316 => ((downpourlaw04_alive.f k).bind fun t319 => (if t319 = true then (if bt302.2.2.2 = 0 then (if bt311.2 = 0 then ((downpourref03_Same.f k bt302.1 bt302.2.1 bt298.1 t316).bind fun t320 => (if t320 = true then ((downpourref04_Places.f k t316).bind fun t321 => ((downpourref01_Numbers.f k bt302.2.2.1 t321).bind fun t324 => (if t324 = true then (some (bt311.1 == (t316.length : Int))) else (none)))) else (none))) else (none)) else (none)) else (none)))) else ((downpourlaw04_alive.f k).bind fun t314 => (if t314 = true then (if bt302.2.2.2 = 1 then (if bt311.2 = 1 then ((downpourref03_Same.f k bt302.1 bt302.2.1 0 ([] : List (S40))).bind fun t315 => (if t315 = true then (if (bt302.2.2.1.length : Int) = 0 then (some (bt311.1 == 0)) else (none)) else (none))) else (none)) else (none)) else (none)))))))) = some r := h
 clear h
 replace H := Option.bind_eq_some_iff.mp H
 obtain ⟨⟨t298, t299⟩, A20, H⟩ := H
 replace H : ((reduce_Echelon.f k t298 t299).bind fun bt302 => ((reduce_Rank.f k t298 t299).bind fun bt311 => ((downpourref03_Right.f k t298 t299).bind fun t313 => (if t313 = true then ((downpourref04_Echelon.f k t298 t299).bind fun t316 => ((downpourlaw04_alive.f k).bind fun t319 => (if t319 = true then (if bt302.2.2.2 = 0 then (if bt311.2 = 0 then ((downpourref03_Same.f k bt302.1 bt302.2.1 t298 t316).bind fun t320 => (if t320 = true then ((downpourref04_Places.f k t316).bind fun t321 => ((downpourref01_Numbers.f k bt302.2.2.1 t321).bind fun t324 => (if t324 = true then (some (bt311.1 == (t316.length : Int))) else (none)))) else (none))) else (none)) else (none)) else (none)))) else ((downpourlaw04_alive.f k).bind fun t314 => (if t314 = true then (if bt302.2.2.2 = 1 then (if bt311.2 = 1 then ((downpourref03_Same.f k bt302.1 bt302.2.1 0 ([] : List (S40))).bind fun t315 => (if t315 = true then (if (bt302.2.2.1.length : Int) = 0 then (some (bt311.1 == 0)) else (none)) else (none))) else (none)) else (none)) else (none))))))) = some r := H
 have A2 := Aside0.mk A20
 clear A20
 replace H := Option.bind_eq_some_iff.mp H
 obtain ⟨⟨t302, t303, t306, t309⟩, A30, H⟩ := H
 replace H : ((reduce_Rank.f k t298 t299).bind fun bt311 => ((downpourref03_Right.f k t298 t299).bind fun t313 => (if t313 = true then ((downpourref04_Echelon.f k t298 t299).bind fun t316 => ((downpourlaw04_alive.f k).bind fun t319 => (if t319 = true then (if t309 = 0 then (if bt311.2 = 0 then ((downpourref03_Same.f k t302 t303 t298 t316).bind fun t320 => (if t320 = true then ((downpourref04_Places.f k t316).bind fun t321 => ((downpourref01_Numbers.f k t306 t321).bind fun t324 => (if t324 = true then (some (bt311.1 == (t316.length : Int))) else (none)))) else (none))) else (none)) else (none)) else (none)))) else ((downpourlaw04_alive.f k).bind fun t314 => (if t314 = true then (if t309 = 1 then (if bt311.2 = 1 then ((downpourref03_Same.f k t302 t303 0 ([] : List (S40))).bind fun t315 => (if t315 = true then (if (t306.length : Int) = 0 then (some (bt311.1 == 0)) else (none)) else (none))) else (none)) else (none)) else (none)))))) = some r := H
 have A3 := Aside0.mk A30
 clear A30
 replace H := Option.bind_eq_some_iff.mp H
 obtain ⟨⟨t311, t312⟩, A40, H⟩ := H
 replace H : ((downpourref03_Right.f k t298 t299).bind fun t313 => (if t313 = true then ((downpourref04_Echelon.f k t298 t299).bind fun t316 => ((downpourlaw04_alive.f k).bind fun t319 => (if t319 = true then (if t309 = 0 then (if t312 = 0 then ((downpourref03_Same.f k t302 t303 t298 t316).bind fun t320 => (if t320 = true then ((downpourref04_Places.f k t316).bind fun t321 => ((downpourref01_Numbers.f k t306 t321).bind fun t324 => (if t324 = true then (some (t311 == (t316.length : Int))) else (none)))) else (none))) else (none)) else (none)) else (none)))) else ((downpourlaw04_alive.f k).bind fun t314 => (if t314 = true then (if t309 = 1 then (if t312 = 1 then ((downpourref03_Same.f k t302 t303 0 ([] : List (S40))).bind fun t315 => (if t315 = true then (if (t306.length : Int) = 0 then (some (t311 == 0)) else (none)) else (none))) else (none)) else (none)) else (none))))) = some r := H
 have A4 := Aside0.mk A40
 clear A40
 replace H := Option.bind_eq_some_iff.mp H
 obtain ⟨t313, A50, H⟩ := H
 replace H : (if t313 = true then ((downpourref04_Echelon.f k t298 t299).bind fun t316 => ((downpourlaw04_alive.f k).bind fun t319 => (if t319 = true then (if t309 = 0 then (if t312 = 0 then ((downpourref03_Same.f k t302 t303 t298 t316).bind fun t320 => (if t320 = true then ((downpourref04_Places.f k t316).bind fun t321 => ((downpourref01_Numbers.f k t306 t321).bind fun t324 => (if t324 = true then (some (t311 == (t316.length : Int))) else (none)))) else (none))) else (none)) else (none)) else (none)))) else ((downpourlaw04_alive.f k).bind fun t314 => (if t314 = true then (if t309 = 1 then (if t312 = 1 then ((downpourref03_Same.f k t302 t303 0 ([] : List (S40))).bind fun t315 => (if t315 = true then (if (t306.length : Int) = 0 then (some (t311 == 0)) else (none)) else (none))) else (none)) else (none)) else (none)))) = some r := H
 have A5 := Aside0.mk A50
 clear A50
 by_cases c6 : t313 = true
 ·
  subst c6
  have H1 : ((downpourref04_Echelon.f k t298 t299).bind fun t316 => ((downpourlaw04_alive.f k).bind fun t319 => (if t319 = true then (if t309 = 0 then (if t312 = 0 then ((downpourref03_Same.f k t302 t303 t298 t316).bind fun t320 => (if t320 = true then ((downpourref04_Places.f k t316).bind fun t321 => ((downpourref01_Numbers.f k t306 t321).bind fun t324 => (if t324 = true then (some (t311 == (t316.length : Int))) else (none)))) else (none))) else (none)) else (none)) else (none)))) = some r := by rw [if_pos rfl] at H; exact H
  clear H
  have H := H1
  clear H1
  replace H := Option.bind_eq_some_iff.mp H
  obtain ⟨t316, A70, H⟩ := H
  replace H : ((downpourlaw04_alive.f k).bind fun t319 => (if t319 = true then (if t309 = 0 then (if t312 = 0 then ((downpourref03_Same.f k t302 t303 t298 t316).bind fun t320 => (if t320 = true then ((downpourref04_Places.f k t316).bind fun t321 => ((downpourref01_Numbers.f k t306 t321).bind fun t324 => (if t324 = true then (some (t311 == (t316.length : Int))) else (none)))) else (none))) else (none)) else (none)) else (none))) = some r := H
  have A7 := Aside0.mk A70
  clear A70
  replace H := Option.bind_eq_some_iff.mp H
  obtain ⟨t319, A80, H⟩ := H
  replace H : (if t319 = true then (if t309 = 0 then (if t312 = 0 then ((downpourref03_Same.f k t302 t303 t298 t316).bind fun t320 => (if t320 = true then ((downpourref04_Places.f k t316).bind fun t321 => ((downpourref01_Numbers.f k t306 t321).bind fun t324 => (if t324 = true then (some (t311 == (t316.length : Int))) else (none)))) else (none))) else (none)) else (none)) else (none)) = some r := H
  have A8 := Aside0.mk A80
  clear A80
  by_cases c9 : t319 = true
  ·
   subst c9
   have H1 : (if t309 = 0 then (if t312 = 0 then ((downpourref03_Same.f k t302 t303 t298 t316).bind fun t320 => (if t320 = true then ((downpourref04_Places.f k t316).bind fun t321 => ((downpourref01_Numbers.f k t306 t321).bind fun t324 => (if t324 = true then (some (t311 == (t316.length : Int))) else (none)))) else (none))) else (none)) else (none)) = some r := by rw [if_pos rfl] at H; exact H
   clear H
   have H := H1
   clear H1
   by_cases c10 : t309 = 0
   ·
    rw [if_pos c10] at H
    have c10b0 : (t309 == 0) = true := beq_iff_eq.mpr c10
    have c10b1 : (t309 != 0) = false := bne_eq_false_iff_eq.mpr c10
    clear c10
    by_cases c11 : t312 = 0
    ·
     rw [if_pos c11] at H
     have c11b0 : (t312 == 0) = true := beq_iff_eq.mpr c11
     have c11b1 : (t312 != 0) = false := bne_eq_false_iff_eq.mpr c11
     clear c11
     replace H := Option.bind_eq_some_iff.mp H
     obtain ⟨t320, A120, H⟩ := H
     replace H : (if t320 = true then ((downpourref04_Places.f k t316).bind fun t321 => ((downpourref01_Numbers.f k t306 t321).bind fun t324 => (if t324 = true then (some (t311 == (t316.length : Int))) else (none)))) else (none)) = some r := H
     have A12 := Aside0.mk A120
     clear A120
     by_cases c13 : t320 = true
     ·
      subst c13
      have H1 : ((downpourref04_Places.f k t316).bind fun t321 => ((downpourref01_Numbers.f k t306 t321).bind fun t324 => (if t324 = true then (some (t311 == (t316.length : Int))) else (none)))) = some r := by rw [if_pos rfl] at H; exact H
      clear H
      have H := H1
      clear H1
      replace H := Option.bind_eq_some_iff.mp H
      obtain ⟨t321, A140, H⟩ := H
      replace H : ((downpourref01_Numbers.f k t306 t321).bind fun t324 => (if t324 = true then (some (t311 == (t316.length : Int))) else (none))) = some r := H
      have A14 := Aside0.mk A140
      clear A140
      replace H := Option.bind_eq_some_iff.mp H
      obtain ⟨t324, A150, H⟩ := H
      replace H : (if t324 = true then (some (t311 == (t316.length : Int))) else (none)) = some r := H
      have A15 := Aside0.mk A150
      clear A150
      by_cases c16 : t324 = true
      ·
       subst c16
       have H1 : (some (t311 == (t316.length : Int))) = some r := by rw [if_pos rfl] at H; exact H
       clear H
       have H := H1
       clear H1
       obtain rfl := Option.some.inj H
       go_enter Try.func3, Try.ntmps3
       go_wp2_with (first | ((with_reducible refine gate_dst (N := 1) rfl ?_); (try (refine gate_guard (by rfl) ?_; dsimp only)); refine box_event ?hg (N := 1) ?hd (cs := #[.int .i64 a0_0, .slice A0_1 l0_1.length c0_1]) (t := 24) ?hr ?_; (case hd => rfl); (case hg => rfl); (case hr => first | (go_simp; done) | (go_simp; rfl)); intro gb297 hg w17 hbox hb; have n0_ := am (below_step (pb HB) hb); have n1_ := am (hbox); have n2_ := am ((by rw [hg]; exact (below_size (pb HB)) : w.heap.size ≤ gb297)); have n3_ := am ((by rw [hg]; exact (below_size (pb HB)) : w.heap.size ≤ gb297)); clear HB; have HB := n0_; have BK297 := n1_; have GW297 := n2_; have GE297 := n3_; clear n0_ n1_ n2_ n3_ hb hbox hg; have hcz18_0 : w17.cell? ⟨gb297, 0, none⟩ = some (.int .i64 a0_0) := (blk_cell BK297.out 0).trans rfl; have hcz18_1 : w17.cell? ⟨gb297, 1, none⟩ = some (.slice A0_1 l0_1.length c0_1) := (blk_cell BK297.out 1).trans rfl; have hfz18_0 := blk_frozen BK297.out 0; have hfz18_1 := blk_frozen BK297.out 1) | ((with_reducible refine gate_callee (f := 7) rfl ?_); refine goesL_ (some 10) rfl rfl Try.func7 (by kernel_rfl) rfl #[.agg #[.int .i64 a0_0, .slice A0_1 l0_1.length c0_1]] rfl (by (try simp only [List.map_toArray, List.map_cons, List.map_nil]); first | done | rfl | (simp only [List.length_drop, List.length_take]; rfl)) ?_; (with_reducible refine (downpourlaw04_few.calls k a0_0 (fun k_ => k_ < w.heap.size) _ _ l0_1 t298 t299 _ ?side1 A2.out).mono ?_); (case side1 => exact Kd.V_mk HC0_1.out (Kd.F_below (Kd.C_F k40_heap HR0_1.out) (pb HB))); rintro e w19 ⟨v300, rfl, ho0, hb⟩; refine ⟨_, rfl, ?_⟩; have n0_ := am (Kd.N_lower (Kd.N_mono (ok' := fun k_ => k_ ≠ gb297) ho0 (fun k_ hk_ => Or.elim hk_ (fun hs_ => fun e_ => Nat.not_le.2 hs_ (by rw [e_]; exact GW297.out)) (fun hn_ => (Kd.freshB (g := gb297) (o := .cells #[.int .i64 a0_0, .slice A0_1 l0_1.length c0_1] 24 (0, 0)) (pk BK297) k_ hn_)))) (below_size (pb HB))); have n1_ := bb BK297 hb; have n2_ := am (below_step (pb HB) hb); clear BK297 HB; have HO301 := n0_; have BK297 := n1_; have HB := n2_; clear n0_ n1_ n2_; (try clear hb); (try clear hb2); (try clear hk); (try clear hi); (try clear ho0); have hcz20_0 : w19.cell? ⟨gb297, 0, none⟩ = some (.int .i64 a0_0) := (blk_cell BK297.out 0).trans rfl; have hcz20_1 : w19.cell? ⟨gb297, 1, none⟩ = some (.slice A0_1 l0_1.length c0_1) := (blk_cell BK297.out 1).trans rfl; have hfz20_0 := blk_frozen BK297.out 0; have hfz20_1 := blk_frozen BK297.out 1; obtain ⟨Ao21, co21, eo21⟩ := Kd.N_slice HO301.out; subst eo21) | ((with_reducible refine gate_store (t := 24) (p := 1) rfl ?_); refine store_event (t := 24) (p := 1) (v := ?vo_w22) (w1 := ((w19.setCell ⟨gb297, 0, none⟩ (.int .i64 t298)).setCell ⟨gb297, 1, none⟩ (.slice Ao21 t299.length co21))) ?hg ?ho ?hn ?hr ?_; (case ho => rfl); (case hg => rfl); (case hn => rfl); (case hr => first | (go_simp; done) | (go_simp; rfl)); intro w22 hw; have n0_ : Aside0 (Kd.N k40 40 w22 w.heap.size (fun k_ => k_ ≠ gb297) (.slice Ao21 t299.length co21) t299) := ⟨(by rw [hw]; exact (by (with_reducible repeat (first | apply Kd.N_alloc | apply Kd.N_drewN | apply Kd.N_drew)); exact Kd.N_mono (Kd.N_far (p := ⟨gb297, 1, none⟩) (Kd.N_far (p := ⟨gb297, 0, none⟩) (Kd.N_mono HO301.out (fun k_ hk => (⟨hk, hk⟩ : _ ∧ k_ ≠ gb297))) (fun _ hk => hk.2) (.int .i64 t298)) (fun _ hk => hk.2) (.slice Ao21 t299.length co21)) (fun _ hk => hk.1)))⟩; have n1_ : Aside0 (w22.heap[gb297]? = some (.cells #[.int .i64 t298, .slice Ao21 t299.length co21] 24 (0, 0))) := ⟨(by rw [hw]; exact (by (with_reducible repeat (first | refine blk_drewN ?_ _ | refine blk_drew ?_ | refine blk_alloc ?_ _)); refine blk_put (cs := #[.int .i64 t298, .slice A0_1 l0_1.length c0_1]) ?_ 1 _ rfl; (with_reducible repeat (first | refine blk_drewN ?_ _ | refine blk_drew ?_ | refine blk_alloc ?_ _)); refine blk_put (cs := #[.int .i64 a0_0, .slice A0_1 l0_1.length c0_1]) ?_ 0 _ rfl; (with_reducible repeat (first | refine blk_drewN ?_ _ | refine blk_drew ?_ | refine blk_alloc ?_ _)); exact BK297.out))⟩; have n2_ : Aside0 (Below w.heap.size w w22) := ⟨(by rw [hw]; exact (pb HB))⟩; clear hw HO301 BK297 HB; have HO301 := n0_; have BK297 := n1_; have HB := n2_; clear n0_ n1_ n2_; have hcz23_0 : w22.cell? ⟨gb297, 0, none⟩ = some (.int .i64 t298) := (blk_cell BK297.out 0).trans rfl; have hcz23_1 : w22.cell? ⟨gb297, 1, none⟩ = some (.slice Ao21 t299.length co21) := (blk_cell BK297.out 1).trans rfl; have hfz23_0 := blk_frozen BK297.out 0; have hfz23_1 := blk_frozen BK297.out 1) | ((with_reducible refine gate_callee (f := 8) rfl ?_); refine goesL_ (some 13) rfl rfl Try.func8 (by kernel_rfl) rfl #[.agg #[.int .i64 t298, .slice Ao21 t299.length co21]] rfl (by (try simp only [List.map_toArray, List.map_cons, List.map_nil]); first | done | rfl | (simp only [List.length_drop, List.length_take]; rfl)) ?_; (with_reducible refine (reduce_Echelon.calls k t298 (fun k_ => k_ ≠ gb297) _ _ t299 t302 t303 t306 t309 _ ?side1 A3.out).mono ?_); (case side1 => exact Kd.N_V (HO301.out)); rintro e w24 ⟨v304, v307, rfl, ho0, ho1, hb⟩; refine ⟨_, rfl, ?_⟩; have n0_ := am (Kd.N_mono (Kd.N_told (Kd.N_told (Kd.N_old (pn HO301) hb) (Kd.N_base ho0)) (Kd.R_base ho1)) (fun _ h_ => h_.1)); have n1_ := am (Kd.N_lower (Kd.N_mono (ok' := fun k_ => some k_ ≠ (v307 : Value).ownBlock ∧ k_ ≠ gb297) ho0 (fun k_ hk_ => ⟨hk_.2, Or.elim hk_.1 (fun hs_ => hs_) (fun hn_ => (Kd.freshB (g := gb297) (o := .cells #[.int .i64 t298, .slice Ao21 t299.length co21] 24 (0, 0)) (pk BK297) k_ hn_))⟩)) (below_size (pb HB))); have n2_ := am (Kd.R_lower (Kd.R_mono (ok' := fun k_ => True) ho1 (fun _ hk_ => trivial)) (below_size (pb HB))); have n3_ := bb BK297 hb; have n4_ := am (below_step (pb HB) hb); clear HO301 BK297 HB; have HO301 := n0_; have HO305 := n1_; have HO308 := n2_; have BK297 := n3_; have HB := n4_; clear n0_ n1_ n2_ n3_ n4_; (try clear hb); (try clear hb2); (try clear hk); (try clear hi); (try clear ho0); (try clear ho1)) | ((with_reducible refine gate_dst (N := 3) rfl ?_); (try (refine gate_guard (by rfl) ?_; dsimp only)); refine box_event ?hg (N := 3) ?hd (cs := #[.int .i64 0, .slice none 0 0]) (t := 24) ?hr ?_; (case hd => rfl); (case hg => rfl); (case hr => first | (go_simp; done) | (go_simp; rfl)); intro gb310 hg w25 hbox hb; have n0_ := am (Kd.N_below (Kd.N_elderB (pn HO301) gb310 (Nat.le_of_eq hg.symm)) hb); have n1_ := am (Kd.N_below (Kd.N_elderB (pn HO305) gb310 (Nat.le_of_eq hg.symm)) hb); have n2_ := am (Kd.R_below (pr HO308) hb); have n3_ := bb BK297 hb; have n4_ := am (below_step (pb HB) hb); have n5_ := am (hbox); have n6_ := am ((by rw [hg]; exact (below_size (pb HB)) : w.heap.size ≤ gb310)); have n7_ := am ((by rw [hg]; exact (below_size (pb HB)) : w.heap.size ≤ gb310)); have n8_ := am ((by rw [hg]; exact Nat.ne_of_lt (bl BK297) : gb297 ≠ gb310)); have n9_ := am ((by rw [hg]; exact Nat.ne_of_gt (bl BK297) : gb310 ≠ gb297)); clear HO301 HO305 HO308 BK297 HB; have HO301 := n0_; have HO305 := n1_; have HO308 := n2_; have BK297 := n3_; have HB := n4_; have BK310 := n5_; have GW310 := n6_; have GE310 := n7_; have NB297_310 := n8_; have NB310_297 := n9_; clear n0_ n1_ n2_ n3_ n4_ n5_ n6_ n7_ n8_ n9_ hb hbox hg; have hnb26 := NB310_297.out; have hnc26 := NB297_310.out; have hcz27_0 : w25.cell? ⟨gb310, 0, none⟩ = some (.int .i64 0) := (blk_cell BK310.out 0).trans rfl; have hcz27_1 : w25.cell? ⟨gb310, 1, none⟩ = some (.slice none 0 0) := (blk_cell BK310.out 1).trans rfl; have hfz27_0 := blk_frozen BK310.out 0; have hfz27_1 := blk_frozen BK310.out 1; obtain ⟨Ao28, co28, eo28⟩ := Kd.N_slice HO305.out; subst eo28; have hcz29_0 : w25.cell? ⟨gb297, 0, none⟩ = some (.int .i64 t298) := (blk_cell BK297.out 0).trans rfl; have hcz29_1 : w25.cell? ⟨gb297, 1, none⟩ = some (.slice Ao21 t299.length co21) := (blk_cell BK297.out 1).trans rfl; have hfz29_0 := blk_frozen BK297.out 0; have hfz29_1 := blk_frozen BK297.out 1) | ((with_reducible refine gate_callee (f := 9) rfl ?_); refine goesL_ (some 19) rfl rfl Try.func9 (by kernel_rfl) rfl #[.agg #[.int .i64 t298, .slice Ao21 t299.length co21]] rfl (by (try simp only [List.map_toArray, List.map_cons, List.map_nil]); first | done | rfl | (simp only [List.length_drop, List.length_take]; rfl)) ?_; (with_reducible refine (reduce_Rank.calls k t298 _ _ t299 t311 t312 _ ?side1 ?side2 A4.out).mono ?_); (case side1 => refine (Kd.N_reads' (e := 40) (base := w.heap.size) (ok := fun k_ => (((k_ ≠ gb297 ∧ some k_ ≠ (.slice Ao28 t303.length co28 : Value).ownBlock) ∧ some k_ ≠ (v307 : Value).ownBlock) ∧ k_ ≠ gb310)) (n := t299.length) (c := co21) ?_).2.2; exact (by (with_reducible repeat (first | apply Kd.N_alloc | apply Kd.N_drewN | apply Kd.N_drew)); exact (Kd.N_mono (Kd.N_far (p := ⟨gb310, 1, none⟩) (Kd.N_far (p := ⟨gb310, 0, none⟩) (Kd.N_mono HO301.out (fun k_ hk => (⟨hk, hk.2⟩ : _ ∧ k_ ≠ gb310))) (fun _ hk => hk.2) (.int .i64 t302)) (fun _ hk => hk.2) (.slice Ao28 t303.length co28)) (fun _ h_ => h_.1)))); (case side2 => exact (Kd.N_reads' HO301.out).2.1); rintro e w30 ⟨rfl, hb⟩; refine ⟨_, rfl, ?_⟩; have n0_ := am (Kd.N_below (by (with_reducible repeat (first | apply Kd.N_alloc | apply Kd.N_drewN | apply Kd.N_drew)); exact (Kd.N_mono (Kd.N_far (p := ⟨gb310, 1, none⟩) (Kd.N_far (p := ⟨gb310, 0, none⟩) (Kd.N_mono HO301.out (fun k_ hk => (⟨hk, hk.2⟩ : _ ∧ k_ ≠ gb310))) (fun _ hk => hk.2) (.int .i64 t302)) (fun _ hk => hk.2) (.slice Ao28 t303.length co28)) (fun _ h_ => h_.1))) hb); have n1_ := am (Kd.N_below (by (with_reducible repeat (first | apply Kd.N_alloc | apply Kd.N_drewN | apply Kd.N_drew)); exact (Kd.N_mono (Kd.N_far (p := ⟨gb310, 1, none⟩) (Kd.N_far (p := ⟨gb310, 0, none⟩) (Kd.N_mono HO305.out (fun k_ hk => (⟨hk, hk.2⟩ : _ ∧ k_ ≠ gb310))) (fun _ hk => hk.2) (.int .i64 t302)) (fun _ hk => hk.2) (.slice Ao28 t303.length co28)) (fun _ h_ => h_.1))) hb); have n2_ := am (Kd.R_below (by (with_reducible repeat (first | apply Kd.R_alloc | apply Kd.R_drewN | apply Kd.R_drew)); exact (Kd.R_mono (Kd.R_far (p := ⟨gb310, 1, none⟩) (Kd.R_far (p := ⟨gb310, 0, none⟩) (Kd.R_types HO308.out BK310.out (by decide)) (fun _ hk => hk.2) (.int .i64 t302)) (fun _ hk => hk.2) (.slice Ao28 t303.length co28)) (fun _ h_ => h_.1))) hb); have n3_ := am (blk_below (g := gb297) (o := .cells #[.int .i64 t298, .slice Ao21 t299.length co21] 24 (0, 0)) (by (with_reducible repeat (first | refine blk_drewN ?_ _ | refine blk_drew ?_ | refine blk_alloc ?_ _)); refine blk_far ?_ NB297_310.out _; (with_reducible repeat (first | refine blk_drewN ?_ _ | refine blk_drew ?_ | refine blk_alloc ?_ _)); refine blk_far ?_ NB297_310.out _; (with_reducible repeat (first | refine blk_drewN ?_ _ | refine blk_drew ?_ | refine blk_alloc ?_ _)); exact BK297.out) hb); have n4_ := am (blk_below (g := gb310) (o := .cells #[.int .i64 t302, .slice Ao28 t303.length co28] 24 (0, 0)) (by (with_reducible repeat (first | refine blk_drewN ?_ _ | refine blk_drew ?_ | refine blk_alloc ?_ _)); refine blk_put (cs := #[.int .i64 t302, .slice none 0 0]) ?_ 1 _ rfl; (with_reducible repeat (first | refine blk_drewN ?_ _ | refine blk_drew ?_ | refine blk_alloc ?_ _)); refine blk_put (cs := #[.int .i64 0, .slice none 0 0]) ?_ 0 _ rfl; (with_reducible repeat (first | refine blk_drewN ?_ _ | refine blk_drew ?_ | refine blk_alloc ?_ _)); exact BK310.out) hb); have n5_ := am (below_step (pb HB) hb); clear HO301 HO305 HO308 BK297 BK310 HB; have HO301 := n0_; have HO305 := n1_; have HO308 := n2_; have BK297 := n3_; have BK310 := n4_; have HB := n5_; clear n0_ n1_ n2_ n3_ n4_ n5_; (try clear hb); (try clear hb2); (try clear hk); (try clear hi); have hcz31_0 : w30.cell? ⟨gb297, 0, none⟩ = some (.int .i64 t298) := (blk_cell BK297.out 0).trans rfl; have hcz31_1 : w30.cell? ⟨gb297, 1, none⟩ = some (.slice Ao21 t299.length co21) := (blk_cell BK297.out 1).trans rfl; have hfz31_0 := blk_frozen BK297.out 0; have hfz31_1 := blk_frozen BK297.out 1) | ((with_reducible refine gate_callee (f := 10) rfl ?_); refine goesL_ (some 23) rfl rfl Try.func10 (by kernel_rfl) rfl #[.agg #[.int .i64 t298, .slice Ao21 t299.length co21]] rfl (by (try simp only [List.map_toArray, List.map_cons, List.map_nil]); first | done | rfl | (simp only [List.length_drop, List.length_take]; rfl)) ?_; (with_reducible refine (downpourref03_Right.calls k t298 _ _ t299 true _ ?side1 ?side2 A5.out).mono ?_); (case side1 => repeat (first | exact (Kd.N_reads' HO301.out).2.2 | (with_reducible refine Kd.C_alloc ?_ _) | (with_reducible refine Kd.C_drewN ?_ _) | (with_reducible refine Kd.C_drew ?_))); (case side2 => exact (Kd.N_reads' HO301.out).2.1); rintro e w32 ⟨rfl, hb⟩; refine ⟨_, rfl, ?_⟩; have n0_ := am (Kd.N_below (pn HO301) hb); have n1_ := am (Kd.N_below (pn HO305) hb); have n2_ := am (Kd.R_below (pr HO308) hb); have n3_ := bb BK297 hb; have n4_ := bb BK310 hb; have n5_ := am (below_step (pb HB) hb); clear HO301 HO305 HO308 BK297 BK310 HB; have HO301 := n0_; have HO305 := n1_; have HO308 := n2_; have BK297 := n3_; have BK310 := n4_; have HB := n5_; clear n0_ n1_ n2_ n3_ n4_ n5_; (try clear hb); (try clear hb2); (try clear hk); (try clear hi); have hcz33_0 : w32.cell? ⟨gb297, 0, none⟩ = some (.int .i64 t298) := (blk_cell BK297.out 0).trans rfl; have hcz33_1 : w32.cell? ⟨gb297, 1, none⟩ = some (.slice Ao21 t299.length co21) := (blk_cell BK297.out 1).trans rfl; have hfz33_0 := blk_frozen BK297.out 0; have hfz33_1 := blk_frozen BK297.out 1) | ((with_reducible refine gate_callee (f := 13) rfl ?_); refine goesL_ (some 49) rfl rfl Try.func13 (by kernel_rfl) rfl #[.agg #[.int .i64 t298, .slice Ao21 t299.length co21]] rfl (by (try simp only [List.map_toArray, List.map_cons, List.map_nil]); first | done | rfl | (simp only [List.length_drop, List.length_take]; rfl)) ?_; (with_reducible refine (downpourref04_Echelon.calls k t298 (fun k_ => (((k_ ≠ gb297 ∧ some k_ ≠ (.slice Ao28 t303.length co28 : Value).ownBlock) ∧ some k_ ≠ (v307 : Value).ownBlock) ∧ k_ ≠ gb310)) _ _ t299 t316 _ ?side1 A7.out).mono ?_); (case side1 => exact Kd.N_V (HO301.out)); rintro e w34 ⟨v317, rfl, ho0, hb⟩; refine ⟨_, rfl, ?_⟩; have n0_ := am (Kd.N_elder' (pn HO301) (by first | exact Kd.N_base ho0 | exact Kd.S_base ho0 | exact Kd.R_base ho0) hb); have n1_ := am (Kd.N_elder' (pn HO305) (by first | exact Kd.N_base ho0 | exact Kd.S_base ho0 | exact Kd.R_base ho0) hb); have n2_ := am (Kd.R_below (pr HO308) hb); have n3_ := am (Kd.N_lower (Kd.N_mono (ok' := fun k_ => some k_ ≠ (.slice Ao28 t303.length co28 : Value).ownBlock ∧ some k_ ≠ (v307 : Value).ownBlock ∧ k_ ≠ gb297 ∧ k_ ≠ gb310) ho0 (fun k_ hk_ => ⟨Or.elim hk_ (fun hs_ => hs_.1.1.2) (fun hn_ => (Kd.fresh' (Kd.N_lt (pn HO305)) k_ hn_)), Or.elim hk_ (fun hs_ => hs_.1.2) (fun hn_ => (Kd.fresh' (Kd.R_lt (pr HO308)) k_ hn_)), Or.elim hk_ (fun hs_ => hs_.1.1.1) (fun hn_ => (Kd.freshB (g := gb297) (o := .cells #[.int .i64 t298, .slice Ao21 t299.length co21] 24 (0, 0)) (pk BK297) k_ hn_)), Or.elim hk_ (fun hs_ => hs_.2) (fun hn_ => (Kd.freshB (g := gb310) (o := .cells #[.int .i64 t302, .slice Ao28 t303.length co28] 24 (0, 0)) (pk BK310) k_ hn_))⟩)) (below_size (pb HB))); have n4_ := bb BK297 hb; have n5_ := bb BK310 hb; have n6_ := am (below_step (pb HB) hb); clear HO301 HO305 HO308 BK297 BK310 HB; have HO301 := n0_; have HO305 := n1_; have HO308 := n2_; have HO318 := n3_; have BK297 := n4_; have BK310 := n5_; have HB := n6_; clear n0_ n1_ n2_ n3_ n4_ n5_ n6_; (try clear hb); (try clear hb2); (try clear hk); (try clear hi); (try clear ho0)) | ((with_reducible refine gate_callee (f := 11) rfl ?_); refine goesL_ (some 50) rfl rfl Try.func11 (by kernel_rfl) rfl #[] rfl (by (try simp only [List.map_toArray, List.map_cons, List.map_nil]); first | done | rfl | (simp only [List.length_drop, List.length_take]; rfl)) ?_; (with_reducible refine (downpourlaw04_alive.calls k  true _ A8.out).mono ?_); rintro e w35 ⟨rfl, hb⟩; refine ⟨_, rfl, ?_⟩; have n0_ := am (Kd.N_below (pn HO301) hb); have n1_ := am (Kd.N_below (pn HO305) hb); have n2_ := am (Kd.R_below (pr HO308) hb); have n3_ := am (Kd.N_below (pn HO318) hb); have n4_ := bb BK297 hb; have n5_ := bb BK310 hb; have n6_ := am (below_step (pb HB) hb); clear HO301 HO305 HO308 HO318 BK297 BK310 HB; have HO301 := n0_; have HO305 := n1_; have HO308 := n2_; have HO318 := n3_; have BK297 := n4_; have BK310 := n5_; have HB := n6_; clear n0_ n1_ n2_ n3_ n4_ n5_ n6_; (try clear hb); (try clear hb2); (try clear hk); (try clear hi); have hcz36_0 : w35.cell? ⟨gb310, 0, none⟩ = some (.int .i64 t302) := (blk_cell BK310.out 0).trans rfl; have hcz36_1 : w35.cell? ⟨gb310, 1, none⟩ = some (.slice Ao28 t303.length co28) := (blk_cell BK310.out 1).trans rfl; have hfz36_0 := blk_frozen BK310.out 0; have hfz36_1 := blk_frozen BK310.out 1; have hcz37_0 : w35.cell? ⟨gb297, 0, none⟩ = some (.int .i64 t298) := (blk_cell BK297.out 0).trans rfl; have hcz37_1 : w35.cell? ⟨gb297, 1, none⟩ = some (.slice Ao21 t299.length co21) := (blk_cell BK297.out 1).trans rfl; have hfz37_0 := blk_frozen BK297.out 0; have hfz37_1 := blk_frozen BK297.out 1; obtain ⟨Ao38, co38, eo38⟩ := Kd.N_slice HO318.out; subst eo38) | (go_at_call 12; (with_reducible refine (downpourref03_Same.calls k t302 _ _ t303 t298 _ _ t316 true _ ?side1 ?side2 ?side3 ?side4 A12.out).mono ?_); (case side1 => repeat (first | exact (Kd.N_reads' HO305.out).2.2 | (with_reducible refine Kd.C_alloc ?_ _) | (with_reducible refine Kd.C_drewN ?_ _) | (with_reducible refine Kd.C_drew ?_))); (case side2 => exact (Kd.N_reads' HO305.out).2.1); (case side3 => repeat (first | exact (Kd.N_reads' HO318.out).2.2 | (with_reducible refine Kd.C_alloc ?_ _) | (with_reducible refine Kd.C_drewN ?_ _) | (with_reducible refine Kd.C_drew ?_))); (case side4 => exact (Kd.N_reads' HO318.out).2.1); rintro e w39 ⟨rfl, hb⟩; have n0_ := am (Kd.N_below (pn HO301) hb); have n1_ := am (Kd.N_below (pn HO305) hb); have n2_ := am (Kd.R_below (pr HO308) hb); have n3_ := am (Kd.N_below (pn HO318) hb); have n4_ := bb BK297 hb; have n5_ := bb BK310 hb; have n6_ := am (below_step (pb HB) hb); clear HO301 HO305 HO308 HO318 BK297 BK310 HB; have HO301 := n0_; have HO305 := n1_; have HO308 := n2_; have HO318 := n3_; have BK297 := n4_; have BK310 := n5_; have HB := n6_; clear n0_ n1_ n2_ n3_ n4_ n5_ n6_; (try clear hb); (try clear hb2); (try clear hk); (try clear hi)) | (go_at_call 15; (with_reducible refine (downpourref04_Places.calls k _ _ t316 t321 _ ?side1 ?side2 A14.out).mono ?_); (case side1 => repeat (first | exact (Kd.N_reads' HO318.out).2.2 | (with_reducible refine Kd.C_alloc ?_ _) | (with_reducible refine Kd.C_drewN ?_ _) | (with_reducible refine Kd.C_drew ?_))); (case side2 => exact (Kd.N_reads' HO318.out).2.1); rintro e w40 ⟨v322, rfl, ho0, hb⟩; have n0_ := am (Kd.N_elder' (pn HO301) (Kd.R_base ho0) hb); have n1_ := am (Kd.N_elder' (pn HO305) (Kd.R_base ho0) hb); have n2_ := am (Kd.R_elder' (pr HO308) (Kd.R_base ho0) hb); have n3_ := am (Kd.N_elder' (pn HO318) (Kd.R_base ho0) hb); have n4_ := am (Kd.R_lower (Kd.R_new' ho0 (Kd.R_lt (pr HO308))) (below_size (pb HB))); have n5_ := bb BK297 hb; have n6_ := bb BK310 hb; have n7_ := am (below_step (pb HB) hb); clear HO301 HO305 HO308 HO318 BK297 BK310 HB; have HO301 := n0_; have HO305 := n1_; have HO308 := n2_; have HO318 := n3_; have HO323 := n4_; have BK297 := n5_; have BK310 := n6_; have HB := n7_; clear n0_ n1_ n2_ n3_ n4_ n5_ n6_ n7_; (try clear hb); (try clear hb2); (try clear hk); (try clear hi); (try clear ho0); obtain ⟨Ao41, co41, eo41⟩ := Kd.R_slice HO308.out; subst eo41; obtain ⟨Ao42, co42, eo42⟩ := Kd.R_slice HO323.out; subst eo42) | (go_at_call 14; (with_reducible refine (downpourref01_Numbers.calls k _ _ t306 _ _ t321 true _ ?side1 ?side2 ?side3 ?side4 A15.out).mono ?_); (case side1 => repeat (first | exact (Kd.R_reads' HO308.out).2.2 | (with_reducible refine Kd.C_alloc ?_ _) | (with_reducible refine Kd.C_drewN ?_ _) | (with_reducible refine Kd.C_drew ?_))); (case side2 => exact (Kd.R_reads' HO308.out).2.1); (case side3 => repeat (first | exact (Kd.R_reads' HO323.out).2.2 | (with_reducible refine Kd.C_alloc ?_ _) | (with_reducible refine Kd.C_drewN ?_ _) | (with_reducible refine Kd.C_drew ?_))); (case side4 => exact (Kd.R_reads' HO323.out).2.1); rintro e w' ⟨rfl, ⟨nd, rfl⟩⟩))
       go_ret
       exact ⟨by first | rfl | (simp [errW_none, errW_some] <;> rfl) | (simp [*, errW_none, errW_some] <;> rfl), pb HB⟩
      ·
       replace c16 := Bool.eq_false_iff.mpr c16
       subst c16
       have H1 : (none) = some r := by rw [if_neg (show ¬ (false = true) by decide)] at H; exact H
       clear H
       have H := H1
       clear H1
       exact absurd H (by simp)
     ·
      replace c13 := Bool.eq_false_iff.mpr c13
      subst c13
      have H1 : (none) = some r := by rw [if_neg (show ¬ (false = true) by decide)] at H; exact H
      clear H
      have H := H1
      clear H1
      exact absurd H (by simp)
    ·
     rw [if_neg c11] at H
     exact absurd H (by simp)
   ·
    rw [if_neg c10] at H
    exact absurd H (by simp)
  ·
   replace c9 := Bool.eq_false_iff.mpr c9
   subst c9
   have H1 : (none) = some r := by rw [if_neg (show ¬ (false = true) by decide)] at H; exact H
   clear H
   have H := H1
   clear H1
   exact absurd H (by simp)
 ·
  replace c6 := Bool.eq_false_iff.mpr c6
  subst c6
  have H1 : ((downpourlaw04_alive.f k).bind fun t314 => (if t314 = true then (if t309 = 1 then (if t312 = 1 then ((downpourref03_Same.f k t302 t303 0 ([] : List (S40))).bind fun t315 => (if t315 = true then (if (t306.length : Int) = 0 then (some (t311 == 0)) else (none)) else (none))) else (none)) else (none)) else (none))) = some r := by rw [if_neg (show ¬ (false = true) by decide)] at H; exact H
  clear H
  have H := H1
  clear H1
  replace H := Option.bind_eq_some_iff.mp H
  obtain ⟨t314, A430, H⟩ := H
  replace H : (if t314 = true then (if t309 = 1 then (if t312 = 1 then ((downpourref03_Same.f k t302 t303 0 ([] : List (S40))).bind fun t315 => (if t315 = true then (if (t306.length : Int) = 0 then (some (t311 == 0)) else (none)) else (none))) else (none)) else (none)) else (none)) = some r := H
  have A43 := Aside0.mk A430
  clear A430
  by_cases c44 : t314 = true
  ·
   subst c44
   have H1 : (if t309 = 1 then (if t312 = 1 then ((downpourref03_Same.f k t302 t303 0 ([] : List (S40))).bind fun t315 => (if t315 = true then (if (t306.length : Int) = 0 then (some (t311 == 0)) else (none)) else (none))) else (none)) else (none)) = some r := by rw [if_pos rfl] at H; exact H
   clear H
   have H := H1
   clear H1
   by_cases c45 : t309 = 1
   ·
    rw [if_pos c45] at H
    have c45b0 : (t309 == 1) = true := beq_iff_eq.mpr c45
    have c45b1 : (t309 != 1) = false := bne_eq_false_iff_eq.mpr c45
    clear c45
    by_cases c46 : t312 = 1
    ·
     rw [if_pos c46] at H
     have c46b0 : (t312 == 1) = true := beq_iff_eq.mpr c46
     have c46b1 : (t312 != 1) = false := bne_eq_false_iff_eq.mpr c46
     clear c46
     replace H := Option.bind_eq_some_iff.mp H
     obtain ⟨t315, A470, H⟩ := H
     replace H : (if t315 = true then (if (t306.length : Int) = 0 then (some (t311 == 0)) else (none)) else (none)) = some r := H
     have A47 := Aside0.mk A470
     clear A470
     by_cases c48 : t315 = true
     ·
      subst c48
      have H1 : (if (t306.length : Int) = 0 then (some (t311 == 0)) else (none)) = some r := by rw [if_pos rfl] at H; exact H
      clear H
      have H := H1
      clear H1
      by_cases c49 : (t306.length : Int) = 0
      ·
       rw [if_pos c49] at H
       have c49b0 : ((t306.length : Int) == 0) = true := beq_iff_eq.mpr c49
       have c49b1 : ((t306.length : Int) != 0) = false := bne_eq_false_iff_eq.mpr c49
       clear c49
       obtain rfl := Option.some.inj H
       go_enter Try.func3, Try.ntmps3
       go_wp2_with (first | ((with_reducible refine gate_dst (N := 1) rfl ?_); (try (refine gate_guard (by rfl) ?_; dsimp only)); refine box_event ?hg (N := 1) ?hd (cs := #[.int .i64 a0_0, .slice A0_1 l0_1.length c0_1]) (t := 24) ?hr ?_; (case hd => rfl); (case hg => rfl); (case hr => first | (go_simp; done) | (go_simp; rfl)); intro gb297 hg w50 hbox hb; have n0_ := am (below_step (pb HB) hb); have n1_ := am (hbox); have n2_ := am ((by rw [hg]; exact (below_size (pb HB)) : w.heap.size ≤ gb297)); have n3_ := am ((by rw [hg]; exact (below_size (pb HB)) : w.heap.size ≤ gb297)); clear HB; have HB := n0_; have BK297 := n1_; have GW297 := n2_; have GE297 := n3_; clear n0_ n1_ n2_ n3_ hb hbox hg; have hcz51_0 : w50.cell? ⟨gb297, 0, none⟩ = some (.int .i64 a0_0) := (blk_cell BK297.out 0).trans rfl; have hcz51_1 : w50.cell? ⟨gb297, 1, none⟩ = some (.slice A0_1 l0_1.length c0_1) := (blk_cell BK297.out 1).trans rfl; have hfz51_0 := blk_frozen BK297.out 0; have hfz51_1 := blk_frozen BK297.out 1) | ((with_reducible refine gate_callee (f := 7) rfl ?_); refine goesL_ (some 10) rfl rfl Try.func7 (by kernel_rfl) rfl #[.agg #[.int .i64 a0_0, .slice A0_1 l0_1.length c0_1]] rfl (by (try simp only [List.map_toArray, List.map_cons, List.map_nil]); first | done | rfl | (simp only [List.length_drop, List.length_take]; rfl)) ?_; (with_reducible refine (downpourlaw04_few.calls k a0_0 (fun k_ => k_ < w.heap.size) _ _ l0_1 t298 t299 _ ?side1 A2.out).mono ?_); (case side1 => exact Kd.V_mk HC0_1.out (Kd.F_below (Kd.C_F k40_heap HR0_1.out) (pb HB))); rintro e w52 ⟨v300, rfl, ho0, hb⟩; refine ⟨_, rfl, ?_⟩; have n0_ := am (Kd.N_lower (Kd.N_mono (ok' := fun k_ => k_ ≠ gb297) ho0 (fun k_ hk_ => Or.elim hk_ (fun hs_ => fun e_ => Nat.not_le.2 hs_ (by rw [e_]; exact GW297.out)) (fun hn_ => (Kd.freshB (g := gb297) (o := .cells #[.int .i64 a0_0, .slice A0_1 l0_1.length c0_1] 24 (0, 0)) (pk BK297) k_ hn_)))) (below_size (pb HB))); have n1_ := bb BK297 hb; have n2_ := am (below_step (pb HB) hb); clear BK297 HB; have HO301 := n0_; have BK297 := n1_; have HB := n2_; clear n0_ n1_ n2_; (try clear hb); (try clear hb2); (try clear hk); (try clear hi); (try clear ho0); have hcz53_0 : w52.cell? ⟨gb297, 0, none⟩ = some (.int .i64 a0_0) := (blk_cell BK297.out 0).trans rfl; have hcz53_1 : w52.cell? ⟨gb297, 1, none⟩ = some (.slice A0_1 l0_1.length c0_1) := (blk_cell BK297.out 1).trans rfl; have hfz53_0 := blk_frozen BK297.out 0; have hfz53_1 := blk_frozen BK297.out 1; obtain ⟨Ao54, co54, eo54⟩ := Kd.N_slice HO301.out; subst eo54) | ((with_reducible refine gate_store (t := 24) (p := 1) rfl ?_); refine store_event (t := 24) (p := 1) (v := ?vo_w55) (w1 := ((w52.setCell ⟨gb297, 0, none⟩ (.int .i64 t298)).setCell ⟨gb297, 1, none⟩ (.slice Ao54 t299.length co54))) ?hg ?ho ?hn ?hr ?_; (case ho => rfl); (case hg => rfl); (case hn => rfl); (case hr => first | (go_simp; done) | (go_simp; rfl)); intro w55 hw; have n0_ : Aside0 (Kd.N k40 40 w55 w.heap.size (fun k_ => k_ ≠ gb297) (.slice Ao54 t299.length co54) t299) := ⟨(by rw [hw]; exact (by (with_reducible repeat (first | apply Kd.N_alloc | apply Kd.N_drewN | apply Kd.N_drew)); exact Kd.N_mono (Kd.N_far (p := ⟨gb297, 1, none⟩) (Kd.N_far (p := ⟨gb297, 0, none⟩) (Kd.N_mono HO301.out (fun k_ hk => (⟨hk, hk⟩ : _ ∧ k_ ≠ gb297))) (fun _ hk => hk.2) (.int .i64 t298)) (fun _ hk => hk.2) (.slice Ao54 t299.length co54)) (fun _ hk => hk.1)))⟩; have n1_ : Aside0 (w55.heap[gb297]? = some (.cells #[.int .i64 t298, .slice Ao54 t299.length co54] 24 (0, 0))) := ⟨(by rw [hw]; exact (by (with_reducible repeat (first | refine blk_drewN ?_ _ | refine blk_drew ?_ | refine blk_alloc ?_ _)); refine blk_put (cs := #[.int .i64 t298, .slice A0_1 l0_1.length c0_1]) ?_ 1 _ rfl; (with_reducible repeat (first | refine blk_drewN ?_ _ | refine blk_drew ?_ | refine blk_alloc ?_ _)); refine blk_put (cs := #[.int .i64 a0_0, .slice A0_1 l0_1.length c0_1]) ?_ 0 _ rfl; (with_reducible repeat (first | refine blk_drewN ?_ _ | refine blk_drew ?_ | refine blk_alloc ?_ _)); exact BK297.out))⟩; have n2_ : Aside0 (Below w.heap.size w w55) := ⟨(by rw [hw]; exact (pb HB))⟩; clear hw HO301 BK297 HB; have HO301 := n0_; have BK297 := n1_; have HB := n2_; clear n0_ n1_ n2_; have hcz56_0 : w55.cell? ⟨gb297, 0, none⟩ = some (.int .i64 t298) := (blk_cell BK297.out 0).trans rfl; have hcz56_1 : w55.cell? ⟨gb297, 1, none⟩ = some (.slice Ao54 t299.length co54) := (blk_cell BK297.out 1).trans rfl; have hfz56_0 := blk_frozen BK297.out 0; have hfz56_1 := blk_frozen BK297.out 1) | ((with_reducible refine gate_callee (f := 8) rfl ?_); refine goesL_ (some 13) rfl rfl Try.func8 (by kernel_rfl) rfl #[.agg #[.int .i64 t298, .slice Ao54 t299.length co54]] rfl (by (try simp only [List.map_toArray, List.map_cons, List.map_nil]); first | done | rfl | (simp only [List.length_drop, List.length_take]; rfl)) ?_; (with_reducible refine (reduce_Echelon.calls k t298 (fun k_ => k_ ≠ gb297) _ _ t299 t302 t303 t306 t309 _ ?side1 A3.out).mono ?_); (case side1 => exact Kd.N_V (HO301.out)); rintro e w57 ⟨v304, v307, rfl, ho0, ho1, hb⟩; refine ⟨_, rfl, ?_⟩; have n0_ := am (Kd.N_mono (Kd.N_told (Kd.N_told (Kd.N_old (pn HO301) hb) (Kd.N_base ho0)) (Kd.R_base ho1)) (fun _ h_ => h_.1)); have n1_ := am (Kd.N_lower (Kd.N_mono (ok' := fun k_ => some k_ ≠ (v307 : Value).ownBlock ∧ k_ ≠ gb297) ho0 (fun k_ hk_ => ⟨hk_.2, Or.elim hk_.1 (fun hs_ => hs_) (fun hn_ => (Kd.freshB (g := gb297) (o := .cells #[.int .i64 t298, .slice Ao54 t299.length co54] 24 (0, 0)) (pk BK297) k_ hn_))⟩)) (below_size (pb HB))); have n2_ := am (Kd.R_lower (Kd.R_mono (ok' := fun k_ => True) ho1 (fun _ hk_ => trivial)) (below_size (pb HB))); have n3_ := bb BK297 hb; have n4_ := am (below_step (pb HB) hb); clear HO301 BK297 HB; have HO301 := n0_; have HO305 := n1_; have HO308 := n2_; have BK297 := n3_; have HB := n4_; clear n0_ n1_ n2_ n3_ n4_; (try clear hb); (try clear hb2); (try clear hk); (try clear hi); (try clear ho0); (try clear ho1)) | ((with_reducible refine gate_dst (N := 3) rfl ?_); (try (refine gate_guard (by rfl) ?_; dsimp only)); refine box_event ?hg (N := 3) ?hd (cs := #[.int .i64 0, .slice none 0 0]) (t := 24) ?hr ?_; (case hd => rfl); (case hg => rfl); (case hr => first | (go_simp; done) | (go_simp; rfl)); intro gb310 hg w58 hbox hb; have n0_ := am (Kd.N_below (Kd.N_elderB (pn HO301) gb310 (Nat.le_of_eq hg.symm)) hb); have n1_ := am (Kd.N_below (Kd.N_elderB (pn HO305) gb310 (Nat.le_of_eq hg.symm)) hb); have n2_ := am (Kd.R_below (pr HO308) hb); have n3_ := bb BK297 hb; have n4_ := am (below_step (pb HB) hb); have n5_ := am (hbox); have n6_ := am ((by rw [hg]; exact (below_size (pb HB)) : w.heap.size ≤ gb310)); have n7_ := am ((by rw [hg]; exact (below_size (pb HB)) : w.heap.size ≤ gb310)); have n8_ := am ((by rw [hg]; exact Nat.ne_of_lt (bl BK297) : gb297 ≠ gb310)); have n9_ := am ((by rw [hg]; exact Nat.ne_of_gt (bl BK297) : gb310 ≠ gb297)); clear HO301 HO305 HO308 BK297 HB; have HO301 := n0_; have HO305 := n1_; have HO308 := n2_; have BK297 := n3_; have HB := n4_; have BK310 := n5_; have GW310 := n6_; have GE310 := n7_; have NB297_310 := n8_; have NB310_297 := n9_; clear n0_ n1_ n2_ n3_ n4_ n5_ n6_ n7_ n8_ n9_ hb hbox hg; have hnb59 := NB310_297.out; have hnc59 := NB297_310.out; have hcz60_0 : w58.cell? ⟨gb310, 0, none⟩ = some (.int .i64 0) := (blk_cell BK310.out 0).trans rfl; have hcz60_1 : w58.cell? ⟨gb310, 1, none⟩ = some (.slice none 0 0) := (blk_cell BK310.out 1).trans rfl; have hfz60_0 := blk_frozen BK310.out 0; have hfz60_1 := blk_frozen BK310.out 1; obtain ⟨Ao61, co61, eo61⟩ := Kd.N_slice HO305.out; subst eo61; have hcz62_0 : w58.cell? ⟨gb297, 0, none⟩ = some (.int .i64 t298) := (blk_cell BK297.out 0).trans rfl; have hcz62_1 : w58.cell? ⟨gb297, 1, none⟩ = some (.slice Ao54 t299.length co54) := (blk_cell BK297.out 1).trans rfl; have hfz62_0 := blk_frozen BK297.out 0; have hfz62_1 := blk_frozen BK297.out 1) | ((with_reducible refine gate_callee (f := 9) rfl ?_); refine goesL_ (some 19) rfl rfl Try.func9 (by kernel_rfl) rfl #[.agg #[.int .i64 t298, .slice Ao54 t299.length co54]] rfl (by (try simp only [List.map_toArray, List.map_cons, List.map_nil]); first | done | rfl | (simp only [List.length_drop, List.length_take]; rfl)) ?_; (with_reducible refine (reduce_Rank.calls k t298 _ _ t299 t311 t312 _ ?side1 ?side2 A4.out).mono ?_); (case side1 => refine (Kd.N_reads' (e := 40) (base := w.heap.size) (ok := fun k_ => (((k_ ≠ gb297 ∧ some k_ ≠ (.slice Ao61 t303.length co61 : Value).ownBlock) ∧ some k_ ≠ (v307 : Value).ownBlock) ∧ k_ ≠ gb310)) (n := t299.length) (c := co54) ?_).2.2; exact (by (with_reducible repeat (first | apply Kd.N_alloc | apply Kd.N_drewN | apply Kd.N_drew)); exact (Kd.N_mono (Kd.N_far (p := ⟨gb310, 1, none⟩) (Kd.N_far (p := ⟨gb310, 0, none⟩) (Kd.N_mono HO301.out (fun k_ hk => (⟨hk, hk.2⟩ : _ ∧ k_ ≠ gb310))) (fun _ hk => hk.2) (.int .i64 t302)) (fun _ hk => hk.2) (.slice Ao61 t303.length co61)) (fun _ h_ => h_.1)))); (case side2 => exact (Kd.N_reads' HO301.out).2.1); rintro e w63 ⟨rfl, hb⟩; refine ⟨_, rfl, ?_⟩; have n0_ := am (Kd.N_below (by (with_reducible repeat (first | apply Kd.N_alloc | apply Kd.N_drewN | apply Kd.N_drew)); exact (Kd.N_mono (Kd.N_far (p := ⟨gb310, 1, none⟩) (Kd.N_far (p := ⟨gb310, 0, none⟩) (Kd.N_mono HO301.out (fun k_ hk => (⟨hk, hk.2⟩ : _ ∧ k_ ≠ gb310))) (fun _ hk => hk.2) (.int .i64 t302)) (fun _ hk => hk.2) (.slice Ao61 t303.length co61)) (fun _ h_ => h_.1))) hb); have n1_ := am (Kd.N_below (by (with_reducible repeat (first | apply Kd.N_alloc | apply Kd.N_drewN | apply Kd.N_drew)); exact (Kd.N_mono (Kd.N_far (p := ⟨gb310, 1, none⟩) (Kd.N_far (p := ⟨gb310, 0, none⟩) (Kd.N_mono HO305.out (fun k_ hk => (⟨hk, hk.2⟩ : _ ∧ k_ ≠ gb310))) (fun _ hk => hk.2) (.int .i64 t302)) (fun _ hk => hk.2) (.slice Ao61 t303.length co61)) (fun _ h_ => h_.1))) hb); have n2_ := am (Kd.R_below (by (with_reducible repeat (first | apply Kd.R_alloc | apply Kd.R_drewN | apply Kd.R_drew)); exact (Kd.R_mono (Kd.R_far (p := ⟨gb310, 1, none⟩) (Kd.R_far (p := ⟨gb310, 0, none⟩) (Kd.R_types HO308.out BK310.out (by decide)) (fun _ hk => hk.2) (.int .i64 t302)) (fun _ hk => hk.2) (.slice Ao61 t303.length co61)) (fun _ h_ => h_.1))) hb); have n3_ := am (blk_below (g := gb297) (o := .cells #[.int .i64 t298, .slice Ao54 t299.length co54] 24 (0, 0)) (by (with_reducible repeat (first | refine blk_drewN ?_ _ | refine blk_drew ?_ | refine blk_alloc ?_ _)); refine blk_far ?_ NB297_310.out _; (with_reducible repeat (first | refine blk_drewN ?_ _ | refine blk_drew ?_ | refine blk_alloc ?_ _)); refine blk_far ?_ NB297_310.out _; (with_reducible repeat (first | refine blk_drewN ?_ _ | refine blk_drew ?_ | refine blk_alloc ?_ _)); exact BK297.out) hb); have n4_ := am (blk_below (g := gb310) (o := .cells #[.int .i64 t302, .slice Ao61 t303.length co61] 24 (0, 0)) (by (with_reducible repeat (first | refine blk_drewN ?_ _ | refine blk_drew ?_ | refine blk_alloc ?_ _)); refine blk_put (cs := #[.int .i64 t302, .slice none 0 0]) ?_ 1 _ rfl; (with_reducible repeat (first | refine blk_drewN ?_ _ | refine blk_drew ?_ | refine blk_alloc ?_ _)); refine blk_put (cs := #[.int .i64 0, .slice none 0 0]) ?_ 0 _ rfl; (with_reducible repeat (first | refine blk_drewN ?_ _ | refine blk_drew ?_ | refine blk_alloc ?_ _)); exact BK310.out) hb); have n5_ := am (below_step (pb HB) hb); clear HO301 HO305 HO308 BK297 BK310 HB; have HO301 := n0_; have HO305 := n1_; have HO308 := n2_; have BK297 := n3_; have BK310 := n4_; have HB := n5_; clear n0_ n1_ n2_ n3_ n4_ n5_; (try clear hb); (try clear hb2); (try clear hk); (try clear hi); have hcz64_0 : w63.cell? ⟨gb297, 0, none⟩ = some (.int .i64 t298) := (blk_cell BK297.out 0).trans rfl; have hcz64_1 : w63.cell? ⟨gb297, 1, none⟩ = some (.slice Ao54 t299.length co54) := (blk_cell BK297.out 1).trans rfl; have hfz64_0 := blk_frozen BK297.out 0; have hfz64_1 := blk_frozen BK297.out 1) | ((with_reducible refine gate_callee (f := 10) rfl ?_); refine goesL_ (some 23) rfl rfl Try.func10 (by kernel_rfl) rfl #[.agg #[.int .i64 t298, .slice Ao54 t299.length co54]] rfl (by (try simp only [List.map_toArray, List.map_cons, List.map_nil]); first | done | rfl | (simp only [List.length_drop, List.length_take]; rfl)) ?_; (with_reducible refine (downpourref03_Right.calls k t298 _ _ t299 false _ ?side1 ?side2 A5.out).mono ?_); (case side1 => repeat (first | exact (Kd.N_reads' HO301.out).2.2 | (with_reducible refine Kd.C_alloc ?_ _) | (with_reducible refine Kd.C_drewN ?_ _) | (with_reducible refine Kd.C_drew ?_))); (case side2 => exact (Kd.N_reads' HO301.out).2.1); rintro e w65 ⟨rfl, hb⟩; refine ⟨_, rfl, ?_⟩; have n0_ := am (Kd.N_below (pn HO301) hb); have n1_ := am (Kd.N_below (pn HO305) hb); have n2_ := am (Kd.R_below (pr HO308) hb); have n3_ := bb BK297 hb; have n4_ := bb BK310 hb; have n5_ := am (below_step (pb HB) hb); clear HO301 HO305 HO308 BK297 BK310 HB; have HO301 := n0_; have HO305 := n1_; have HO308 := n2_; have BK297 := n3_; have BK310 := n4_; have HB := n5_; clear n0_ n1_ n2_ n3_ n4_ n5_; (try clear hb); (try clear hb2); (try clear hk); (try clear hi)) | ((with_reducible refine gate_callee (f := 11) rfl ?_); refine goesL_ (some 25) rfl rfl Try.func11 (by kernel_rfl) rfl #[] rfl (by (try simp only [List.map_toArray, List.map_cons, List.map_nil]); first | done | rfl | (simp only [List.length_drop, List.length_take]; rfl)) ?_; (with_reducible refine (downpourlaw04_alive.calls k  true _ A43.out).mono ?_); rintro e w66 ⟨rfl, hb⟩; refine ⟨_, rfl, ?_⟩; have n0_ := am (Kd.N_below (pn HO301) hb); have n1_ := am (Kd.N_below (pn HO305) hb); have n2_ := am (Kd.R_below (pr HO308) hb); have n3_ := bb BK297 hb; have n4_ := bb BK310 hb; have n5_ := am (below_step (pb HB) hb); clear HO301 HO305 HO308 BK297 BK310 HB; have HO301 := n0_; have HO305 := n1_; have HO308 := n2_; have BK297 := n3_; have BK310 := n4_; have HB := n5_; clear n0_ n1_ n2_ n3_ n4_ n5_; (try clear hb); (try clear hb2); (try clear hk); (try clear hi); have hcz67_0 : w66.cell? ⟨gb310, 0, none⟩ = some (.int .i64 t302) := (blk_cell BK310.out 0).trans rfl; have hcz67_1 : w66.cell? ⟨gb310, 1, none⟩ = some (.slice Ao61 t303.length co61) := (blk_cell BK310.out 1).trans rfl; have hfz67_0 := blk_frozen BK310.out 0; have hfz67_1 := blk_frozen BK310.out 1) | (go_at_call 12; (refine calls_of_args (args' := #[.agg #[.int .i64 t302, .slice Ao61 t303.length co61], .agg #[.int .i64 0, .slice none ([] : List (S40)).length 0]]) (by rfl) ?_; with_reducible refine (downpourref03_Same.calls k t302 _ _ t303 0 _ _ ([] : List (S40)) true _ ?side1 ?side2 ?side3 ?side4 A47.out).mono ?_); (case side1 => repeat (first | exact (Kd.N_reads' HO305.out).2.2 | (with_reducible refine Kd.C_alloc ?_ _) | (with_reducible refine Kd.C_drewN ?_ _) | (with_reducible refine Kd.C_drew ?_))); (case side2 => exact (Kd.N_reads' HO305.out).2.1); (case side3 => exact Kd.C_nil _ _); (case side4 => exact Nat.le_refl _); rintro e w68 ⟨rfl, hb⟩; have n0_ := am (Kd.N_below (pn HO301) hb); have n1_ := am (Kd.N_below (pn HO305) hb); have n2_ := am (Kd.R_below (pr HO308) hb); have n3_ := bb BK297 hb; have n4_ := bb BK310 hb; have n5_ := am (below_step (pb HB) hb); clear HO301 HO305 HO308 BK297 BK310 HB; have HO301 := n0_; have HO305 := n1_; have HO308 := n2_; have BK297 := n3_; have BK310 := n4_; have HB := n5_; clear n0_ n1_ n2_ n3_ n4_ n5_; (try clear hb); (try clear hb2); (try clear hk); (try clear hi); obtain ⟨Ao69, co69, eo69⟩ := Kd.R_slice HO308.out; subst eo69))
       go_ret
       exact ⟨by first | rfl | (simp [errW_none, errW_some] <;> rfl) | (simp [*, errW_none, errW_some] <;> rfl), pb HB⟩
      ·
       rw [if_neg c49] at H
       exact absurd H (by simp)
     ·
      replace c48 := Bool.eq_false_iff.mpr c48
      subst c48
      have H1 : (none) = some r := by rw [if_neg (show ¬ (false = true) by decide)] at H; exact H
      clear H
      have H := H1
      clear H1
      exact absurd H (by simp)
    ·
     rw [if_neg c46] at H
     exact absurd H (by simp)
   ·
    rw [if_neg c45] at H
    exact absurd H (by simp)
  ·
   replace c44 := Bool.eq_false_iff.mpr c44
   subst c44
   have H1 : (none) = some r := by rw [if_neg (show ¬ (false = true) by decide)] at H; exact H
   clear H
   have H := H1
   clear H1
   exact absurd H (by simp)

end Go.Proofs.Ytfcedhejbnoinaa.PA
