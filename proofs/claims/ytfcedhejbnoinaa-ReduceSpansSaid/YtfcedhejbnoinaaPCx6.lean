-- PRINTED by print.py (a twelfth state) out of the translation. Not trusted: Lean checks it.
import Derived.Test.YtfcedhejbnoinaaPCx0
import Derived.Test.YtfcedhejbnoinaaPCx1
namespace Go.Proofs.Ytfcedhejbnoinaa.PC
open Go.RowKit Go.Proofs.YtfcedhejbnoinaaW.PrintWords Go.Proofs.YtfcedhejbnoinaaW.PrintLast Go.Proofs.YtfcedhejbnoinaaW.PrintMore
open Bool renaming true → T, false → F
open List renaming setIfInBounds_toArray → q1, set_cons_zero → q2, set_cons_succ → q3
attribute [local go_sem] run_store_func max2_int min2_int max_two min_two max_three min_three max_four min_four   -- for this text's walks alone
set_option linter.unusedVariables false
set_option linter.unusedSimpArgs false

/-! ### downpourref04_First: function 31 -/
def downpourref04_First.l0 : Nat → Int → Int → List Int → Option (Int)
 | 0, _, _, _ => none
 | k + 1, x3, x227000, x227001 => if x3 < x227000 then ((downpourref01_Bit.f x227000 x227001 x3).bind fun t227 => (if t227 = 1 then (some x3) else (downpourref04_First.l0 k (wrap64 (x3 + 1)) x227000 x227001))) else (some (-1))
def downpourref04_First.f (k : Nat) (a0_0 : Int) (l0_1 : List Int) : Option (Int) := downpourref04_First.l0 k 0 a0_0 l0_1
theorem downpourref04_First.mono_l : ∀ k, (∀ y0 y1 y2, LeO (downpourref04_First.l0 k y0 y1 y2) (downpourref04_First.l0 (k + 1) y0 y1 y2))
 | 0 => fun _ _ _ r h => by simp [downpourref04_First.l0] at h
 | k + 1 => by
  have ih0 := downpourref04_First.mono_l k
  ·
   intro y0 y1 y2
   unfold downpourref04_First.l0
   repeat' first
   | (with_reducible exact ih0 _ _ _)
   | (with_reducible exact LeO.refl _)
   | (with_reducible exact LeO.none _)
   | (with_reducible refine LeO.ite ?_ ?_)
   | (with_reducible refine LeO.bind ?_ (fun _ => ?_))
   | exact ih0 _ _ _
   | exact LeO.none _
   | refine LeO.ite ?_ ?_
   | refine LeO.bind ?_ (fun _ => ?_)
theorem downpourref04_First.mono : ∀ a0 a1 k, LeO (downpourref04_First.f k a0 a1) (downpourref04_First.f (k + 1) a0 a1) := by
 intro a0 a1 k
 have ih0 := downpourref04_First.mono_l k
 unfold downpourref04_First.f
 repeat' first
   | (with_reducible exact ih0 _ _ _)
   | (with_reducible exact LeO.refl _)
   | (with_reducible exact LeO.none _)
   | (with_reducible refine LeO.ite ?_ ?_)
   | (with_reducible refine LeO.bind ?_ (fun _ => ?_))
   | exact ih0 _ _ _
   | exact LeO.none _
   | refine LeO.ite ?_ ?_
   | refine LeO.bind ?_ (fun _ => ?_)
set_option maxHeartbeats 8000000 in
set_option maxRecDepth 100000 in
theorem downpourref04_First.calls (k : Nat) (a0_0 : Int) (A0_1 : Option Addr) (c0_1 : Nat) (l0_1 : List Int) (r : Int) (w : World) (hr0_1 : Kd.C (Kd.int .u64) w A0_1 l0_1.length l0_1) (hc0_1 : l0_1.length ≤ c0_1) (h : downpourref04_First.f k a0_0 l0_1 = some r) :
  Calls Try.prog 31 #[.agg #[.int .i64 a0_0, .slice A0_1 l0_1.length c0_1]] w fun e w' => e = .returned (.int .i64 r) ∧ Below w.heap.size w w' := by
 have hu40 := Try.underlying40
 have HR0_1 := Aside0.mk hr0_1
 have HC0_1 := Aside0.mk hc0_1
 clear hr0_1 hc0_1
 have HB := am (Below.refl w.heap.size w)
 have H : (downpourref04_First.l0 k 0 a0_0 l0_1) = some r := h
 clear h
 have H' := Aside0.mk H
 clear H
 go_enter Try.func31, Try.ntmps31
 go_wp2_with (first | ((with_reducible refine gate_dst (N := 1) rfl ?_); refine box_event ?hg (N := 1) ?hd (cs := #[.int .i64 a0_0, .slice A0_1 l0_1.length c0_1]) (t := 40) ?hr ?_; (case hd => rfl); (case hg => rfl); (case hr => first | (go_simp; done) | (go_simp; rfl)); intro gb226 hg w2 hbox hb; have n0_ := am (below_step (pb HB) hb); have n1_ := am (hbox); have n2_ := am ((by rw [hg]; exact (below_size (pb HB)) : w.heap.size ≤ gb226)); have n3_ := am ((by rw [hg]; exact (below_size (pb HB)) : w.heap.size ≤ gb226)); clear HB; have HB := n0_; have BK226 := n1_; have GW226 := n2_; have GE226 := n3_; clear n0_ n1_ n2_ n3_ hb hbox hg))
 go_loopg [3] k (fun kq v3 w' => ∃ (x3_1 : Int), v3 = .int .i64 x3_1 ∧ Aside0 (downpourref04_First.l0 kq x3_1 a0_0 l0_1 = some r) ∧ Aside0 (kq ≤ k) ∧ Aside0 (w'.heap[gb226]? = some (.cells #[.int .i64 a0_0, (.slice A0_1 l0_1.length c0_1)] 40 (0, 0))) ∧ Aside0 (Below w.heap.size w w'))
 case atStart => exact ⟨(0), (by first | rfl | (simp; done) | (simp [*]; done)), H', ⟨Nat.le_refl _⟩, ⟨by (with_reducible repeat (first | refine blk_drewN ?_ _ | refine blk_drew ?_ | refine blk_alloc ?_ _)); exact BK226.out⟩, ⟨pb HB⟩⟩
 case round =>
  clear H'
  try clear p2
  obtain ⟨x3_1, rfl, HA, HK1, BK226, HB⟩ := hrel
  cases gk with
  | zero => exact absurd HA.out (by simp [downpourref04_First.l0])
  | succ k1 =>
   have H := HA.out
   clear HA
   simp only [downpourref04_First.l0] at H
   by_cases c3 : x3_1 < a0_0
   ·
    rw [if_pos c3] at H
    have c3b0 : decide (x3_1 < a0_0) = true := decide_eq_true c3
    clear c3
    replace H := Option.bind_eq_some_iff.mp H
    obtain ⟨t227, A40, H⟩ := H
    replace H : (if t227 = 1 then (some x3_1) else (downpourref04_First.l0 k1 (wrap64 (x3_1 + 1)) a0_0 l0_1)) = some r := H
    have A4 := Aside0.mk A40
    clear A40
    by_cases c5 : t227 = 1
    ·
     rw [if_pos c5] at H
     have c5b0 : (t227 == 1) = true := beq_iff_eq.mpr c5
     have c5b1 : (t227 != 1) = false := bne_eq_false_iff_eq.mpr c5
     clear c5
     obtain rfl := Option.some.inj H
     have hcz6_0 : wr.cell? ⟨gb226, 0, none⟩ = some (.int .i64 a0_0) := (blk_cell BK226.out 0).trans rfl
     have hcz6_1 : wr.cell? ⟨gb226, 1, none⟩ = some (.slice A0_1 l0_1.length c0_1) := (blk_cell BK226.out 1).trans rfl
     have hfz6_0 := blk_frozen BK226.out 0
     have hfz6_1 := blk_frozen BK226.out 1
     go_wp2_with (first | ((with_reducible refine gate_callee (f := 39) rfl ?_); refine goesL_ (some 12) rfl rfl Try.func39 (by kernel_rfl) rfl #[.agg #[.int .i64 a0_0, .slice A0_1 l0_1.length c0_1], .int .i64 x3_1] rfl (by (try simp only [List.map_toArray, List.map_cons, List.map_nil]); first | done | rfl | (simp only [List.length_drop, List.length_take]; rfl)) ?_; (with_reducible refine (downpourref01_Bit.calls a0_0 _ _ l0_1 x3_1 t227 _ ?side1 ?side2 A4.out).mono ?_); (case side1 => repeat (first | exact (Kd.C_below HR0_1.out HB.out) | (with_reducible refine Kd.C_alloc ?_ _) | (with_reducible refine Kd.C_drewN ?_ _) | (with_reducible refine Kd.C_drew ?_))); (case side2 => exact HC0_1.out); rintro e w7 ⟨rfl, hb⟩; refine ⟨_, rfl, ?_⟩; have n0_ := bb BK226 hb; have n1_ := am (below_step (pb HB) hb); clear BK226 HB; have BK226 := n0_; have HB := n1_; clear n0_ n1_; (try clear hb); (try clear hb2); (try clear hk); (try clear hi)))
     go_ret
     exact ⟨by first | rfl | (simp [errW_none, errW_some] <;> rfl) | (simp [*, errW_none, errW_some] <;> rfl), pb HB⟩
    ·
     rw [if_neg c5] at H
     have c5b0 : (t227 == 1) = false := beq_eq_false_iff_ne.mpr c5
     have c5b1 : (t227 != 1) = true := bne_iff_ne.mpr c5
     have H' := Aside0.mk H
     clear H
     have hcz8_0 : wr.cell? ⟨gb226, 0, none⟩ = some (.int .i64 a0_0) := (blk_cell BK226.out 0).trans rfl
     have hcz8_1 : wr.cell? ⟨gb226, 1, none⟩ = some (.slice A0_1 l0_1.length c0_1) := (blk_cell BK226.out 1).trans rfl
     have hfz8_0 := blk_frozen BK226.out 0
     have hfz8_1 := blk_frozen BK226.out 1
     go_wp2_with (first | ((with_reducible refine gate_callee (f := 39) rfl ?_); refine goesL_ (some 12) rfl rfl Try.func39 (by kernel_rfl) rfl #[.agg #[.int .i64 a0_0, .slice A0_1 l0_1.length c0_1], .int .i64 x3_1] rfl (by (try simp only [List.map_toArray, List.map_cons, List.map_nil]); first | done | rfl | (simp only [List.length_drop, List.length_take]; rfl)) ?_; (with_reducible refine (downpourref01_Bit.calls a0_0 _ _ l0_1 x3_1 t227 _ ?side1 ?side2 A4.out).mono ?_); (case side1 => repeat (first | exact (Kd.C_below HR0_1.out HB.out) | (with_reducible refine Kd.C_alloc ?_ _) | (with_reducible refine Kd.C_drewN ?_ _) | (with_reducible refine Kd.C_drew ?_))); (case side2 => exact HC0_1.out); rintro e w9 ⟨rfl, hb⟩; refine ⟨_, rfl, ?_⟩; have n0_ := bb BK226 hb; have n1_ := am (below_step (pb HB) hb); clear BK226 HB; have BK226 := n0_; have HB := n1_; clear n0_ n1_; (try clear hb); (try clear hb2); (try clear hk); (try clear hi)))
     go_roundg k1
     case measure => have := HK1.out; omega
     case rel => exact ⟨(wrap64 (x3_1 + 1)), (by first | rfl | (simp; done) | (simp [*]; done)), H', ⟨by have := HK1.out; omega⟩, ⟨by (with_reducible repeat (first | refine blk_drewN ?_ _ | refine blk_drew ?_ | refine blk_alloc ?_ _)); exact BK226.out⟩, ⟨pb HB⟩⟩
   ·
    rw [if_neg c3] at H
    have c3b0 : decide (x3_1 < a0_0) = false := decide_eq_false c3
    clear c3
    obtain rfl := Option.some.inj H
    have hcz10_0 : wr.cell? ⟨gb226, 0, none⟩ = some (.int .i64 a0_0) := (blk_cell BK226.out 0).trans rfl
    have hcz10_1 : wr.cell? ⟨gb226, 1, none⟩ = some (.slice A0_1 l0_1.length c0_1) := (blk_cell BK226.out 1).trans rfl
    have hfz10_0 := blk_frozen BK226.out 0
    have hfz10_1 := blk_frozen BK226.out 1
    go_wp2
    go_ret
    exact ⟨by first | rfl | (simp [errW_none, errW_some] <;> rfl) | (simp [*, errW_none, errW_some] <;> rfl), pb HB⟩

/-! ### downpourref01_From: function 57 -/
mutual
def downpourref01_From.l0 : Nat → List Int → Int → Int → List Int → Option (Int × List Int)
 | 0, _, _, _, _ => none
 | k + 1, x0, x4, x230000, x230001 => (downpourref01_words.f (x0.length : Int)).bind fun t230 => (if x4 < t230 then (downpourref01_From.l1 k x0 x4 0 63 x230000 x230001) else (some (x230000, x230001)))
def downpourref01_From.l1 : Nat → List Int → Int → Int → Int → Int → List Int → Option (Int × List Int)
 | 0, _, _, _, _, _, _ => none
 | k + 1, x0, x4, x5, x6, x230000, x230001 => if x6 ≥ 0 then (if (wrap64 ((wrap64 (64 * x4)) + x6)) < (x0.length : Int) then (if 0 ≤ (wrap64 ((wrap64 (64 * x4)) + x6)) then (if (rd x0 (wrap64 ((wrap64 (64 * x4)) + x6))) = 1 then (downpourref01_From.l1 k x0 x4 (IntKind.u64.wrap ((IntKind.u64.wrap (2 * x5)) + 1)) (wrap64 (x6 - 1)) x230000 x230001) else (downpourref01_From.l1 k x0 x4 (IntKind.u64.wrap (2 * x5)) (wrap64 (x6 - 1)) x230000 x230001)) else (none)) else (downpourref01_From.l1 k x0 x4 (IntKind.u64.wrap (2 * x5)) (wrap64 (x6 - 1)) x230000 x230001)) else (if x230001.length < 17592186044416 then (downpourref01_From.l0 k x0 (wrap64 (x4 + 1)) x230000 (x230001 ++ [x5])) else (none))
end
def downpourref01_From.f (k : Nat) (l0 : List Int) : Option (Int × List Int) := downpourref01_From.l0 k l0 0 (l0.length : Int) ([] : List Int)
theorem downpourref01_From.mono_l : ∀ k, (∀ y0 y1 y2 y3, LeO (downpourref01_From.l0 k y0 y1 y2 y3) (downpourref01_From.l0 (k + 1) y0 y1 y2 y3)) ∧ (∀ y0 y1 y2 y3 y4 y5, LeO (downpourref01_From.l1 k y0 y1 y2 y3 y4 y5) (downpourref01_From.l1 (k + 1) y0 y1 y2 y3 y4 y5))
 | 0 => ⟨fun _ _ _ _ r h => by simp [downpourref01_From.l0] at h, fun _ _ _ _ _ _ r h => by simp [downpourref01_From.l1] at h⟩
 | k + 1 => by
  obtain ⟨ih0, ih1⟩ := downpourref01_From.mono_l k
  refine ⟨?_, ?_⟩
  ·
   intro y0 y1 y2 y3
   unfold downpourref01_From.l0
   repeat' first
   | (with_reducible exact ih0 _ _ _ _)
   | (with_reducible exact ih1 _ _ _ _ _ _)
   | (with_reducible exact LeO.refl _)
   | (with_reducible exact LeO.none _)
   | (with_reducible refine LeO.ite ?_ ?_)
   | (with_reducible refine LeO.bind ?_ (fun _ => ?_))
   | exact ih0 _ _ _ _
   | exact ih1 _ _ _ _ _ _
   | exact LeO.none _
   | refine LeO.ite ?_ ?_
   | refine LeO.bind ?_ (fun _ => ?_)
  ·
   intro y0 y1 y2 y3 y4 y5
   unfold downpourref01_From.l1
   repeat' first
   | (with_reducible exact ih0 _ _ _ _)
   | (with_reducible exact ih1 _ _ _ _ _ _)
   | (with_reducible exact LeO.refl _)
   | (with_reducible exact LeO.none _)
   | (with_reducible refine LeO.ite ?_ ?_)
   | (with_reducible refine LeO.bind ?_ (fun _ => ?_))
   | exact ih0 _ _ _ _
   | exact ih1 _ _ _ _ _ _
   | exact LeO.none _
   | refine LeO.ite ?_ ?_
   | refine LeO.bind ?_ (fun _ => ?_)
theorem downpourref01_From.mono : ∀ a0 k, LeO (downpourref01_From.f k a0) (downpourref01_From.f (k + 1) a0) := by
 intro a0 k
 obtain ⟨ih0, ih1⟩ := downpourref01_From.mono_l k
 unfold downpourref01_From.f
 repeat' first
   | (with_reducible exact ih0 _ _ _ _)
   | (with_reducible exact ih1 _ _ _ _ _ _)
   | (with_reducible exact LeO.refl _)
   | (with_reducible exact LeO.none _)
   | (with_reducible refine LeO.ite ?_ ?_)
   | (with_reducible refine LeO.bind ?_ (fun _ => ?_))
   | exact ih0 _ _ _ _
   | exact ih1 _ _ _ _ _ _
   | exact LeO.none _
   | refine LeO.ite ?_ ?_
   | refine LeO.bind ?_ (fun _ => ?_)
set_option maxHeartbeats 8000000 in
set_option maxRecDepth 100000 in
theorem downpourref01_From.calls (k : Nat) (A0 : Option Addr) (c0 : Nat) (l0 : List Int) (r1 : Int) (r2 : List Int) (w : World) (hr0 : Kd.C (Kd.int .i64) w A0 l0.length l0) (hc0 : l0.length ≤ c0) (h : downpourref01_From.f k l0 = some (r1, r2)) :
  Calls Try.prog 57 #[.slice A0 l0.length c0] w fun e w' => ∃ v1_ : Value, e = .returned (.agg #[.int .i64 r1, v1_]) ∧ Kd.R (Kd.int .u64) 48 w' w.heap.size (fun _ => True) v1_ r2 ∧ Below w.heap.size w w' := by
 have hu40 := Try.underlying40
 have HR0 := Aside0.mk hr0
 have HC0 := Aside0.mk hc0
 clear hr0 hc0
 have HB := am (Below.refl w.heap.size w)
 have H : (downpourref01_From.l0 k l0 0 (l0.length : Int) ([] : List Int)) = some (r1, r2) := h
 clear h
 have H' := Aside0.mk H
 clear H
 go_enter Try.func57, Try.ntmps57
 go_wp2_with (first | ((with_reducible refine gate_dst (N := 2) rfl ?_); refine box_event ?hg (N := 2) ?hd (cs := #[.int .i64 0, .slice none 0 0]) (t := 40) ?hr ?_; (case hd => rfl); (case hg => rfl); (case hr => first | (go_simp; done) | (go_simp; rfl)); intro gb228 hg w2 hbox hb; have n0_ := am (below_step (pb HB) hb); have n1_ := am (hbox); have n2_ := am ((by rw [hg]; exact (below_size (pb HB)) : w.heap.size ≤ gb228)); have n3_ := am ((by rw [hg]; exact (below_size (pb HB)) : w.heap.size ≤ gb228)); clear HB; have HB := n0_; have BK228 := n1_; have GW228 := n2_; have GE228 := n3_; clear n0_ n1_ n2_ n3_ hb hbox hg) | ((with_reducible refine gate_dst (N := 3) rfl ?_); refine box_event ?hg (N := 3) ?hd (cs := #[.int .i64 0, .slice none 0 0]) (t := 40) ?hr ?_; (case hd => rfl); (case hg => rfl); (case hr => first | (go_simp; done) | (go_simp; rfl)); intro gb229 hg w3 hbox hb; have n0_ := bb BK228 hb; have n1_ := am (below_step (pb HB) hb); have n2_ := am (hbox); have n3_ := am ((by rw [hg]; exact (below_size (pb HB)) : w.heap.size ≤ gb229)); have n4_ := am ((by rw [hg]; exact (below_size (pb HB)) : w.heap.size ≤ gb229)); have n5_ := am ((by rw [hg]; exact Nat.ne_of_lt (bl BK228) : gb228 ≠ gb229)); have n6_ := am ((by rw [hg]; exact Nat.ne_of_gt (bl BK228) : gb229 ≠ gb228)); clear BK228 HB; have BK228 := n0_; have HB := n1_; have BK229 := n2_; have GW229 := n3_; have GE229 := n4_; have NB228_229 := n5_; have NB229_228 := n6_; clear n0_ n1_ n2_ n3_ n4_ n5_ n6_ hb hbox hg; have hnb4 := NB229_228.out; have hnc4 := NB228_229.out; have hcz5_0 : w3.cell? ⟨gb229, 0, none⟩ = some (.int .i64 0) := (blk_cell BK229.out 0).trans rfl; have hcz5_1 : w3.cell? ⟨gb229, 1, none⟩ = some (.slice none 0 0) := (blk_cell BK229.out 1).trans rfl; have hfz5_0 := blk_frozen BK229.out 0; have hfz5_1 := blk_frozen BK229.out 1))
 go_loopg [4] k (fun kq v4 w' => ∃ (x4_1 : Int) (x230001_1 : List Int) (u230001 : Value), v4 = .int .i64 x4_1 ∧ Aside0 (downpourref01_From.l0 kq l0 x4_1 (l0.length : Int) x230001_1 = some (r1, r2)) ∧ Aside0 (kq ≤ k) ∧ Aside0 (Kd.R (Kd.int .u64) 48 w' w.heap.size (fun _ => True) u230001 x230001_1) ∧ Aside0 (w'.heap[gb228]? = some (.cells #[.int .i64 0, (.slice none 0 0)] 40 (0, 0))) ∧ Aside0 (w'.heap[gb229]? = some (.cells #[.int .i64 (l0.length : Int), u230001] 40 (0, 0))) ∧ Aside0 (Below w.heap.size w w'))
 case atStart => exact ⟨(0), (([] : List Int)), (.slice none 0 0), (by first | rfl | (simp; done) | (simp [*]; done)), H', ⟨Nat.le_refl _⟩, ⟨by first | exact Kd.R_nil _ _ _ _ _ | exact Kd.N_nil _ _ _ _ _ | exact Kd.V_nil _ _ _ _ _ | exact Kd.Q_nil _ _ _ _ _ | exact Kd.S_nil _ _ _ _ _⟩, ⟨by (with_reducible repeat (first | refine blk_drewN ?_ _ | refine blk_drew ?_ | refine blk_alloc ?_ _)); refine blk_far ?_ NB228_229.out _; (with_reducible repeat (first | refine blk_drewN ?_ _ | refine blk_drew ?_ | refine blk_alloc ?_ _)); refine blk_far ?_ NB228_229.out _; (with_reducible repeat (first | refine blk_drewN ?_ _ | refine blk_drew ?_ | refine blk_alloc ?_ _)); exact BK228.out⟩, ⟨by (with_reducible repeat (first | refine blk_drewN ?_ _ | refine blk_drew ?_ | refine blk_alloc ?_ _)); refine blk_put (cs := #[.int .i64 (l0.length : Int), .slice none 0 0]) ?_ 1 _ rfl; (with_reducible repeat (first | refine blk_drewN ?_ _ | refine blk_drew ?_ | refine blk_alloc ?_ _)); refine blk_put (cs := #[.int .i64 0, .slice none 0 0]) ?_ 0 _ rfl; (with_reducible repeat (first | refine blk_drewN ?_ _ | refine blk_drew ?_ | refine blk_alloc ?_ _)); exact BK229.out⟩, ⟨pb HB⟩⟩
 case round =>
  clear H'
  try clear p2
  try clear c4
  try clear c5
  try clear hcz5_0
  try clear hcz5_1
  try clear hfz5_0
  try clear hfz5_1
  obtain ⟨x4_1, x230001_1, u230001, rfl, HA, HK1, HO_230001, BK228, BK229, HB⟩ := hrel
  cases gk with
  | zero => exact absurd HA.out (by simp [downpourref01_From.l0])
  | succ k1 =>
   have H := HA.out
   clear HA
   simp only [downpourref01_From.l0] at H
   replace H := Option.bind_eq_some_iff.mp H
   obtain ⟨t230, A60, H⟩ := H
   replace H : (if x4_1 < t230 then (downpourref01_From.l1 k1 l0 x4_1 0 63 (l0.length : Int) x230001_1) else (some ((l0.length : Int), x230001_1))) = some (r1, r2) := H
   have A6 := Aside0.mk A60
   clear A60
   by_cases c7 : x4_1 < t230
   ·
    rw [if_pos c7] at H
    have c7b0 : decide (x4_1 < t230) = true := decide_eq_true c7
    clear c7
    have H' := Aside0.mk H
    clear H
    go_wp2_with (first | ((with_reducible refine gate_callee (f := 38) rfl ?_); refine goesL_ (some 13) rfl rfl Try.func38 (by kernel_rfl) rfl #[.int .i64 (l0.length : Int)] rfl (by (try simp only [List.map_toArray, List.map_cons, List.map_nil]); first | done | rfl | (simp only [List.length_drop, List.length_take]; rfl)) ?_; (with_reducible refine (downpourref01_words.calls (l0.length : Int) t230 _ A6.out).mono ?_); rintro e w' ⟨rfl, ⟨nd, rfl⟩⟩; refine ⟨_, rfl, ?_⟩))
    go_loopg [5, 6] k1 (fun kq v5 v6 w' => ∃ (x5_2 : Int) (x6_2 : Int), v5 = .int .u64 x5_2 ∧ v6 = .int .i64 x6_2 ∧ Aside0 (downpourref01_From.l1 kq l0 x4_1 x5_2 x6_2 (l0.length : Int) x230001_1 = some (r1, r2)) ∧ Aside0 (kq ≤ k1) ∧ Aside0 (Kd.R (Kd.int .u64) 48 w' w.heap.size (fun _ => True) u230001 x230001_1) ∧ Aside0 (w'.heap[gb228]? = some (.cells #[.int .i64 0, (.slice none 0 0)] 40 (0, 0))) ∧ Aside0 (w'.heap[gb229]? = some (.cells #[.int .i64 (l0.length : Int), u230001] 40 (0, 0))) ∧ Aside0 (Below w.heap.size w w'))
    case atStart => exact ⟨(0), (63), (by first | rfl | (simp; done) | (simp [*]; done)), (by first | rfl | (simp; done) | (simp [*]; done)), H', ⟨Nat.le_refl _⟩, ⟨by (with_reducible repeat (first | apply Kd.R_alloc | apply Kd.R_drewN | apply Kd.R_drew)); exact HO_230001.out⟩, ⟨by (with_reducible repeat (first | refine blk_drewN ?_ _ | refine blk_drew ?_ | refine blk_alloc ?_ _)); exact BK228.out⟩, ⟨by (with_reducible repeat (first | refine blk_drewN ?_ _ | refine blk_drew ?_ | refine blk_alloc ?_ _)); exact BK229.out⟩, ⟨pb HB⟩⟩
    case round =>
     clear H'
     try clear p2
     try clear c3
     try clear c4
     try clear c5
     try clear c7
     try clear c7b0
     try clear hcz5_0
     try clear hcz5_1
     try clear hfz5_0
     try clear hfz5_1
     try clear p2
     obtain ⟨x5_2, x6_2, rfl, rfl, HA, HK2, HO_230001, BK228, BK229, HB⟩ := hrel
     cases gk with
     | zero => exact absurd HA.out (by simp [downpourref01_From.l1])
     | succ k2 =>
      have H := HA.out
      clear HA
      simp only [downpourref01_From.l1] at H
      by_cases c8 : x6_2 ≥ 0
      ·
       rw [if_pos c8] at H
       have c8b0 : decide (0 ≤ x6_2) = true := decide_eq_true c8
       clear c8
       by_cases c9 : (wrap64 ((wrap64 (64 * x4_1)) + x6_2)) < (l0.length : Int)
       ·
        rw [if_pos c9] at H
        have c9b0 : decide ((wrap64 ((wrap64 (64 * x4_1)) + x6_2)) < (l0.length : Int)) = true := decide_eq_true c9
        clear c9
        obtain ⟨ji10, hji10⟩ : ∃ j_ : Int, (wrap64 ((wrap64 (64 * x4_1)) + x6_2)) = j_ := ⟨_, rfl⟩
        replace H : (if 0 ≤ (ji10) then (if (rd l0 (ji10)) = 1 then (downpourref01_From.l1 k2 l0 x4_1 (IntKind.u64.wrap ((IntKind.u64.wrap (2 * x5_2)) + 1)) (wrap64 (x6_2 - 1)) (l0.length : Int) x230001_1) else (downpourref01_From.l1 k2 l0 x4_1 (IntKind.u64.wrap (2 * x5_2)) (wrap64 (x6_2 - 1)) (l0.length : Int) x230001_1)) else (none)) = some (r1, r2) := by first | (rw [hji10] at H; exact H) | (simp only [hji10] at H ⊢; exact H)
        (try rw [hji10] at c9b0)
        have hji10w : (IntKind.i64.wrap ((wrap64 (64 * x4_1)) + x6_2)) = ji10 := (i64_w _).trans hji10
        by_cases c11 : 0 ≤ (ji10)
        ·
         rw [if_pos c11] at H
         have c11b0 : decide (0 ≤ (ji10)) = true := decide_eq_true c11
         clear c11
         by_cases c12 : (rd l0 (ji10)) = 1
         ·
          rw [if_pos c12] at H
          have c12b0 : ((rd l0 (ji10)) == 1) = true := beq_iff_eq.mpr c12
          have c12b1 : ((rd l0 (ji10)) != 1) = false := bne_eq_false_iff_eq.mpr c12
          clear c12
          have H' := Aside0.mk H
          clear H
          have p231 : 0 ≤ ((ji10) : Int) := of_decide_eq_true (by first | (with_reducible assumption) | assumption)
          have q231 : (ji10) < (l0.length : Int) := of_decide_eq_true (by first | (with_reducible assumption) | assumption)
          obtain ⟨ad231, e231, hx231_0⟩ := Kd.at_int HR0.out (ji10) p231 q231
          cases e231
          replace hx231_0 := (HB.out.cell (World.block_lt_of_cell? w _ hx231_0)).trans hx231_0
          replace p231 := eq_true p231
          replace q231 := eq_true q231
          go_wp2
          go_roundg k2
          case measure => have := HK1.out; have := HK2.out; omega
          case rel => exact ⟨(IntKind.u64.wrap ((IntKind.u64.wrap (2 * x5_2)) + 1)), (wrap64 (x6_2 - 1)), (by first | rfl | (simp; done) | (simp [*]; done)), (by first | rfl | (simp; done) | (simp [*]; done)), H', ⟨by have := HK1.out; have := HK2.out; omega⟩, ⟨by (with_reducible repeat (first | apply Kd.R_alloc | apply Kd.R_drewN | apply Kd.R_drew)); exact HO_230001.out⟩, ⟨by (with_reducible repeat (first | refine blk_drewN ?_ _ | refine blk_drew ?_ | refine blk_alloc ?_ _)); exact BK228.out⟩, ⟨by (with_reducible repeat (first | refine blk_drewN ?_ _ | refine blk_drew ?_ | refine blk_alloc ?_ _)); exact BK229.out⟩, ⟨pb HB⟩⟩
         ·
          rw [if_neg c12] at H
          have c12b0 : ((rd l0 (ji10)) == 1) = false := beq_eq_false_iff_ne.mpr c12
          have c12b1 : ((rd l0 (ji10)) != 1) = true := bne_iff_ne.mpr c12
          have H' := Aside0.mk H
          clear H
          have p231 : 0 ≤ ((ji10) : Int) := of_decide_eq_true (by first | (with_reducible assumption) | assumption)
          have q231 : (ji10) < (l0.length : Int) := of_decide_eq_true (by first | (with_reducible assumption) | assumption)
          obtain ⟨ad231, e231, hx231_0⟩ := Kd.at_int HR0.out (ji10) p231 q231
          cases e231
          replace hx231_0 := (HB.out.cell (World.block_lt_of_cell? w _ hx231_0)).trans hx231_0
          replace p231 := eq_true p231
          replace q231 := eq_true q231
          go_wp2
          go_roundg k2
          case measure => have := HK1.out; have := HK2.out; omega
          case rel => exact ⟨(IntKind.u64.wrap (2 * x5_2)), (wrap64 (x6_2 - 1)), (by first | rfl | (simp; done) | (simp [*]; done)), (by first | rfl | (simp; done) | (simp [*]; done)), H', ⟨by have := HK1.out; have := HK2.out; omega⟩, ⟨by (with_reducible repeat (first | apply Kd.R_alloc | apply Kd.R_drewN | apply Kd.R_drew)); exact HO_230001.out⟩, ⟨by (with_reducible repeat (first | refine blk_drewN ?_ _ | refine blk_drew ?_ | refine blk_alloc ?_ _)); exact BK228.out⟩, ⟨by (with_reducible repeat (first | refine blk_drewN ?_ _ | refine blk_drew ?_ | refine blk_alloc ?_ _)); exact BK229.out⟩, ⟨pb HB⟩⟩
        ·
         rw [if_neg c11] at H
         exact absurd H (by simp)
       ·
        rw [if_neg c9] at H
        have c9b0 : decide ((wrap64 ((wrap64 (64 * x4_1)) + x6_2)) < (l0.length : Int)) = false := decide_eq_false c9
        clear c9
        have H' := Aside0.mk H
        clear H
        go_wp2
        go_roundg k2
        case measure => have := HK1.out; have := HK2.out; omega
        case rel => exact ⟨(IntKind.u64.wrap (2 * x5_2)), (wrap64 (x6_2 - 1)), (by first | rfl | (simp; done) | (simp [*]; done)), (by first | rfl | (simp; done) | (simp [*]; done)), H', ⟨by have := HK1.out; have := HK2.out; omega⟩, ⟨by (with_reducible repeat (first | apply Kd.R_alloc | apply Kd.R_drewN | apply Kd.R_drew)); exact HO_230001.out⟩, ⟨by (with_reducible repeat (first | refine blk_drewN ?_ _ | refine blk_drew ?_ | refine blk_alloc ?_ _)); exact BK228.out⟩, ⟨by (with_reducible repeat (first | refine blk_drewN ?_ _ | refine blk_drew ?_ | refine blk_alloc ?_ _)); exact BK229.out⟩, ⟨pb HB⟩⟩
      ·
       rw [if_neg c8] at H
       have c8b0 : decide (0 ≤ x6_2) = false := decide_eq_false c8
       clear c8
       by_cases c13 : x230001_1.length < 17592186044416
       ·
        rw [if_pos c13] at H
        have LMc13 := Aside0.mk c13
        clear c13
        obtain ⟨y232, hy232⟩ : ∃ y_ : List Int, y_ = (x230001_1 ++ [x5_2]) := ⟨_, rfl⟩
        replace H : (downpourref01_From.l0 k2 l0 (wrap64 (x4_1 + 1)) (l0.length : Int) y232) = some (r1, r2) := by first | (rw [hy232]; with_reducible exact H) | (have H2_ := (Option.bind_some _ _).symm.trans H; rw [hy232]; with_reducible exact H2_) | (have H2_ := (Option.bind_some _ _).symm.trans H; with_reducible exact H2_) | with_reducible exact H | (rw [hy232]; exact H) | exact H
        have Ny232 := Aside0.mk hy232
        clear hy232
        have H' := Aside0.mk H
        clear H
        have hnb14 := NB229_228.out
        have hnc14 := NB228_229.out
        have hcz15_0 : wr.cell? ⟨gb229, 0, none⟩ = some (.int .i64 (l0.length : Int)) := (blk_cell BK229.out 0).trans rfl
        have hcz15_1 : wr.cell? ⟨gb229, 1, none⟩ = some (u230001) := (blk_cell BK229.out 1).trans rfl
        have hfz15_0 := blk_frozen BK229.out 0
        have hfz15_1 := blk_frozen BK229.out 1
        go_wp2_with (first | ((with_reducible refine gate_builtin (b := .append) (xs := #[.tmp 43, .tmp 45]) rfl ?_); at_builtin; refine Kd.R_append (Kd.int .u64) (w0 := w) w.heap.size rfl (.tmp 43) (.tmp 45) 38 48 (.int .u64 0) 8 rfl Try.underlying38 info48 rfl (by decide) (by omega) u230001 x230001_1 x5_2 [.int .u64 x5_2] (fun _ => True) (fun _ => False) rfl rfl ?aP (fun _ hk => hk.elim) ?aF ?aO ?aB ?aS ?aL ?_; (case aP => exact rfl); (case aB => exact (pb HB)); (case aF => exact (fun _ _ => trivial)); (case aO => exact (pr HO_230001)); (case aS => exact (below_size (pb HB))); (case aL => have := LMc13.out; omega); intro v233 w16 ho hb hg hat; rw [← Ny232.out] at ho; have n0_ := am (blk_grown (g := gb228) (o := .cells #[.int .i64 0, .slice none 0 0] 40 (0, 0)) (pk BK228) hg (Kd.R_ne HO_230001.out BK228.out (by decide))); have n1_ := am (blk_grown (g := gb229) (o := .cells #[.int .i64 (l0.length : Int), u230001] 40 (0, 0)) (pk BK229) hg (Kd.R_ne HO_230001.out BK229.out (by decide))); have n2_ := am (hb); have n3_ := am (ho); clear BK228 BK229 HB HO_230001; have BK228 := n0_; have BK229 := n1_; have HB := n2_; have HO234 := n3_; clear n0_ n1_ n2_ n3_ ho hb hg hat; obtain ⟨Ao17, co17, eo17⟩ := Kd.R_slice HO234.out; subst eo17; have hcz18_0 : w16.cell? ⟨gb229, 0, none⟩ = some (.int .i64 (l0.length : Int)) := (blk_cell BK229.out 0).trans rfl; have hcz18_1 : w16.cell? ⟨gb229, 1, none⟩ = some (u230001) := (blk_cell BK229.out 1).trans rfl; have hfz18_0 := blk_frozen BK229.out 0; have hfz18_1 := blk_frozen BK229.out 1))
        go_roundg k2
        case measure => have := HK1.out; have := HK2.out; omega
        case rel => exact ⟨(wrap64 (x4_1 + 1)), (y232), (.slice Ao17 y232.length co17), (by first | rfl | (simp; done) | (simp [*]; done)), H', ⟨by have := HK1.out; have := HK2.out; omega⟩, ⟨by (with_reducible repeat (first | apply Kd.R_alloc | apply Kd.R_drewN | apply Kd.R_drew)); exact Kd.R_mono (Kd.R_far (p := ⟨gb229, 1, none⟩) (Kd.R_types HO234.out BK229.out (by decide)) (fun _ hk => hk.2) (.slice Ao17 y232.length co17)) (fun _ hk => trivial)⟩, ⟨by (with_reducible repeat (first | refine blk_drewN ?_ _ | refine blk_drew ?_ | refine blk_alloc ?_ _)); refine blk_far ?_ NB228_229.out _; (with_reducible repeat (first | refine blk_drewN ?_ _ | refine blk_drew ?_ | refine blk_alloc ?_ _)); exact BK228.out⟩, ⟨by (with_reducible repeat (first | refine blk_drewN ?_ _ | refine blk_drew ?_ | refine blk_alloc ?_ _)); refine blk_put (cs := #[.int .i64 (l0.length : Int), u230001]) ?_ 1 _ rfl; (with_reducible repeat (first | refine blk_drewN ?_ _ | refine blk_drew ?_ | refine blk_alloc ?_ _)); exact BK229.out⟩, ⟨pb HB⟩⟩
       ·
        rw [if_neg c13] at H
        exact absurd H (by simp)
   ·
    rw [if_neg c7] at H
    have c7b0 : decide (x4_1 < t230) = false := decide_eq_false c7
    clear c7
    simp only [Option.some.injEq, Prod.mk.injEq] at H
    obtain ⟨rfl, rfl⟩ := H
    go_wp2_with (first | ((with_reducible refine gate_callee (f := 38) rfl ?_); refine goesL_ (some 13) rfl rfl Try.func38 (by kernel_rfl) rfl #[.int .i64 (l0.length : Int)] rfl (by (try simp only [List.map_toArray, List.map_cons, List.map_nil]); first | done | rfl | (simp only [List.length_drop, List.length_take]; rfl)) ?_; (with_reducible refine (downpourref01_words.calls (l0.length : Int) t230 _ A6.out).mono ?_); rintro e w' ⟨rfl, ⟨nd, rfl⟩⟩; refine ⟨_, rfl, ?_⟩; (try (rw [drewN_self wr]; generalize hq_ : World.drewN wr _ = wr; have n0_ : Aside0 (Kd.R (Kd.int .u64) 48 wr w.heap.size (fun _ => True) u230001 x230001_1) := ⟨by rw [← hq_]; exact (pr HO_230001)⟩; have n1_ : Aside0 (wr.heap[gb228]? = some (.cells #[.int .i64 0, .slice none 0 0] 40 (0, 0))) := ⟨by rw [← hq_]; exact (pk BK228)⟩; have n2_ : Aside0 (wr.heap[gb229]? = some (.cells #[.int .i64 (l0.length : Int), u230001] 40 (0, 0))) := ⟨by rw [← hq_]; exact (pk BK229)⟩; have n3_ : Aside0 (Below w.heap.size w wr) := ⟨by rw [← hq_]; exact (pb HB)⟩; clear HO_230001 BK228 BK229 HB hq_; have HO_230001 := n0_; have BK228 := n1_; have BK229 := n2_; have HB := n3_; clear n0_ n1_ n2_ n3_)); have hnb19 := NB229_228.out; have hnc19 := NB228_229.out; have hcz20_0 : wr.cell? ⟨gb229, 0, none⟩ = some (.int .i64 (l0.length : Int)) := (blk_cell BK229.out 0).trans rfl; have hcz20_1 : wr.cell? ⟨gb229, 1, none⟩ = some (u230001) := (blk_cell BK229.out 1).trans rfl; have hfz20_0 := blk_frozen BK229.out 0; have hfz20_1 := blk_frozen BK229.out 1; have hcz21_0 : wr.cell? ⟨gb228, 0, none⟩ = some (.int .i64 0) := (blk_cell BK228.out 0).trans rfl; have hcz21_1 : wr.cell? ⟨gb228, 1, none⟩ = some (.slice none 0 0) := (blk_cell BK228.out 1).trans rfl; have hfz21_0 := blk_frozen BK228.out 0; have hfz21_1 := blk_frozen BK228.out 1; obtain ⟨Ao22, co22, eo22⟩ := Kd.R_slice HO_230001.out; subst eo22))
    refine bodyPost_ret (results_cell_row rfl _ _ gb228 40 #[.int .i64 (l0.length : Int), .slice Ao22 x230001_1.length co22] (0, 0) _ rfl (by (with_reducible repeat (first | refine blk_drewN ?_ _ | refine blk_drew ?_ | refine blk_alloc ?_ _)); refine blk_put (cs := #[.int .i64 (l0.length : Int), .slice none 0 0]) ?_ 1 _ rfl; (with_reducible repeat (first | refine blk_drewN ?_ _ | refine blk_drew ?_ | refine blk_alloc ?_ _)); refine blk_put (cs := #[.int .i64 0, .slice none 0 0]) ?_ 0 _ rfl; (with_reducible repeat (first | refine blk_drewN ?_ _ | refine blk_drew ?_ | refine blk_alloc ?_ _)); exact BK228.out) Try.underlying40 rfl (by kernel_rfl)) rfl ?_
    exact ⟨_, by first | rfl | (simp [errW_none, errW_some] <;> rfl) | (simp [*, errW_none, errW_some] <;> rfl), by (with_reducible repeat (first | apply Kd.R_alloc | apply Kd.R_drewN | apply Kd.R_drew)); exact Kd.R_mono (Kd.R_far (p := ⟨gb228, 1, none⟩) (Kd.R_far (p := ⟨gb228, 0, none⟩) (Kd.R_types HO_230001.out BK228.out (by decide)) (fun _ hk => hk.2) (.int .i64 (l0.length : Int))) (fun _ hk => hk.2) (.slice Ao22 x230001_1.length co22)) (fun _ hk => trivial), pb HB⟩

/-! ### downpourref01_Xor: function 50 -/
def downpourref01_Xor.l0 : Nat → List Int → Int → Int → List Int → Int → List Int → Option (Int × List Int)
 | 0, _, _, _, _, _, _ => none
 | k + 1, x5, x6, x236000, x236001, x237000, x237001 => if x6 < x236000 then ((downpourref01_Bit.f x236000 x236001 x6).bind fun t241 => ((downpourref01_Bit.f x237000 x237001 x6).bind fun t242 => (if x5.length < 17592186044416 then (downpourref01_Xor.l0 k (x5 ++ [Int.tmod (wrap64 (t241 + t242)) 2]) (wrap64 (x6 + 1)) x236000 x236001 x237000 x237001) else (none)))) else ((downpourref01_From.f k x5).bind fun bt246 => (some (bt246.1, bt246.2)))
def downpourref01_Xor.f (k : Nat) (a0_0 : Int) (l0_1 : List Int) (a1_0 : Int) (l1_1 : List Int) : Option (Int × List Int) := downpourref01_Xor.l0 k (([] : List Int)) 0 a0_0 l0_1 a1_0 l1_1
theorem downpourref01_Xor.mono_l : ∀ k, (∀ y0 y1 y2 y3 y4 y5, LeO (downpourref01_Xor.l0 k y0 y1 y2 y3 y4 y5) (downpourref01_Xor.l0 (k + 1) y0 y1 y2 y3 y4 y5))
 | 0 => fun _ _ _ _ _ _ r h => by simp [downpourref01_Xor.l0] at h
 | k + 1 => by
  have ih0 := downpourref01_Xor.mono_l k
  ·
   intro y0 y1 y2 y3 y4 y5
   unfold downpourref01_Xor.l0
   repeat' first
   | (with_reducible exact ih0 _ _ _ _ _ _)
   | (with_reducible exact downpourref01_From.mono _ _)
   | (with_reducible exact LeO.refl _)
   | (with_reducible exact LeO.none _)
   | (with_reducible refine LeO.ite ?_ ?_)
   | (with_reducible refine LeO.bind ?_ (fun _ => ?_))
   | exact ih0 _ _ _ _ _ _
   | exact downpourref01_From.mono _ _
   | exact LeO.none _
   | refine LeO.ite ?_ ?_
   | refine LeO.bind ?_ (fun _ => ?_)
theorem downpourref01_Xor.mono : ∀ a0 a1 a2 a3 k, LeO (downpourref01_Xor.f k a0 a1 a2 a3) (downpourref01_Xor.f (k + 1) a0 a1 a2 a3) := by
 intro a0 a1 a2 a3 k
 have ih0 := downpourref01_Xor.mono_l k
 unfold downpourref01_Xor.f
 repeat' first
   | (with_reducible exact ih0 _ _ _ _ _ _)
   | (with_reducible exact downpourref01_From.mono _ _)
   | (with_reducible exact LeO.refl _)
   | (with_reducible exact LeO.none _)
   | (with_reducible refine LeO.ite ?_ ?_)
   | (with_reducible refine LeO.bind ?_ (fun _ => ?_))
   | exact ih0 _ _ _ _ _ _
   | exact downpourref01_From.mono _ _
   | exact LeO.none _
   | refine LeO.ite ?_ ?_
   | refine LeO.bind ?_ (fun _ => ?_)
def downpourref01_Xor.T5 : Bool × List (List Nat × List Nat) := (true, [([], []), ([], []), ([], []), ([1, 2], [1, 2]), ([], []), ([], []), ([4, 5, 3], [4, 5]), ([3, 6], [3, 6]), ([7], [7]), ([8], [8]), ([0, 9, 6], [0, 9]), ([10, 10, 0, 1, 2, 3, 4, 5, 6, 7, 8, 9, 10], [0, 10])])
def downpourref01_Xor.B5 : List Nat := [0, 0, 0, 6, 0, 0, 62, 126, 254, 510, 1023, 2047]
theorem downpourref01_Xor.tab5 : rtab .any (opsOf Try.f50 5) = downpourref01_Xor.T5 := by kernel_rfl
theorem downpourref01_Xor.bits5 : waitsOk downpourref01_Xor.T5.2 downpourref01_Xor.B5 = true := by kernel_rfl
set_option maxHeartbeats 8000000 in
set_option maxRecDepth 100000 in
theorem downpourref01_Xor.calls (k : Nat) (a0_0 : Int) (A0_1 : Option Addr) (c0_1 : Nat) (l0_1 : List Int) (a1_0 : Int) (A1_1 : Option Addr) (c1_1 : Nat) (l1_1 : List Int) (r1 : Int) (r2 : List Int) (w : World) (hr0_1 : Kd.C (Kd.int .u64) w A0_1 l0_1.length l0_1) (hc0_1 : l0_1.length ≤ c0_1) (hr1_1 : Kd.C (Kd.int .u64) w A1_1 l1_1.length l1_1) (hc1_1 : l1_1.length ≤ c1_1) (h : downpourref01_Xor.f k a0_0 l0_1 a1_0 l1_1 = some (r1, r2)) :
  Calls Try.prog 50 #[.agg #[.int .i64 a0_0, .slice A0_1 l0_1.length c0_1], .agg #[.int .i64 a1_0, .slice A1_1 l1_1.length c1_1]] w fun e w' => ∃ v1_ : Value, e = .returned (.agg #[.int .i64 r1, v1_]) ∧ Kd.R (Kd.int .u64) 48 w' w.heap.size (fun _ => True) v1_ r2 ∧ Below w.heap.size w w' := by
 have hu40 := Try.underlying40
 have HR0_1 := Aside0.mk hr0_1
 have HC0_1 := Aside0.mk hc0_1
 clear hr0_1 hc0_1
 have HR1_1 := Aside0.mk hr1_1
 have HC1_1 := Aside0.mk hc1_1
 clear hr1_1 hc1_1
 have HB := am (Below.refl w.heap.size w)
 have H : (downpourref01_Xor.l0 k (([] : List Int)) 0 a0_0 l0_1 a1_0 l1_1) = some (r1, r2) := h
 clear h
 obtain ⟨y238, hy238⟩ : ∃ y_ : List Int, y_ = (([] : List Int)) := ⟨_, rfl⟩
 replace H : (downpourref01_Xor.l0 k y238 0 a0_0 l0_1 a1_0 l1_1) = some (r1, r2) := by first | (rw [hy238]; with_reducible exact H) | (have H2_ := (Option.bind_some _ _).symm.trans H; rw [hy238]; with_reducible exact H2_) | (have H2_ := (Option.bind_some _ _).symm.trans H; with_reducible exact H2_) | with_reducible exact H | (rw [hy238]; exact H) | exact H
 have Ny238 := Aside0.mk hy238
 clear hy238
 have H' := Aside0.mk H
 clear H
 go_enter Try.func50, Try.ntmps50
 go_wp2_with (first | ((with_reducible refine gate_dst (N := 2) rfl ?_); refine box_event ?hg (N := 2) ?hd (cs := #[.int .i64 a0_0, .slice A0_1 l0_1.length c0_1]) (t := 40) ?hr ?_; (case hd => rfl); (case hg => rfl); (case hr => first | (go_simp; done) | (go_simp; rfl)); intro gb235 hg w3 hbox hb; have n0_ := am (below_step (pb HB) hb); have n1_ := am (hbox); have n2_ := am ((by rw [hg]; exact (below_size (pb HB)) : w.heap.size ≤ gb235)); have n3_ := am ((by rw [hg]; exact (below_size (pb HB)) : w.heap.size ≤ gb235)); clear HB; have HB := n0_; have BK235 := n1_; have GW235 := n2_; have GE235 := n3_; clear n0_ n1_ n2_ n3_ hb hbox hg) | ((with_reducible refine gate_dst (N := 3) rfl ?_); refine box_event ?hg (N := 3) ?hd (cs := #[.int .i64 a1_0, .slice A1_1 l1_1.length c1_1]) (t := 40) ?hr ?_; (case hd => rfl); (case hg => rfl); (case hr => first | (go_simp; done) | (go_simp; rfl)); intro gb236 hg w4 hbox hb; have n0_ := bb BK235 hb; have n1_ := am (below_step (pb HB) hb); have n2_ := am (hbox); have n3_ := am ((by rw [hg]; exact (below_size (pb HB)) : w.heap.size ≤ gb236)); have n4_ := am ((by rw [hg]; exact (below_size (pb HB)) : w.heap.size ≤ gb236)); have n5_ := am ((by rw [hg]; exact Nat.ne_of_lt (bl BK235) : gb235 ≠ gb236)); have n6_ := am ((by rw [hg]; exact Nat.ne_of_gt (bl BK235) : gb236 ≠ gb235)); clear BK235 HB; have BK235 := n0_; have HB := n1_; have BK236 := n2_; have GW236 := n3_; have GE236 := n4_; have NB235_236 := n5_; have NB236_235 := n6_; clear n0_ n1_ n2_ n3_ n4_ n5_ n6_ hb hbox hg) | ((with_reducible refine gate_dst (N := 4) rfl ?_); refine box_event ?hg (N := 4) ?hd (cs := #[.int .i64 0, .slice none 0 0]) (t := 40) ?hr ?_; (case hd => rfl); (case hg => rfl); (case hr => first | (go_simp; done) | (go_simp; rfl)); intro gb237 hg w5 hbox hb; have n0_ := bb BK235 hb; have n1_ := bb BK236 hb; have n2_ := am (below_step (pb HB) hb); have n3_ := am (hbox); have n4_ := am ((by rw [hg]; exact (below_size (pb HB)) : w.heap.size ≤ gb237)); have n5_ := am ((by rw [hg]; exact (below_size (pb HB)) : w.heap.size ≤ gb237)); have n6_ := am ((by rw [hg]; exact Nat.ne_of_lt (bl BK235) : gb235 ≠ gb237)); have n7_ := am ((by rw [hg]; exact Nat.ne_of_gt (bl BK235) : gb237 ≠ gb235)); have n8_ := am ((by rw [hg]; exact Nat.ne_of_lt (bl BK236) : gb236 ≠ gb237)); have n9_ := am ((by rw [hg]; exact Nat.ne_of_gt (bl BK236) : gb237 ≠ gb236)); clear BK235 BK236 HB; have BK235 := n0_; have BK236 := n1_; have HB := n2_; have BK237 := n3_; have GW237 := n4_; have GE237 := n5_; have NB235_237 := n6_; have NB237_235 := n7_; have NB236_237 := n8_; have NB237_236 := n9_; clear n0_ n1_ n2_ n3_ n4_ n5_ n6_ n7_ n8_ n9_ hb hbox hg) | ((with_reducible refine gate_dst (N := 7) rfl ?_); refine Kd.R_lit (Kd.int .i64) _ 3 ?hg (N := 7) ?hd (xs := ([] : List Int)) (inner := []) (ok := fun _ => True) (okp := fun _ => True) ?hr ?hp (fun _ hk => hk) trivial (Below.refl _ _) (Nat.le_refl _) (by simp) ?_; (case hd => rfl); (case hg => rfl); (case hr => first | (go_simp; done) | (go_simp; rfl)); (case hp => exact (Reps.none _ _)); intro v239 w6 ho7 hb hg_ hnew_; clear hg_ hnew_; (first | rw [← Ny238.out] at ho7 | (simp only [Int.reduceToNat] at ho7; rw [← Ny238.out] at ho7)); have n0_ := am (Kd.R_lower ho7 (below_size (pb HB))); have n1_ := bb BK235 hb; have n2_ := bb BK236 hb; have n3_ := bb BK237 hb; have n4_ := am (below_step (pb HB) hb); clear BK235 BK236 BK237 HB; have HO240 := n0_; have BK235 := n1_; have BK236 := n2_; have BK237 := n3_; have HB := n4_; clear n0_ n1_ n2_ n3_ n4_ hb ho7))
 go_loopg [5, 6] k (fun kq v5 v6 w' => ∃ (x5_1 : List Int) (x6_1 : Int), v6 = .int .i64 x6_1 ∧ Aside0 (downpourref01_Xor.l0 kq x5_1 x6_1 a0_0 l0_1 a1_0 l1_1 = some (r1, r2)) ∧ Aside0 (kq ≤ k) ∧ Aside0 (Kd.R (Kd.int .i64) 3 w' w.heap.size (fun _ => True) v5 x5_1) ∧ Aside0 (w'.heap[gb235]? = some (.cells #[.int .i64 a0_0, (.slice A0_1 l0_1.length c0_1)] 40 (0, 0))) ∧ Aside0 (w'.heap[gb236]? = some (.cells #[.int .i64 a1_0, (.slice A1_1 l1_1.length c1_1)] 40 (0, 0))) ∧ Aside0 (w'.heap[gb237]? = some (.cells #[.int .i64 0, (.slice none 0 0)] 40 (0, 0))) ∧ Aside0 (Below w.heap.size w w'))
 case atStart => exact ⟨(y238), (0), (by first | rfl | (simp; done) | (simp [*]; done)), H', ⟨Nat.le_refl _⟩, ⟨by (with_reducible repeat (first | apply Kd.R_alloc | apply Kd.R_drewN | apply Kd.R_drew)); exact HO240.out⟩, ⟨by (with_reducible repeat (first | refine blk_drewN ?_ _ | refine blk_drew ?_ | refine blk_alloc ?_ _)); exact BK235.out⟩, ⟨by (with_reducible repeat (first | refine blk_drewN ?_ _ | refine blk_drew ?_ | refine blk_alloc ?_ _)); exact BK236.out⟩, ⟨by (with_reducible repeat (first | refine blk_drewN ?_ _ | refine blk_drew ?_ | refine blk_alloc ?_ _)); exact BK237.out⟩, ⟨pb HB⟩⟩
 case round =>
  clear H'
  try clear c1
  try clear p2
  try clear c5
  obtain ⟨x5_1, x6_1, rfl, HA, HK1, HO_5, BK235, BK236, BK237, HB⟩ := hrel
  cases gk with
  | zero => exact absurd HA.out (by simp [downpourref01_Xor.l0])
  | succ k1 =>
   have H := HA.out
   clear HA
   simp only [downpourref01_Xor.l0] at H
   by_cases c8 : x6_1 < a0_0
   ·
    rw [if_pos c8] at H
    have c8b0 : decide (x6_1 < a0_0) = true := decide_eq_true c8
    clear c8
    replace H := Option.bind_eq_some_iff.mp H
    obtain ⟨t241, A90, H⟩ := H
    replace H : ((downpourref01_Bit.f a1_0 l1_1 x6_1).bind fun t242 => (if x5_1.length < 17592186044416 then (downpourref01_Xor.l0 k1 (x5_1 ++ [Int.tmod (wrap64 (t241 + t242)) 2]) (wrap64 (x6_1 + 1)) a0_0 l0_1 a1_0 l1_1) else (none))) = some (r1, r2) := H
    have A9 := Aside0.mk A90
    clear A90
    replace H := Option.bind_eq_some_iff.mp H
    obtain ⟨t242, A100, H⟩ := H
    replace H : (if x5_1.length < 17592186044416 then (downpourref01_Xor.l0 k1 (x5_1 ++ [Int.tmod (wrap64 (t241 + t242)) 2]) (wrap64 (x6_1 + 1)) a0_0 l0_1 a1_0 l1_1) else (none)) = some (r1, r2) := H
    have A10 := Aside0.mk A100
    clear A100
    by_cases c11 : x5_1.length < 17592186044416
    ·
     rw [if_pos c11] at H
     have LMc11 := Aside0.mk c11
     clear c11
     obtain ⟨y243, hy243⟩ : ∃ y_ : List Int, y_ = (x5_1 ++ [Int.tmod (wrap64 (t241 + t242)) 2]) := ⟨_, rfl⟩
     replace H : (downpourref01_Xor.l0 k1 y243 (wrap64 (x6_1 + 1)) a0_0 l0_1 a1_0 l1_1) = some (r1, r2) := by first | (rw [hy243]; with_reducible exact H) | (have H2_ := (Option.bind_some _ _).symm.trans H; rw [hy243]; with_reducible exact H2_) | (have H2_ := (Option.bind_some _ _).symm.trans H; with_reducible exact H2_) | with_reducible exact H | (rw [hy243]; exact H) | exact H
     have Ny243 := Aside0.mk hy243
     clear hy243
     have H' := Aside0.mk H
     clear H
     have hnb12 := NB235_236.out
     have hnc12 := NB236_235.out
     have hnb13 := NB235_237.out
     have hnc13 := NB237_235.out
     have hcz14_0 : wr.cell? ⟨gb235, 0, none⟩ = some (.int .i64 a0_0) := (blk_cell BK235.out 0).trans rfl
     have hcz14_1 : wr.cell? ⟨gb235, 1, none⟩ = some (.slice A0_1 l0_1.length c0_1) := (blk_cell BK235.out 1).trans rfl
     have hfz14_0 := blk_frozen BK235.out 0
     have hfz14_1 := blk_frozen BK235.out 1
     try go_wp2
     have n0_ := am (Kd.R_drew HO_5.out)
     have n1_ := am (blk_drew BK235.out)
     have n2_ := am (blk_drew BK236.out)
     have n3_ := am (blk_drew BK237.out)
     have n4_ := am (below_drew1 HB.out)
     clear HO_5
     clear BK235
     clear BK236
     clear BK237
     clear HB
     have HO_5 := n0_
     have BK235 := n1_
     have BK236 := n2_
     have BK237 := n3_
     have HB := n4_
     clear n0_ n1_ n2_ n3_ n4_
     refine start_ (n := 12) (S := fun w' => w'.cell? ⟨gb235, 0, none⟩ = some (.int .i64 a0_0) ∧ w'.cell? ⟨gb235, 1, none⟩ = some (.slice A0_1 l0_1.length c0_1) ∧ w'.cell? ⟨gb236, 0, none⟩ = some (.int .i64 a1_0) ∧ w'.cell? ⟨gb236, 1, none⟩ = some (.slice A1_1 l1_1.length c1_1)) (ds := []) #[F, F, F, F, F, F, F, F, F, F, F, F] (by kernel_rfl) rfl rfl ⟨(blk_cell BK235.out 0).trans rfl, (blk_cell BK235.out 1).trans rfl, (blk_cell BK236.out 0).trans rfl, (blk_cell BK236.out 1).trans rfl⟩ (fun hHeld => ?_); refine with_tabW downpourref01_Xor.tab5 downpourref01_Xor.bits5 (fun HT_ HW_ => ?_)
     generalize wr.drew = w15 at HO_5 BK235 BK236 BK237 HB hHeld ⊢
     refine pure_ (i := 0) (N := some 14) (v := ?_) (a' := ?_) #[T, F, F, F, F, F, F, F, F, F, F, F] rfl rfl (any_of HT_.out (by kernel_rfl)) (fun _ _ _ h => h) (Or.inl ⟨by rfl, ?_⟩) ?_ ?_
     rotate_left
     ·
      intro w'
      go_simp
      with_reducible rfl
     rotate_left
     ·
      simp only [Act.put, q1, q2, q3, i64_w, i32_w]
      rfl
     refine pure_ (i := 2) (N := some 16) (v := ?_) (a' := ?_) #[T, F, T, F, F, F, F, F, F, F, F, F] rfl rfl (any_of HT_.out (by kernel_rfl)) (fun _ _ _ h => h) (Or.inl ⟨by rfl, ?_⟩) ?_ ?_
     rotate_left
     ·
      intro w'
      go_simp
      with_reducible rfl
     rotate_left
     ·
      simp only [Act.put, q1, q2, q3, i64_w, i32_w]
      rfl
     refine pure_ (i := 5) (N := some 19) (v := ?_) (a' := ?_) #[T, F, T, F, F, T, F, F, F, F, F, F] rfl rfl (any_of HT_.out (by kernel_rfl)) (fun _ _ _ h => h) (Or.inl ⟨by rfl, ?_⟩) ?_ ?_
     rotate_left
     ·
      intro w'
      go_simp
      with_reducible rfl
     rotate_left
     ·
      simp only [Act.put, q1, q2, q3, i64_w, i32_w]
      rfl
     refine take_ (i := 1) (N := some 15) (v := ?_) (a' := ?_) #[T, T, T, F, F, T, F, F, F, F, F, F] rfl rfl (take_ofW HT_.out HW_.out (by kernel_rfl)) (fun _ _ _ h => h) (Or.inl ⟨by rfl, ?_⟩) hHeld ?_ ?_
     rotate_left
     ·
      rintro w' ⟨s0, s1, s2, s3⟩
      go_simp
      with_reducible rfl
     rotate_left
     ·
      simp only [Act.put, q1, q2, q3, i64_w, i32_w]
      rfl
     refine take_ (i := 4) (N := some 18) (v := ?_) (a' := ?_) #[T, T, T, F, T, T, F, F, F, F, F, F] rfl rfl (take_ofW HT_.out HW_.out (by kernel_rfl)) (fun _ _ _ h => h) (Or.inl ⟨by rfl, ?_⟩) hHeld ?_ ?_
     rotate_left
     ·
      rintro w' ⟨s0, s1, s2, s3⟩
      go_simp
      with_reducible rfl
     rotate_left
     ·
      simp only [Act.put, q1, q2, q3, i64_w, i32_w]
      rfl
     refine one_ (i := 3) (N := some 17) #[T, T, T, T, T, T, F, F, F, F, F, F] rfl rfl (one_of HT_.out (by kernel_rfl)) (by decide) (fun K hK => ?_)
     refine goes_ Try.func39 (by kernel_rfl) rfl #[.agg #[.int .i64 a0_0, .slice A0_1 l0_1.length c0_1], .int .i64 x6_1] (by rfl) rfl rfl (by (try simp only [List.map_toArray, List.map_cons, List.map_nil]); first | done | rfl | (simp only [List.length_drop, List.length_take]; rfl)) ?_
     with_reducible refine (downpourref01_Bit.calls a0_0 _ _ l0_1 x6_1 t241 _ ?side1 ?side2 A9.out).mono ?_
     (case side1 => repeat (first | exact (Kd.C_below HR0_1.out HB.out) | (with_reducible refine Kd.C_alloc ?_ _) | (with_reducible refine Kd.C_drewN ?_ _) | (with_reducible refine Kd.C_drew ?_)))
     (case side2 => exact HC0_1.out)
     rintro e w16 ⟨rfl, hb⟩
     refine ⟨_, rfl, ?_⟩
     have n0_ := am (Kd.R_below (pr HO_5) hb)
     have n1_ := bb BK235 hb
     have n2_ := bb BK236 hb
     have n3_ := bb BK237 hb
     have n4_ := am (below_step (pb HB) hb)
     clear HO_5
     clear BK235
     clear BK236
     clear BK237
     clear HB
     have HO_5 := n0_
     have BK235 := n1_
     have BK236 := n2_
     have BK237 := n3_
     have HB := n4_
     clear n0_ n1_ n2_ n3_ n4_
     (try clear hb)
     (try clear hb2)
     (try clear hk)
     (try clear hi)
     refine hK.out _ _ ⟨(blk_cell BK235.out 0).trans rfl, (blk_cell BK235.out 1).trans rfl, (blk_cell BK236.out 0).trans rfl, (blk_cell BK236.out 1).trans rfl⟩ (fun hHeld => ?_)
     clear hK K
     refine norm_ (a' := ?_) ?_ ?_
     rotate_left
     ·
      show Act.put _ (some 17) _ = _
      simp only [Act.put, q1, q2, q3, i64_w, i32_w]
      rfl
     refine one_ (i := 6) (N := some 20) #[T, T, T, T, T, T, T, F, F, F, F, F] rfl rfl (one_of HT_.out (by kernel_rfl)) (by decide) (fun K hK => ?_)
     refine goes_ Try.func39 (by kernel_rfl) rfl #[.agg #[.int .i64 a1_0, .slice A1_1 l1_1.length c1_1], .int .i64 x6_1] (by rfl) rfl rfl (by (try simp only [List.map_toArray, List.map_cons, List.map_nil]); first | done | rfl | (simp only [List.length_drop, List.length_take]; rfl)) ?_
     with_reducible refine (downpourref01_Bit.calls a1_0 _ _ l1_1 x6_1 t242 _ ?side1 ?side2 A10.out).mono ?_
     (case side1 => repeat (first | exact (Kd.C_below HR1_1.out HB.out) | (with_reducible refine Kd.C_alloc ?_ _) | (with_reducible refine Kd.C_drewN ?_ _) | (with_reducible refine Kd.C_drew ?_)))
     (case side2 => exact HC1_1.out)
     rintro e w17 ⟨rfl, hb⟩
     refine ⟨_, rfl, ?_⟩
     have n0_ := am (Kd.R_below (pr HO_5) hb)
     have n1_ := bb BK235 hb
     have n2_ := bb BK236 hb
     have n3_ := bb BK237 hb
     have n4_ := am (below_step (pb HB) hb)
     clear HO_5
     clear BK235
     clear BK236
     clear BK237
     clear HB
     have HO_5 := n0_
     have BK235 := n1_
     have BK236 := n2_
     have BK237 := n3_
     have HB := n4_
     clear n0_ n1_ n2_ n3_ n4_
     (try clear hb)
     (try clear hb2)
     (try clear hk)
     (try clear hi)
     refine hK.out _ _ ⟨(blk_cell BK235.out 0).trans rfl, (blk_cell BK235.out 1).trans rfl, (blk_cell BK236.out 0).trans rfl, (blk_cell BK236.out 1).trans rfl⟩ (fun hHeld => ?_)
     clear hK K
     refine norm_ (a' := ?_) ?_ ?_
     rotate_left
     ·
      show Act.put _ (some 20) _ = _
      simp only [Act.put, q1, q2, q3, i64_w, i32_w]
      rfl
     refine pure_ (i := 7) (N := some 21) (v := ?_) (a' := ?_) #[T, T, T, T, T, T, T, T, F, F, F, F] rfl rfl (any_of HT_.out (by kernel_rfl)) (fun _ _ _ h => h) (Or.inl ⟨by rfl, ?_⟩) ?_ ?_
     rotate_left
     ·
      intro w'
      go_simp
      with_reducible rfl
     rotate_left
     ·
      simp only [Act.put, q1, q2, q3, i64_w, i32_w]
      rfl
     refine pure_ (i := 8) (N := some 22) (v := ?_) (a' := ?_) #[T, T, T, T, T, T, T, T, T, F, F, F] rfl rfl (any_of HT_.out (by kernel_rfl)) (fun _ _ _ h => h) (Or.inl ⟨by rfl, ?_⟩) ?_ ?_
     rotate_left
     ·
      intro w'
      go_simp
      with_reducible rfl
     rotate_left
     ·
      simp only [Act.put, q1, q2, q3, i64_w, i32_w]
      rfl
     refine one_ (i := 9) (N := some 23) #[T, T, T, T, T, T, T, T, T, T, F, F] rfl rfl (one_of HT_.out (by kernel_rfl)) (by decide) (fun K hK => ?_)
     refine value_ (w1 := ?_) (v := ?_) (by rfl) rfl ?_ ?_
     rotate_left 2
     ·
      go_simp
      constructor
      ·
       rfl
      ·
       rfl
     refine hK.out _ _ ⟨(blk_cell (blk_alloc BK235.out _) 0).trans rfl, (blk_cell (blk_alloc BK235.out _) 1).trans rfl, (blk_cell (blk_alloc BK236.out _) 0).trans rfl, (blk_cell (blk_alloc BK236.out _) 1).trans rfl⟩ (fun hHeld => ?_)
     clear hK K
     refine norm_ (a' := ?_) ?_ ?_
     rotate_left
     ·
      show Act.put _ (some 23) _ = _
      simp only [Act.put, q1, q2, q3, i64_w, i32_w]
      rfl
     refine one_ (i := 10) (N := some 24) #[T, T, T, T, T, T, T, T, T, T, T, F] rfl rfl (one_of HT_.out (by kernel_rfl)) (by decide) (fun K hK => ?_)
     refine Kd.R_append_step (Kd.int .i64) (w0 := w) w.heap.size (by rfl) (.tmp 14) (.tmp 23) 26 3 (.int .i64 0) 8 rfl Try.underlying26 info3 rfl (by decide) (by omega) u5 x5_1 (Int.tmod (wrap64 (t241 + t242)) 2) [.int .i64 (Int.tmod (wrap64 (t241 + t242)) 2)] (fun _ => True) (fun _ => False) rfl rfl ?aP (fun _ hk => hk.elim) ?aF ?aO ?aB ?aS ?aL ?_
     (case aP => exact rfl)
     (case aB => exact (pb HB))
     (case aF => exact (fun _ _ => trivial))
     (case aO => exact (pr HO_5))
     (case aS => exact (below_size (pb HB)))
     (case aL => have := LMc11.out; omega)
     intro v244 w18 ho hb hg hat
     rw [← Ny243.out] at ho
     have n0_ := am (blk_grown (g := gb235) (o := .cells #[.int .i64 a0_0, .slice A0_1 l0_1.length c0_1] 40 (0, 0)) (pk BK235) hg (Kd.R_ne HO_5.out BK235.out (by decide)))
     have n1_ := am (blk_grown (g := gb236) (o := .cells #[.int .i64 a1_0, .slice A1_1 l1_1.length c1_1] 40 (0, 0)) (pk BK236) hg (Kd.R_ne HO_5.out BK236.out (by decide)))
     have n2_ := am (blk_grown (g := gb237) (o := .cells #[.int .i64 0, .slice none 0 0] 40 (0, 0)) (pk BK237) hg (Kd.R_ne HO_5.out BK237.out (by decide)))
     have n3_ := am (hb)
     have n4_ := am (ho)
     clear BK235
     clear BK236
     clear BK237
     clear HB
     clear HO_5
     have BK235 := n0_
     have BK236 := n1_
     have BK237 := n2_
     have HB := n3_
     have HO245 := n4_
     clear n0_ n1_ n2_ n3_ n4_
     clear ho hb hg hat
     refine hK.out _ _ ⟨(blk_cell BK235.out 0).trans rfl, (blk_cell BK235.out 1).trans rfl, (blk_cell BK236.out 0).trans rfl, (blk_cell BK236.out 1).trans rfl⟩ (fun hHeld => ?_)
     clear hK K
     refine norm_ (a' := ?_) ?_ ?_
     rotate_left
     ·
      show Act.put _ (some 24) _ = _
      simp only [Act.put, q1, q2, q3, i64_w, i32_w]
      rfl
     refine pure_ (i := 11) (N := some 5) (v := ?_) (a' := ?_) #[T, T, T, T, T, T, T, T, T, T, T, T] rfl rfl (any_of HT_.out (by kernel_rfl)) (fun _ _ _ h => h) (Or.inl ⟨by rfl, ?_⟩) ?_ ?_
     rotate_left
     ·
      intro w'
      go_simp
      with_reducible rfl
     rotate_left
     ·
      simp only [Act.put, q1, q2, q3, i64_w, i32_w]
      rfl
     refine done_ (done_of HT_.out (by kernel_rfl)) ?_
     try go_wp2
     go_roundg k1
     case measure => have := HK1.out; omega
     case rel => exact ⟨(y243), (wrap64 (x6_1 + 1)), (by first | rfl | (simp; done) | (simp [*]; done)), H', ⟨by have := HK1.out; omega⟩, ⟨by (with_reducible repeat (first | apply Kd.R_alloc | apply Kd.R_drewN | apply Kd.R_drew)); exact HO245.out⟩, ⟨by (with_reducible repeat (first | refine blk_drewN ?_ _ | refine blk_drew ?_ | refine blk_alloc ?_ _)); exact BK235.out⟩, ⟨by (with_reducible repeat (first | refine blk_drewN ?_ _ | refine blk_drew ?_ | refine blk_alloc ?_ _)); exact BK236.out⟩, ⟨by (with_reducible repeat (first | refine blk_drewN ?_ _ | refine blk_drew ?_ | refine blk_alloc ?_ _)); exact BK237.out⟩, ⟨pb HB⟩⟩
    ·
     rw [if_neg c11] at H
     exact absurd H (by simp)
   ·
    rw [if_neg c8] at H
    have c8b0 : decide (x6_1 < a0_0) = false := decide_eq_false c8
    clear c8
    replace H := Option.bind_eq_some_iff.mp H
    obtain ⟨⟨t246, t247⟩, A190, H⟩ := H
    replace H : (some (t246, t247)) = some (r1, r2) := H
    have A19 := Aside0.mk A190
    clear A190
    simp only [Option.some.injEq, Prod.mk.injEq] at H
    obtain ⟨rfl, rfl⟩ := H
    have hnb20 := NB235_236.out
    have hnc20 := NB236_235.out
    have hnb21 := NB235_237.out
    have hnc21 := NB237_235.out
    have hcz22_0 : wr.cell? ⟨gb235, 0, none⟩ = some (.int .i64 a0_0) := (blk_cell BK235.out 0).trans rfl
    have hcz22_1 : wr.cell? ⟨gb235, 1, none⟩ = some (.slice A0_1 l0_1.length c0_1) := (blk_cell BK235.out 1).trans rfl
    have hfz22_0 := blk_frozen BK235.out 0
    have hfz22_1 := blk_frozen BK235.out 1
    obtain ⟨Ao23, co23, eo23⟩ := Kd.R_slice HO_5.out
    subst eo23
    go_wp2_with (first | ((with_reducible refine gate_callee (f := 57) rfl ?_); refine goesL_ (some 26) rfl rfl Try.func57 (by kernel_rfl) rfl #[.slice Ao23 x5_1.length co23] rfl (by (try simp only [List.map_toArray, List.map_cons, List.map_nil]); first | done | rfl | (simp only [List.length_drop, List.length_take]; rfl)) ?_; (with_reducible refine (downpourref01_From.calls k1 _ _ x5_1 t246 t247 _ ?side1 ?side2 A19.out).mono ?_); (case side1 => repeat (first | exact (Kd.R_reads' HO_5.out).2.2 | (with_reducible refine Kd.C_alloc ?_ _) | (with_reducible refine Kd.C_drewN ?_ _) | (with_reducible refine Kd.C_drew ?_))); (case side2 => exact (Kd.R_reads' HO_5.out).2.1); rintro e w24 ⟨v248, rfl, ho0, hb⟩; refine ⟨_, rfl, ?_⟩; have n0_ := am (Kd.R_below (pr HO_5) hb); have n1_ := am (Kd.R_lower ho0 (below_size (pb HB))); have n2_ := bb BK235 hb; have n3_ := bb BK236 hb; have n4_ := bb BK237 hb; have n5_ := am (below_step (pb HB) hb); clear HO_5 BK235 BK236 BK237 HB; have HO_5 := n0_; have HO249 := n1_; have BK235 := n2_; have BK236 := n3_; have BK237 := n4_; have HB := n5_; clear n0_ n1_ n2_ n3_ n4_ n5_; (try clear hb); (try clear hb2); (try clear hk); (try clear hi); (try clear ho0); have hnb25 := NB237_236.out; have hnc25 := NB236_237.out; have hcz26_0 : w24.cell? ⟨gb237, 0, none⟩ = some (.int .i64 0) := (blk_cell BK237.out 0).trans rfl; have hcz26_1 : w24.cell? ⟨gb237, 1, none⟩ = some (.slice none 0 0) := (blk_cell BK237.out 1).trans rfl; have hfz26_0 := blk_frozen BK237.out 0; have hfz26_1 := blk_frozen BK237.out 1; obtain ⟨Ao27, co27, eo27⟩ := Kd.R_slice HO249.out; subst eo27))
    refine bodyPost_ret (results_cell_row rfl _ _ gb237 40 #[.int .i64 t246, .slice Ao27 t247.length co27] (0, 0) _ rfl (by (with_reducible repeat (first | refine blk_drewN ?_ _ | refine blk_drew ?_ | refine blk_alloc ?_ _)); refine blk_put (cs := #[.int .i64 t246, .slice none 0 0]) ?_ 1 _ rfl; (with_reducible repeat (first | refine blk_drewN ?_ _ | refine blk_drew ?_ | refine blk_alloc ?_ _)); refine blk_put (cs := #[.int .i64 0, .slice none 0 0]) ?_ 0 _ rfl; (with_reducible repeat (first | refine blk_drewN ?_ _ | refine blk_drew ?_ | refine blk_alloc ?_ _)); exact BK237.out) Try.underlying40 rfl (by kernel_rfl)) rfl ?_
    exact ⟨_, by first | rfl | (simp [errW_none, errW_some] <;> rfl) | (simp [*, errW_none, errW_some] <;> rfl), by (with_reducible repeat (first | apply Kd.R_alloc | apply Kd.R_drewN | apply Kd.R_drew)); exact Kd.R_mono (Kd.R_far (p := ⟨gb237, 1, none⟩) (Kd.R_far (p := ⟨gb237, 0, none⟩) (Kd.R_types HO249.out BK237.out (by decide)) (fun _ hk => hk.2) (.int .i64 t246)) (fun _ hk => hk.2) (.slice Ao27 t247.length co27)) (fun _ hk => trivial), pb HB⟩

end Go.Proofs.Ytfcedhejbnoinaa.PC
