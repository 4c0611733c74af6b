-- PRINTED by print.py (a twelfth state) out of the translation. Not trusted: Lean checks it.
import Derived.Test.YtfdcjkhckjnaeaaPDx0
import Derived.Test.YtfdcjkhckjnaeaaPDx1
import Derived.Test.YtfdcjkhckjnaeaaPDx6
namespace Go.Proofs.Ytfdcjkhckjnaeaa.PD
open Go.RowKit Go.Proofs.YtfdcjkhckjnaeaaW.PrintWords Go.Proofs.YtfdcjkhckjnaeaaW.PrintLast Go.Proofs.YtfdcjkhckjnaeaaW.PrintMore
open Bool renaming true → T, false → F
open List renaming setIfInBounds_toArray → q1, set_cons_zero → q2, set_cons_succ → q3
attribute [local go_sem] run_store_func max2_int min2_int max_two min_two max_three min_three max_four min_four   -- for this text's walks alone
set_option linter.unusedVariables false
set_option linter.unusedSimpArgs false

/-! ### downpourref03_One: function 48 -/
def downpourref03_One.l0 : Nat → Int → Int → Int → List (S25) → Option (Int × (List (S25)))
 | 0, _, _, _, _ => none
 | k + 1, x0, x4, x291000, x291001 => if x4 < x0 then ((downpourref01_Of.f k x0 (([x4] : List Int))).bind fun bt294 => (if x291001.length < 4398046511104 then (downpourref03_One.l0 k x0 (wrap64 (x4 + 1)) x291000 (x291001 ++ [(⟨bt294.1, bt294.2⟩ : S25)])) else (none))) else (some (x291000, x291001))
def downpourref03_One.f (k : Nat) (a0 : Int) : Option (Int × (List (S25))) := downpourref03_One.l0 k a0 0 a0 ([] : List (S25))
theorem downpourref03_One.mono_l : ∀ k, (∀ y0 y1 y2 y3, LeO (downpourref03_One.l0 k y0 y1 y2 y3) (downpourref03_One.l0 (k + 1) y0 y1 y2 y3))
 | 0 => fun _ _ _ _ r h => by simp [downpourref03_One.l0] at h
 | k + 1 => by
  have ih0 := downpourref03_One.mono_l k
  ·
   intro y0 y1 y2 y3
   unfold downpourref03_One.l0
   repeat' first
   | (with_reducible exact ih0 _ _ _ _)
   | (with_reducible exact downpourref01_Of.mono _ _ _)
   | (with_reducible exact LeO.refl _)
   | (with_reducible exact LeO.none _)
   | (with_reducible refine LeO.ite ?_ ?_)
   | (with_reducible refine LeO.bind ?_ (fun _ => ?_))
   | exact ih0 _ _ _ _
   | exact downpourref01_Of.mono _ _ _
   | exact LeO.none _
   | refine LeO.ite ?_ ?_
   | refine LeO.bind ?_ (fun _ => ?_)
theorem downpourref03_One.mono : ∀ a0 k, LeO (downpourref03_One.f k a0) (downpourref03_One.f (k + 1) a0) := by
 intro a0 k
 have ih0 := downpourref03_One.mono_l k
 unfold downpourref03_One.f
 repeat' first
   | (with_reducible exact ih0 _ _ _ _)
   | (with_reducible exact downpourref01_Of.mono _ _ _)
   | (with_reducible exact LeO.refl _)
   | (with_reducible exact LeO.none _)
   | (with_reducible refine LeO.ite ?_ ?_)
   | (with_reducible refine LeO.bind ?_ (fun _ => ?_))
   | exact ih0 _ _ _ _
   | exact downpourref01_Of.mono _ _ _
   | exact LeO.none _
   | refine LeO.ite ?_ ?_
   | refine LeO.bind ?_ (fun _ => ?_)
def downpourref03_One.T5 : Bool × List (List Nat × List Nat) := (true, [([], []), ([0], [0]), ([], []), ([], []), ([3], [3]), ([2, 4], [2, 4]), ([5], [5]), ([1, 6, 5], [1, 6]), ([0, 1, 2, 3, 4, 5, 6, 7], []), ([8, 7, 7, 0, 1, 2, 3, 4, 5, 6, 7], [7, 8])])
def downpourref03_One.B5 : List Nat := [0, 1, 0, 0, 8, 28, 60, 127, 255, 511]
theorem downpourref03_One.tab5 : rtab .any (opsOf Try.f48 5) = downpourref03_One.T5 := by kernel_rfl
theorem downpourref03_One.bits5 : waitsOk downpourref03_One.T5.2 downpourref03_One.B5 = true := by kernel_rfl
set_option maxHeartbeats 8000000 in
set_option maxRecDepth 100000 in
theorem downpourref03_One.calls (k : Nat) (a0 : Int) (r1 : Int) (r2 : List (S25)) (w : World) (h : downpourref03_One.f k a0 = some (r1, r2)) :
  Calls Try.prog 48 #[.int .i64 a0] w fun e w' => ∃ v1_ : Value, e = .returned (.agg #[.int .i64 r1, v1_]) ∧ Kd.S k25 25 w' w.heap.size (fun _ => True) v1_ r2 ∧ Below w.heap.size w w' := by
 have hu42 := Try.underlying42
 have HB := am (Below.refl w.heap.size w)
 have H : (downpourref03_One.l0 k a0 0 a0 ([] : List (S25))) = some (r1, r2) := h
 clear h
 have H' := Aside0.mk H
 clear H
 go_enter Try.func48, Try.ntmps48
 go_wp2_with (first | ((with_reducible refine gate_dst (N := 2) rfl ?_); refine box_event ?hg (N := 2) ?hd (cs := #[.int .i64 0, .slice none 0 0]) (t := 42) ?hr ?_; (case hd => rfl); (case hg => rfl); (case hr => first | (go_simp; done) | (go_simp; rfl)); intro gb289 hg w2 hbox hb; have n0_ := am (below_step (pb HB) hb); have n1_ := am (hbox); have n2_ := am ((by rw [hg]; exact (below_size (pb HB)) : w.heap.size ≤ gb289)); have n3_ := am ((by rw [hg]; exact (below_size (pb HB)) : w.heap.size ≤ gb289)); clear HB; have HB := n0_; have BK289 := n1_; have GW289 := n2_; have GE289 := n3_; clear n0_ n1_ n2_ n3_ hb hbox hg) | ((with_reducible refine gate_dst (N := 3) rfl ?_); refine box_event ?hg (N := 3) ?hd (cs := #[.int .i64 0, .slice none 0 0]) (t := 42) ?hr ?_; (case hd => rfl); (case hg => rfl); (case hr => first | (go_simp; done) | (go_simp; rfl)); intro gb290 hg w3 hbox hb; have n0_ := bb BK289 hb; have n1_ := am (below_step (pb HB) hb); have n2_ := am (hbox); have n3_ := am ((by rw [hg]; exact (below_size (pb HB)) : w.heap.size ≤ gb290)); have n4_ := am ((by rw [hg]; exact (below_size (pb HB)) : w.heap.size ≤ gb290)); have n5_ := am ((by rw [hg]; exact Nat.ne_of_lt (bl BK289) : gb289 ≠ gb290)); have n6_ := am ((by rw [hg]; exact Nat.ne_of_gt (bl BK289) : gb290 ≠ gb289)); clear BK289 HB; have BK289 := n0_; have HB := n1_; have BK290 := n2_; have GW290 := n3_; have GE290 := n4_; have NB289_290 := n5_; have NB290_289 := n6_; clear n0_ n1_ n2_ n3_ n4_ n5_ n6_ hb hbox hg; have hnb4 := NB290_289.out; have hnc4 := NB289_290.out; have hcz5_0 : w3.cell? ⟨gb290, 0, none⟩ = some (.int .i64 0) := (blk_cell BK290.out 0).trans rfl; have hcz5_1 : w3.cell? ⟨gb290, 1, none⟩ = some (.slice none 0 0) := (blk_cell BK290.out 1).trans rfl; have hfz5_0 := blk_frozen BK290.out 0; have hfz5_1 := blk_frozen BK290.out 1))
 go_loopg [4] k (fun kq v4 w' => ∃ (x4_1 : Int) (x291001_1 : List (S25)) (u291001 : Value), v4 = .int .i64 x4_1 ∧ Aside0 (downpourref03_One.l0 kq a0 x4_1 a0 x291001_1 = some (r1, r2)) ∧ Aside0 (kq ≤ k) ∧ Aside0 (Kd.S k25 25 w' w.heap.size (fun _ => True) u291001 x291001_1) ∧ Aside0 (w'.heap[gb289]? = some (.cells #[.int .i64 0, (.slice none 0 0)] 42 (0, 0))) ∧ Aside0 (w'.heap[gb290]? = some (.cells #[.int .i64 a0, u291001] 42 (0, 0))) ∧ Aside0 (Below w.heap.size w w'))
 case atStart => exact ⟨(0), (([] : List (S25))), (.slice none 0 0), (by first | rfl | (simp; done) | (simp [*]; done)), H', ⟨Nat.le_refl _⟩, ⟨by first | exact Kd.S_nil _ _ _ _ _ | exact Kd.N_nil _ _ _ _ _ | exact Kd.V_nil _ _ _ _ _ | exact Kd.Q_nil _ _ _ _ _ | exact Kd.R_nil _ _ _ _ _⟩, ⟨by (with_reducible repeat (first | refine blk_drewN ?_ _ | refine blk_drew ?_ | refine blk_alloc ?_ _)); refine blk_far ?_ NB289_290.out _; (with_reducible repeat (first | refine blk_drewN ?_ _ | refine blk_drew ?_ | refine blk_alloc ?_ _)); refine blk_far ?_ NB289_290.out _; (with_reducible repeat (first | refine blk_drewN ?_ _ | refine blk_drew ?_ | refine blk_alloc ?_ _)); exact BK289.out⟩, ⟨by (with_reducible repeat (first | refine blk_drewN ?_ _ | refine blk_drew ?_ | refine blk_alloc ?_ _)); refine blk_put (cs := #[.int .i64 a0, .slice none 0 0]) ?_ 1 _ rfl; (with_reducible repeat (first | refine blk_drewN ?_ _ | refine blk_drew ?_ | refine blk_alloc ?_ _)); refine blk_put (cs := #[.int .i64 0, .slice none 0 0]) ?_ 0 _ rfl; (with_reducible repeat (first | refine blk_drewN ?_ _ | refine blk_drew ?_ | refine blk_alloc ?_ _)); exact BK290.out⟩, ⟨pb HB⟩⟩
 case round =>
  clear H'
  try clear p2
  try clear c4
  try clear hcz5_0
  try clear hcz5_1
  try clear hfz5_0
  try clear hfz5_1
  obtain ⟨x4_1, x291001_1, u291001, rfl, HA, HK1, HO_291001, BK289, BK290, HB⟩ := hrel
  cases gk with
  | zero => exact absurd HA.out (by simp [downpourref03_One.l0])
  | succ k1 =>
   have H := HA.out
   clear HA
   simp only [downpourref03_One.l0] at H
   by_cases c6 : x4_1 < a0
   ·
    rw [if_pos c6] at H
    have c6b0 : decide (x4_1 < a0) = true := decide_eq_true c6
    clear c6
    obtain ⟨y291, hy291⟩ : ∃ y_ : List Int, y_ = (([x4_1] : List Int)) := ⟨_, rfl⟩
    replace H : ((downpourref01_Of.f k1 a0 y291).bind fun bt294 => (if x291001_1.length < 4398046511104 then (downpourref03_One.l0 k1 a0 (wrap64 (x4_1 + 1)) a0 (x291001_1 ++ [(⟨bt294.1, bt294.2⟩ : S25)])) else (none))) = some (r1, r2) := by first | (rw [hy291]; with_reducible exact H) | (have H2_ := (Option.bind_some _ _).symm.trans H; rw [hy291]; with_reducible exact H2_) | (have H2_ := (Option.bind_some _ _).symm.trans H; with_reducible exact H2_) | with_reducible exact H | (rw [hy291]; exact H) | exact H
    have Ny291 := Aside0.mk hy291
    clear hy291
    replace H := Option.bind_eq_some_iff.mp H
    obtain ⟨⟨t294, t295⟩, A70, H⟩ := H
    replace H : (if x291001_1.length < 4398046511104 then (downpourref03_One.l0 k1 a0 (wrap64 (x4_1 + 1)) a0 (x291001_1 ++ [(⟨t294, t295⟩ : S25)])) else (none)) = some (r1, r2) := H
    have A7 := Aside0.mk A70
    clear A70
    by_cases c8 : x291001_1.length < 4398046511104
    ·
     rw [if_pos c8] at H
     have LMc8 := Aside0.mk c8
     clear c8
     obtain ⟨y298, hy298⟩ : ∃ y_ : List (S25), y_ = (x291001_1 ++ [(⟨t294, t295⟩ : S25)]) := ⟨_, rfl⟩
     replace H : (downpourref03_One.l0 k1 a0 (wrap64 (x4_1 + 1)) a0 y298) = some (r1, r2) := by first | (rw [hy298]; with_reducible exact H) | (have H2_ := (Option.bind_some _ _).symm.trans H; rw [hy298]; with_reducible exact H2_) | (have H2_ := (Option.bind_some _ _).symm.trans H; with_reducible exact H2_) | with_reducible exact H | (rw [hy298]; exact H) | exact H
     have Ny298 := Aside0.mk hy298
     clear hy298
     have H' := Aside0.mk H
     clear H
     try go_wp2
     have n0_ := am (Kd.S_drew HO_291001.out)
     have n1_ := am (blk_drew BK289.out)
     have n2_ := am (blk_drew BK290.out)
     have n3_ := am (below_drew1 HB.out)
     clear HO_291001
     clear BK289
     clear BK290
     clear HB
     have HO_291001 := n0_
     have BK289 := n1_
     have BK290 := n2_
     have HB := n3_
     clear n0_ n1_ n2_ n3_
     refine start_ (n := 10) (S := fun w' => w'.cell? ⟨gb290, 0, none⟩ = some (.int .i64 a0) ∧ w'.cell? ⟨gb290, 1, none⟩ = some (u291001)) (ds := [9]) #[F, F, F, F, F, F, F, F, F, F] (by kernel_rfl) rfl rfl ⟨(blk_cell BK290.out 0).trans rfl, (blk_cell BK290.out 1).trans rfl⟩ (fun hHeld => ?_); refine with_tabW downpourref03_One.tab5 downpourref03_One.bits5 (fun HT_ HW_ => ?_)
     generalize wr.drew = w9 at HO_291001 BK289 BK290 HB hHeld ⊢
     refine pure_ (i := 0) (N := some 12) (v := ?_) (a' := ?_) #[T, F, F, F, F, F, F, F, F, F] rfl rfl (any_of HT_.out (by kernel_rfl)) (fun _ _ _ h => h) (Or.inl ⟨by rfl, ?_⟩) ?_ ?_
     rotate_left
     ·
      intro w'
      go_simp
      with_reducible rfl
     rotate_left
     ·
      simp only [Act.put, q1, q2, q3, i64_w, i32_w]
      rfl
     refine pure_ (i := 2) (N := some 14) (v := ?_) (a' := ?_) #[T, F, T, F, F, F, F, F, F, F] rfl rfl (any_of HT_.out (by kernel_rfl)) (fun _ _ _ h => h) (Or.inl ⟨by rfl, ?_⟩) ?_ ?_
     rotate_left
     ·
      intro w'
      go_simp
      with_reducible rfl
     rotate_left
     ·
      simp only [Act.put, q1, q2, q3, i64_w, i32_w]
      rfl
     refine pure_ (i := 3) (N := some 15) (v := ?_) (a' := ?_) #[T, F, T, T, F, F, F, F, F, F] rfl rfl (any_of HT_.out (by kernel_rfl)) (fun _ _ _ h => h) (Or.inl ⟨by rfl, ?_⟩) ?_ ?_
     rotate_left
     ·
      intro w'
      go_simp
      with_reducible rfl
     rotate_left
     ·
      simp only [Act.put, q1, q2, q3, i64_w, i32_w]
      rfl
     refine take_ (i := 1) (N := some 13) (v := ?_) (a' := ?_) #[T, T, T, T, F, F, F, F, F, F] rfl rfl (take_ofW HT_.out HW_.out (by kernel_rfl)) (fun _ _ _ h => h) (Or.inl ⟨by rfl, ?_⟩) hHeld ?_ ?_
     rotate_left
     ·
      rintro w' ⟨s0, s1⟩
      go_simp
      with_reducible rfl
     rotate_left
     ·
      simp only [Act.put, q1, q2, q3, i64_w, i32_w]
      rfl
     refine one_ (i := 4) (N := some 16) #[T, T, T, T, T, F, F, F, F, F] rfl rfl (one_of HT_.out (by kernel_rfl)) (by decide) (fun K hK => ?_)
     refine Kd.R_lit_step (Kd.int .i64) _ 3 ?hg (N := 16) ?hd (xs := ([x4_1] : List Int)) (inner := [.int .i64 x4_1]) (ok := fun _ => True) (okp := fun _ => True) ?hr ?hp (fun _ hk => hk) trivial (Below.refl _ _) (Nat.le_refl _) (by simp) ?_; (case hd => rfl); (case hg => rfl); (case hr => first | (go_simp; done) | (go_simp; rfl)); (case hp => exact (Reps.one (show Kd.M (Kd.int .i64) _ _ _ x4_1 [.int .i64 x4_1] from rfl) (Reps.none _ _)))
     intro v292 w10 ho11 hb hg_ hnew_
     clear hg_ hnew_
     (first | rw [← Ny291.out] at ho11 | (simp only [Int.reduceToNat] at ho11; rw [← Ny291.out] at ho11))
     have n0_ := am (Kd.S_below (by (with_reducible repeat (first | apply Kd.S_alloc | apply Kd.S_drewN | apply Kd.S_drew)); exact HO_291001.out) hb)
     have n1_ := am (Kd.R_lower ho11 (below_size (pb HB)))
     have n2_ := bb BK289 hb
     have n3_ := bb BK290 hb
     have n4_ := am (below_step (pb HB) hb)
     clear HO_291001
     clear BK289
     clear BK290
     clear HB
     have HO_291001 := n0_
     have HO293 := n1_
     have BK289 := n2_
     have BK290 := n3_
     have HB := n4_
     clear n0_ n1_ n2_ n3_ n4_
     clear hb ho11
     obtain ⟨Ao12, co12, eo12⟩ := Kd.R_slice HO293.out
     (first | subst eo12 | (injection eo12 with f1_ f2_ f3_; have f4_ := f1_.symm; have f5_ := f3_.symm; clear f1_ f2_ f3_; subst f4_; subst f5_))
     refine hK.out _ _ ⟨(blk_cell BK290.out 0).trans rfl, (blk_cell BK290.out 1).trans rfl⟩ (fun hHeld => ?_)
     clear hK K
     refine norm_ (a' := ?_) ?_ ?_
     rotate_left
     ·
      show Act.put _ (some 16) _ = _
      simp only [Act.put, q1, q2, q3, i64_w, i32_w]
      rfl
     refine one_ (i := 5) (N := some 17) #[T, T, T, T, T, T, F, F, F, F] rfl rfl (one_of HT_.out (by kernel_rfl)) (by decide) (fun K hK => ?_)
     refine goes_ Try.func27 (by kernel_rfl) rfl #[.int .i64 a0, .slice Ao12 y291.length co12] (by rfl) rfl rfl (by (try simp only [List.map_toArray, List.map_cons, List.map_nil]); first | done | rfl | (simp only [List.length_drop, List.length_take]; rfl)) ?_
     with_reducible refine (downpourref01_Of.calls k1 a0 _ _ y291 t294 t295 _ ?side1 ?side2 A7.out).mono ?_
     (case side1 => repeat (first | exact (Kd.R_reads' HO293.out).2.2 | (with_reducible refine Kd.C_alloc ?_ _) | (with_reducible refine Kd.C_drewN ?_ _) | (with_reducible refine Kd.C_drew ?_)))
     (case side2 => exact (Kd.R_reads' HO293.out).2.1)
     rintro e w13 ⟨v296, rfl, ho0, hb⟩
     refine ⟨_, rfl, ?_⟩
     have n0_ := am (Kd.S_elder' (by (with_reducible repeat (first | apply Kd.S_alloc | apply Kd.S_drewN | apply Kd.S_drew)); exact HO_291001.out) (Kd.R_base ho0) hb)
     have n1_ := am (Kd.R_below (pr HO293) hb)
     have n2_ := am (Kd.R_lower ho0 (below_size (pb HB)))
     have n3_ := bb BK289 hb
     have n4_ := bb BK290 hb
     have n5_ := am (below_step (pb HB) hb)
     clear HO_291001
     clear HO293
     clear BK289
     clear BK290
     clear HB
     have HO_291001 := n0_
     have HO293 := n1_
     have HO297 := n2_
     have BK289 := n3_
     have BK290 := n4_
     have HB := n5_
     clear n0_ n1_ n2_ n3_ n4_ n5_
     (try clear hb)
     (try clear hb2)
     (try clear hk)
     (try clear hi)
     (try clear ho0)
     obtain ⟨Ao15, co15, eo15⟩ := Kd.R_slice HO297.out
     (first | subst eo15 | (injection eo15 with f1_ f2_ f3_; have f4_ := f1_.symm; have f5_ := f3_.symm; clear f1_ f2_ f3_; subst f4_; subst f5_))
     refine hK.out _ _ ⟨(blk_cell BK290.out 0).trans rfl, (blk_cell BK290.out 1).trans rfl⟩ (fun hHeld => ?_)
     clear hK K
     refine norm_ (a' := ?_) ?_ ?_
     rotate_left
     ·
      show Act.put _ (some 17) _ = _
      simp only [Act.put, q1, q2, q3, i64_w, i32_w]
      rfl
     refine one_ (i := 6) (N := some 18) #[T, T, T, T, T, T, T, F, F, F] rfl rfl (one_of HT_.out (by kernel_rfl)) (by decide) (fun K hK => ?_)
     refine value_ (w1 := ?_) (v := ?_) (by rfl) rfl ?_ ?_
     rotate_left 2
     ·
      go_simp
      constructor
      ·
       rfl
      ·
       rfl
     refine hK.out _ _ ⟨(blk_cell (blk_alloc BK290.out _) 0).trans rfl, (blk_cell (blk_alloc BK290.out _) 1).trans rfl⟩ (fun hHeld => ?_)
     clear hK K
     refine norm_ (a' := ?_) ?_ ?_
     rotate_left
     ·
      show Act.put _ (some 18) _ = _
      simp only [Act.put, q1, q2, q3, i64_w, i32_w]
      rfl
     refine one_ (i := 7) (N := some 19) #[T, T, T, T, T, T, T, T, F, F] rfl rfl (one_of HT_.out (by kernel_rfl)) (by decide) (fun K hK => ?_)
     refine Kd.S_append_step k25 (w0 := w) w.heap.size (by rfl) (.tmp 13) (.tmp 18) 40 25 (.agg #[(.int .i64 0), (.slice none 0 0)]) 32 rfl Try.underlying40 info25 rfl (by decide) (by omega) u291001 x291001_1 (⟨t294, t295⟩ : S25) [.int .i64 t294, .slice Ao15 t295.length co15] (fun _ => True) (fun k_ => some k_ = (.slice Ao15 t295.length co15 : Value).ownBlock) rfl rfl ?aP (fun k_ hk_ => ((Kd.R_mono (ok' := fun k_ => ((fun _ => True)) k_ ∧ some k_ ≠ (u291001 : Value).ownBlock) (Kd.R_apart' (HO297.out) (Kd.S_typed HO_291001.out) (by decide)) (fun k_ hk => ⟨trivial, hk.2⟩))).1 k_ hk_.symm) ?aF ?aO ?aB ?aS ?aL ?_
     (case aP => exact k25_mkM _ _ _ (⟨t294, t295⟩ : S25) (Kd.R_mono (Kd.R_tight rfl (Kd.R_mono (ok' := fun k_ => ((fun _ => True)) k_ ∧ some k_ ≠ (u291001 : Value).ownBlock) (Kd.R_apart' (HO297.out) (Kd.S_typed HO_291001.out) (by decide)) (fun k_ hk => ⟨trivial, hk.2⟩))) (fun _ h_ => h_)))
     (case aB => exact (pb HB))
     (case aF => exact (fun _ _ => trivial))
     (case aO => exact (by (with_reducible repeat (first | apply Kd.S_alloc | apply Kd.S_drewN | apply Kd.S_drew)); exact Kd.S_mono HO_291001.out (fun k_ hk => ⟨trivial, fun e_ => hk.2 e_⟩)))
     (case aS => exact (below_size (pb HB)))
     (case aL => have := LMc8.out; omega)
     intro v299 w14 ho hb hg hat
     rw [← Ny298.out] at ho
     have n0_ := am (blk_grown (g := gb289) (o := .cells #[.int .i64 0, .slice none 0 0] 42 (0, 0)) (pk BK289) hg (Kd.S_ne HO_291001.out BK289.out (by decide)))
     have n1_ := am (blk_grown (g := gb290) (o := .cells #[.int .i64 a0, u291001] 42 (0, 0)) (pk BK290) hg (Kd.S_ne HO_291001.out BK290.out (by decide)))
     have n2_ := am (Kd.R_over' (pr HO293) (Kd.S_typed (by (with_reducible repeat (first | apply Kd.S_alloc | apply Kd.S_drewN | apply Kd.S_drew)); exact HO_291001.out)) (by decide) hg)
     have n3_ := am (hb)
     have n4_ := am (ho)
     clear BK289
     clear BK290
     clear HO293
     clear HB
     clear HO_291001
     clear HO297
     have BK289 := n0_
     have BK290 := n1_
     have HO293 := n2_
     have HB := n3_
     have HO300 := n4_
     clear n0_ n1_ n2_ n3_ n4_
     clear ho hb hg hat
     obtain ⟨Ao16, co16, eo16⟩ := Kd.S_slice HO300.out
     (first | subst eo16 | (injection eo16 with f1_ f2_ f3_; have f4_ := f1_.symm; have f5_ := f3_.symm; clear f1_ f2_ f3_; subst f4_; subst f5_))
     refine hK.out _ _ ⟨(blk_cell BK290.out 0).trans rfl, (blk_cell BK290.out 1).trans rfl⟩ (fun hHeld => ?_)
     clear hK K
     refine norm_ (a' := ?_) ?_ ?_
     rotate_left
     ·
      show Act.put _ (some 19) _ = _
      simp only [Act.put, q1, q2, q3, i64_w, i32_w]
      rfl
     refine pure_ (i := 8) (N := some 20) (v := ?_) (a' := ?_) #[T, T, T, T, T, T, T, T, T, F] rfl rfl (any_of HT_.out (by kernel_rfl)) (fun _ _ _ h => h) (Or.inl ⟨by rfl, ?_⟩) ?_ ?_
     rotate_left
     ·
      intro w'
      go_simp
      with_reducible rfl
     rotate_left
     ·
      simp only [Act.put, q1, q2, q3, i64_w, i32_w]
      rfl
     refine last_ (i := 9) (N := none) #[T, T, T, T, T, T, T, T, T, T] rfl rfl (one_of HT_.out (by kernel_rfl)) (by decide) (fun K hK => ?_)
     have hs17 : w14.cell? ⟨gb290, 1, none⟩ = some (u291001) := (blk_cell BK290.out 1).trans rfl
     have hfs17 := blk_frozen BK290.out 1
     have hns17_0 := NB289_290.out
     have hms17_0 := NB290_289.out
     refine skip_ (w1 := ?_) (by rfl) rfl ?_ ?_
     rotate_left
     ·
      go_simp
      rfl
     refine hK.out _ _ ?_
     clear hK K
     refine done_ (done_of HT_.out (by kernel_rfl)) ?_
     try go_wp2
     go_roundg k1
     case measure => have := HK1.out; omega
     case rel => exact ⟨(wrap64 (x4_1 + 1)), (y298), (.slice Ao16 y298.length co16), (by first | rfl | (simp; done) | (simp [*]; done)), H', ⟨by have := HK1.out; omega⟩, ⟨by (with_reducible repeat (first | apply Kd.S_alloc | apply Kd.S_drewN | apply Kd.S_drew)); exact Kd.S_mono (Kd.S_far (p := ⟨gb290, 1, none⟩) (Kd.S_types HO300.out BK290.out (by decide)) (fun _ hk => hk.2) (.slice Ao16 y298.length co16)) (fun _ hk => trivial)⟩, ⟨by (with_reducible repeat (first | refine blk_drewN ?_ _ | refine blk_drew ?_ | refine blk_alloc ?_ _)); refine blk_far ?_ NB289_290.out _; (with_reducible repeat (first | refine blk_drewN ?_ _ | refine blk_drew ?_ | refine blk_alloc ?_ _)); exact BK289.out⟩, ⟨by (with_reducible repeat (first | refine blk_drewN ?_ _ | refine blk_drew ?_ | refine blk_alloc ?_ _)); refine blk_put (cs := #[.int .i64 a0, u291001]) ?_ 1 _ rfl; (with_reducible repeat (first | refine blk_drewN ?_ _ | refine blk_drew ?_ | refine blk_alloc ?_ _)); exact BK290.out⟩, ⟨pb HB⟩⟩
    ·
     rw [if_neg c8] at H
     exact absurd H (by simp)
   ·
    rw [if_neg c6] at H
    have c6b0 : decide (x4_1 < a0) = false := decide_eq_false c6
    clear c6
    simp only [Option.some.injEq, Prod.mk.injEq] at H
    obtain ⟨rfl, rfl⟩ := H
    have hnb18 := NB290_289.out
    have hnc18 := NB289_290.out
    have hcz19_0 : wr.cell? ⟨gb290, 0, none⟩ = some (.int .i64 a0) := (blk_cell BK290.out 0).trans rfl
    have hcz19_1 : wr.cell? ⟨gb290, 1, none⟩ = some (u291001) := (blk_cell BK290.out 1).trans rfl
    have hfz19_0 := blk_frozen BK290.out 0
    have hfz19_1 := blk_frozen BK290.out 1
    have hcz20_0 : wr.cell? ⟨gb289, 0, none⟩ = some (.int .i64 0) := (blk_cell BK289.out 0).trans rfl
    have hcz20_1 : wr.cell? ⟨gb289, 1, none⟩ = some (.slice none 0 0) := (blk_cell BK289.out 1).trans rfl
    have hfz20_0 := blk_frozen BK289.out 0
    have hfz20_1 := blk_frozen BK289.out 1
    obtain ⟨Ao21, co21, eo21⟩ := Kd.S_slice HO_291001.out
    subst eo21
    go_wp2
    refine bodyPost_ret (results_cell_row rfl _ _ gb289 42 #[.int .i64 a0, .slice Ao21 x291001_1.length co21] (0, 0) _ rfl (by (with_reducible repeat (first | refine blk_drewN ?_ _ | refine blk_drew ?_ | refine blk_alloc ?_ _)); refine blk_put (cs := #[.int .i64 a0, .slice none 0 0]) ?_ 1 _ rfl; (with_reducible repeat (first | refine blk_drewN ?_ _ | refine blk_drew ?_ | refine blk_alloc ?_ _)); refine blk_put (cs := #[.int .i64 0, .slice none 0 0]) ?_ 0 _ rfl; (with_reducible repeat (first | refine blk_drewN ?_ _ | refine blk_drew ?_ | refine blk_alloc ?_ _)); exact BK289.out) Try.underlying42 rfl (by kernel_rfl)) rfl ?_
    exact ⟨_, by first | rfl | (simp [errW_none, errW_some] <;> rfl) | (simp [*, errW_none, errW_some] <;> rfl), by (with_reducible repeat (first | apply Kd.S_alloc | apply Kd.S_drewN | apply Kd.S_drew)); exact Kd.S_mono (Kd.S_far (p := ⟨gb289, 1, none⟩) (Kd.S_far (p := ⟨gb289, 0, none⟩) (Kd.S_types HO_291001.out BK289.out (by decide)) (fun _ hk => hk.2) (.int .i64 a0)) (fun _ hk => hk.2) (.slice Ao21 x291001_1.length co21)) (fun _ hk => trivial), pb HB⟩

/-! ### downpourref03_Turn: function 49 -/
mutual
def downpourref03_Turn.l0 : Nat → Int → Int → List (S25) → Int → List (S25) → Option (Int × (List (S25)))
 | 0, _, _, _, _, _ => none
 | k + 1, x4, x302000, x302001, x304000, x304001 => if x4 < x302000 then (downpourref03_Turn.l1 k x4 (([] : List Int)) x302001 (x302001.length : Int) 0 x302000 x302001 x304000 x304001) else (some (x304000, x304001))
def downpourref03_Turn.l1 : Nat → Int → List Int → List (S25) → Int → Int → Int → List (S25) → Int → List (S25) → Option (Int × (List (S25)))
 | 0, _, _, _, _, _, _, _, _, _ => none
 | k + 1, x4, x5, x20, x21, x22, x302000, x302001, x304000, x304001 => if x22 < x21 then (if 0 ≤ x22 then (if x22 < (x20.length : Int) then ((downpourref01_Bit.f ((rd_T25 x20 x22).f0) ((rd_T25 x20 x22).f1) x4).bind fun t309 => (if x5.length < 17592186044416 then (downpourref03_Turn.l1 k x4 (x5 ++ [t309]) x20 x21 (wrap64 (x22 + 1)) x302000 x302001 x304000 x304001) else (none))) else (none)) else (none)) else ((downpourref01_From.f k x5).bind fun bt313 => (if x304001.length < 4398046511104 then (downpourref03_Turn.l0 k (wrap64 (x4 + 1)) x302000 x302001 x304000 (x304001 ++ [(⟨bt313.1, bt313.2⟩ : S25)])) else (none)))
end
def downpourref03_Turn.f (k : Nat) (a0_0 : Int) (l0_1 : List (S25)) : Option (Int × (List (S25))) := downpourref03_Turn.l0 k 0 a0_0 l0_1 (l0_1.length : Int) ([] : List (S25))
theorem downpourref03_Turn.mono_l : ∀ k, (∀ y0 y1 y2 y3 y4, LeO (downpourref03_Turn.l0 k y0 y1 y2 y3 y4) (downpourref03_Turn.l0 (k + 1) y0 y1 y2 y3 y4)) ∧ (∀ y0 y1 y2 y3 y4 y5 y6 y7 y8, LeO (downpourref03_Turn.l1 k y0 y1 y2 y3 y4 y5 y6 y7 y8) (downpourref03_Turn.l1 (k + 1) y0 y1 y2 y3 y4 y5 y6 y7 y8))
 | 0 => ⟨fun _ _ _ _ _ r h => by simp [downpourref03_Turn.l0] at h, fun _ _ _ _ _ _ _ _ _ r h => by simp [downpourref03_Turn.l1] at h⟩
 | k + 1 => by
  obtain ⟨ih0, ih1⟩ := downpourref03_Turn.mono_l k
  refine ⟨?_, ?_⟩
  ·
   intro y0 y1 y2 y3 y4
   unfold downpourref03_Turn.l0
   repeat' first
   | (with_reducible exact ih0 _ _ _ _ _)
   | (with_reducible exact ih1 _ _ _ _ _ _ _ _ _)
   | (with_reducible exact downpourref01_From.mono _ _)
   | (with_reducible exact LeO.refl _)
   | (with_reducible exact LeO.none _)
   | (with_reducible refine LeO.ite ?_ ?_)
   | (with_reducible refine LeO.bind ?_ (fun _ => ?_))
   | exact ih0 _ _ _ _ _
   | exact ih1 _ _ _ _ _ _ _ _ _
   | exact downpourref01_From.mono _ _
   | exact LeO.none _
   | refine LeO.ite ?_ ?_
   | refine LeO.bind ?_ (fun _ => ?_)
  ·
   intro y0 y1 y2 y3 y4 y5 y6 y7 y8
   unfold downpourref03_Turn.l1
   repeat' first
   | (with_reducible exact ih0 _ _ _ _ _)
   | (with_reducible exact ih1 _ _ _ _ _ _ _ _ _)
   | (with_reducible exact downpourref01_From.mono _ _)
   | (with_reducible exact LeO.refl _)
   | (with_reducible exact LeO.none _)
   | (with_reducible refine LeO.ite ?_ ?_)
   | (with_reducible refine LeO.bind ?_ (fun _ => ?_))
   | exact ih0 _ _ _ _ _
   | exact ih1 _ _ _ _ _ _ _ _ _
   | exact downpourref01_From.mono _ _
   | exact LeO.none _
   | refine LeO.ite ?_ ?_
   | refine LeO.bind ?_ (fun _ => ?_)
theorem downpourref03_Turn.mono : ∀ a0 a1 k, LeO (downpourref03_Turn.f k a0 a1) (downpourref03_Turn.f (k + 1) a0 a1) := by
 intro a0 a1 k
 obtain ⟨ih0, ih1⟩ := downpourref03_Turn.mono_l k
 unfold downpourref03_Turn.f
 repeat' first
   | (with_reducible exact ih0 _ _ _ _ _)
   | (with_reducible exact ih1 _ _ _ _ _ _ _ _ _)
   | (with_reducible exact downpourref01_From.mono _ _)
   | (with_reducible exact LeO.refl _)
   | (with_reducible exact LeO.none _)
   | (with_reducible refine LeO.ite ?_ ?_)
   | (with_reducible refine LeO.bind ?_ (fun _ => ?_))
   | exact ih0 _ _ _ _ _
   | exact ih1 _ _ _ _ _ _ _ _ _
   | exact downpourref01_From.mono _ _
   | exact LeO.none _
   | refine LeO.ite ?_ ?_
   | refine LeO.bind ?_ (fun _ => ?_)
def downpourref03_Turn.T11 : Bool × List (List Nat × List Nat) := (true, [([], []), ([0], [0]), ([], []), ([2], [2]), ([3], [3]), ([1, 4, 3], [1, 4]), ([0, 1, 2, 3, 4, 5], []), ([6, 5, 5, 0, 1, 2, 3, 4, 5], [5, 6])])
def downpourref03_Turn.B11 : List Nat := [0, 1, 0, 4, 12, 31, 63, 127]
theorem downpourref03_Turn.tab11 : rtab .any (opsOf Try.f49 11) = downpourref03_Turn.T11 := by kernel_rfl
theorem downpourref03_Turn.bits11 : waitsOk downpourref03_Turn.T11.2 downpourref03_Turn.B11 = true := by kernel_rfl
set_option maxHeartbeats 8000000 in
set_option maxRecDepth 100000 in
theorem downpourref03_Turn.calls (k : Nat) (a0_0 : Int) (A0_1 : Option Addr) (c0_1 : Nat) (l0_1 : List (S25)) (r1 : Int) (r2 : List (S25)) (w : World) (hr0_1 : Kd.C k25 w A0_1 l0_1.length l0_1) (hc0_1 : l0_1.length ≤ c0_1) (h : downpourref03_Turn.f k a0_0 l0_1 = some (r1, r2)) :
  Calls Try.prog 49 #[.agg #[.int .i64 a0_0, .slice A0_1 l0_1.length c0_1]] w fun e w' => ∃ v1_ : Value, e = .returned (.agg #[.int .i64 r1, v1_]) ∧ Kd.S k25 25 w' w.heap.size (fun _ => True) v1_ r2 ∧ Below w.heap.size w w' := by
 have hu42 := Try.underlying42
 have hu25 := Try.underlying25
 have HR0_1 := Aside0.mk hr0_1
 have HC0_1 := Aside0.mk hc0_1
 clear hr0_1 hc0_1
 have HB := am (Below.refl w.heap.size w)
 have H : (downpourref03_Turn.l0 k 0 a0_0 l0_1 (l0_1.length : Int) ([] : List (S25))) = some (r1, r2) := h
 clear h
 have H' := Aside0.mk H
 clear H
 go_enter Try.func49, Try.ntmps49
 go_wp2_with (first | ((with_reducible refine gate_dst (N := 1) rfl ?_); refine box_event ?hg (N := 1) ?hd (cs := #[.int .i64 a0_0, .slice A0_1 l0_1.length c0_1]) (t := 42) ?hr ?_; (case hd => rfl); (case hg => rfl); (case hr => first | (go_simp; done) | (go_simp; rfl)); intro gb301 hg w2 hbox hb; have n0_ := am (below_step (pb HB) hb); have n1_ := am (hbox); have n2_ := am ((by rw [hg]; exact (below_size (pb HB)) : w.heap.size ≤ gb301)); have n3_ := am ((by rw [hg]; exact (below_size (pb HB)) : w.heap.size ≤ gb301)); clear HB; have HB := n0_; have BK301 := n1_; have GW301 := n2_; have GE301 := n3_; clear n0_ n1_ n2_ n3_ hb hbox hg) | ((with_reducible refine gate_dst (N := 2) rfl ?_); refine box_event ?hg (N := 2) ?hd (cs := #[.int .i64 0, .slice none 0 0]) (t := 42) ?hr ?_; (case hd => rfl); (case hg => rfl); (case hr => first | (go_simp; done) | (go_simp; rfl)); intro gb302 hg w3 hbox hb; have n0_ := bb BK301 hb; have n1_ := am (below_step (pb HB) hb); have n2_ := am (hbox); have n3_ := am ((by rw [hg]; exact (below_size (pb HB)) : w.heap.size ≤ gb302)); have n4_ := am ((by rw [hg]; exact (below_size (pb HB)) : w.heap.size ≤ gb302)); have n5_ := am ((by rw [hg]; exact Nat.ne_of_lt (bl BK301) : gb301 ≠ gb302)); have n6_ := am ((by rw [hg]; exact Nat.ne_of_gt (bl BK301) : gb302 ≠ gb301)); clear BK301 HB; have BK301 := n0_; have HB := n1_; have BK302 := n2_; have GW302 := n3_; have GE302 := n4_; have NB301_302 := n5_; have NB302_301 := n6_; clear n0_ n1_ n2_ n3_ n4_ n5_ n6_ hb hbox hg; have hnb4 := NB301_302.out; have hnc4 := NB302_301.out; have hcz5_0 : w3.cell? ⟨gb301, 0, none⟩ = some (.int .i64 a0_0) := (blk_cell BK301.out 0).trans rfl; have hcz5_1 : w3.cell? ⟨gb301, 1, none⟩ = some (.slice A0_1 l0_1.length c0_1) := (blk_cell BK301.out 1).trans rfl; have hfz5_0 := blk_frozen BK301.out 0; have hfz5_1 := blk_frozen BK301.out 1) | ((with_reducible refine gate_dst (N := 3) rfl ?_); refine box_event ?hg (N := 3) ?hd (cs := #[.int .i64 0, .slice none 0 0]) (t := 42) ?hr ?_; (case hd => rfl); (case hg => rfl); (case hr => first | (go_simp; done) | (go_simp; rfl)); intro gb303 hg w6 hbox hb; have n0_ := bb BK301 hb; have n1_ := bb BK302 hb; have n2_ := am (below_step (pb HB) hb); have n3_ := am (hbox); have n4_ := am ((by rw [hg]; exact (below_size (pb HB)) : w.heap.size ≤ gb303)); have n5_ := am ((by rw [hg]; exact (below_size (pb HB)) : w.heap.size ≤ gb303)); have n6_ := am ((by rw [hg]; exact Nat.ne_of_lt (bl BK301) : gb301 ≠ gb303)); have n7_ := am ((by rw [hg]; exact Nat.ne_of_gt (bl BK301) : gb303 ≠ gb301)); have n8_ := am ((by rw [hg]; exact Nat.ne_of_lt (bl BK302) : gb302 ≠ gb303)); have n9_ := am ((by rw [hg]; exact Nat.ne_of_gt (bl BK302) : gb303 ≠ gb302)); clear BK301 BK302 HB; have BK301 := n0_; have BK302 := n1_; have HB := n2_; have BK303 := n3_; have GW303 := n4_; have GE303 := n5_; have NB301_303 := n6_; have NB303_301 := n7_; have NB302_303 := n8_; have NB303_302 := n9_; clear n0_ n1_ n2_ n3_ n4_ n5_ n6_ n7_ n8_ n9_ hb hbox hg; have hnb7 := NB303_301.out; have hnc7 := NB301_303.out; have hnb8 := NB303_302.out; have hnc8 := NB302_303.out; have hcz9_0 : w6.cell? ⟨gb303, 0, none⟩ = some (.int .i64 0) := (blk_cell BK303.out 0).trans rfl; have hcz9_1 : w6.cell? ⟨gb303, 1, none⟩ = some (.slice none 0 0) := (blk_cell BK303.out 1).trans rfl; have hfz9_0 := blk_frozen BK303.out 0; have hfz9_1 := blk_frozen BK303.out 1))
 go_loopg [4] k (fun kq v4 w' => ∃ (x4_1 : Int) (x304001_1 : List (S25)) (u304001 : Value), v4 = .int .i64 x4_1 ∧ Aside0 (downpourref03_Turn.l0 kq x4_1 a0_0 l0_1 (l0_1.length : Int) x304001_1 = some (r1, r2)) ∧ Aside0 (kq ≤ k) ∧ Aside0 (Kd.S k25 25 w' w.heap.size (fun _ => True) u304001 x304001_1) ∧ Aside0 (w'.heap[gb301]? = some (.cells #[.int .i64 a0_0, (.slice A0_1 l0_1.length c0_1)] 42 (0, 0))) ∧ Aside0 (w'.heap[gb302]? = some (.cells #[.int .i64 0, (.slice none 0 0)] 42 (0, 0))) ∧ Aside0 (w'.heap[gb303]? = some (.cells #[.int .i64 (l0_1.length : Int), u304001] 42 (0, 0))) ∧ Aside0 (Below w.heap.size w w'))
 case atStart => exact ⟨(0), (([] : List (S25))), (.slice none 0 0), (by first | rfl | (simp; done) | (simp [*]; done)), H', ⟨Nat.le_refl _⟩, ⟨by first | exact Kd.S_nil _ _ _ _ _ | exact Kd.N_nil _ _ _ _ _ | exact Kd.V_nil _ _ _ _ _ | exact Kd.Q_nil _ _ _ _ _ | exact Kd.R_nil _ _ _ _ _⟩, ⟨by (with_reducible repeat (first | refine blk_drewN ?_ _ | refine blk_drew ?_ | refine blk_alloc ?_ _)); refine blk_far ?_ NB301_303.out _; (with_reducible repeat (first | refine blk_drewN ?_ _ | refine blk_drew ?_ | refine blk_alloc ?_ _)); refine blk_far ?_ NB301_303.out _; (with_reducible repeat (first | refine blk_drewN ?_ _ | refine blk_drew ?_ | refine blk_alloc ?_ _)); exact BK301.out⟩, ⟨by (with_reducible repeat (first | refine blk_drewN ?_ _ | refine blk_drew ?_ | refine blk_alloc ?_ _)); refine blk_far ?_ NB302_303.out _; (with_reducible repeat (first | refine blk_drewN ?_ _ | refine blk_drew ?_ | refine blk_alloc ?_ _)); refine blk_far ?_ NB302_303.out _; (with_reducible repeat (first | refine blk_drewN ?_ _ | refine blk_drew ?_ | refine blk_alloc ?_ _)); exact BK302.out⟩, ⟨by (with_reducible repeat (first | refine blk_drewN ?_ _ | refine blk_drew ?_ | refine blk_alloc ?_ _)); refine blk_put (cs := #[.int .i64 (l0_1.length : Int), .slice none 0 0]) ?_ 1 _ rfl; (with_reducible repeat (first | refine blk_drewN ?_ _ | refine blk_drew ?_ | refine blk_alloc ?_ _)); refine blk_put (cs := #[.int .i64 0, .slice none 0 0]) ?_ 0 _ rfl; (with_reducible repeat (first | refine blk_drewN ?_ _ | refine blk_drew ?_ | refine blk_alloc ?_ _)); exact BK303.out⟩, ⟨pb HB⟩⟩
 case round =>
  clear H'
  try clear p2
  try clear c4
  try clear c7
  try clear c8
  try clear hcz5_0
  try clear hcz5_1
  try clear hcz9_0
  try clear hcz9_1
  try clear hfz5_0
  try clear hfz5_1
  try clear hfz9_0
  try clear hfz9_1
  obtain ⟨x4_1, x304001_1, u304001, rfl, HA, HK1, HO_304001, BK301, BK302, BK303, HB⟩ := hrel
  cases gk with
  | zero => exact absurd HA.out (by simp [downpourref03_Turn.l0])
  | succ k1 =>
   have H := HA.out
   clear HA
   simp only [downpourref03_Turn.l0] at H
   by_cases c10 : x4_1 < a0_0
   ·
    rw [if_pos c10] at H
    have c10b0 : decide (x4_1 < a0_0) = true := decide_eq_true c10
    clear c10
    obtain ⟨y304, hy304⟩ : ∃ y_ : List Int, y_ = (([] : List Int)) := ⟨_, rfl⟩
    replace H : (downpourref03_Turn.l1 k1 x4_1 y304 l0_1 (l0_1.length : Int) 0 a0_0 l0_1 (l0_1.length : Int) x304001_1) = some (r1, r2) := by first | (rw [hy304]; with_reducible exact H) | (have H2_ := (Option.bind_some _ _).symm.trans H; rw [hy304]; with_reducible exact H2_) | (have H2_ := (Option.bind_some _ _).symm.trans H; with_reducible exact H2_) | with_reducible exact H | (rw [hy304]; exact H) | exact H
    have Ny304 := Aside0.mk hy304
    clear hy304
    have H' := Aside0.mk H
    clear H
    have hnb11 := NB301_302.out
    have hnc11 := NB302_301.out
    have hnb12 := NB301_303.out
    have hnc12 := NB303_301.out
    have hcz13_0 : wr.cell? ⟨gb301, 0, none⟩ = some (.int .i64 a0_0) := (blk_cell BK301.out 0).trans rfl
    have hcz13_1 : wr.cell? ⟨gb301, 1, none⟩ = some (.slice A0_1 l0_1.length c0_1) := (blk_cell BK301.out 1).trans rfl
    have hfz13_0 := blk_frozen BK301.out 0
    have hfz13_1 := blk_frozen BK301.out 1
    go_wp2_with (first | ((with_reducible refine gate_dst (N := 18) rfl ?_); refine Kd.R_lit (Kd.int .i64) _ 3 ?hg (N := 18) ?hd (xs := ([] : List Int)) (inner := []) (ok := fun _ => True) (okp := fun _ => True) ?hr ?hp (fun _ hk => hk) trivial (Below.refl _ _) (Nat.le_refl _) (by simp) ?_; (case hd => rfl); (case hg => rfl); (case hr => first | (go_simp; done) | (go_simp; rfl)); (case hp => exact (Reps.none _ _)); intro v305 w14 ho15 hb hg_ hnew_; clear hg_ hnew_; (first | rw [← Ny304.out] at ho15 | (simp only [Int.reduceToNat] at ho15; rw [← Ny304.out] at ho15)); have n0_ := am (Kd.S_below (by (with_reducible repeat (first | apply Kd.S_alloc | apply Kd.S_drewN | apply Kd.S_drew)); exact HO_304001.out) hb); have n1_ := am (Kd.R_lower ho15 (below_size (pb HB))); have n2_ := bb BK301 hb; have n3_ := bb BK302 hb; have n4_ := bb BK303 hb; have n5_ := am (below_step (pb HB) hb); clear HO_304001 BK301 BK302 BK303 HB; have HO_304001 := n0_; have HO306 := n1_; have BK301 := n2_; have BK302 := n3_; have BK303 := n4_; have HB := n5_; clear n0_ n1_ n2_ n3_ n4_ n5_ hb ho15; have hcz16_0 : w14.cell? ⟨gb301, 0, none⟩ = some (.int .i64 a0_0) := (blk_cell BK301.out 0).trans rfl; have hcz16_1 : w14.cell? ⟨gb301, 1, none⟩ = some (.slice A0_1 l0_1.length c0_1) := (blk_cell BK301.out 1).trans rfl; have hfz16_0 := blk_frozen BK301.out 0; have hfz16_1 := blk_frozen BK301.out 1))
    go_loopg [5, 22] k1 (fun kq v5 v22 w' => ∃ (x5_2 : List Int) (x22_2 : Int), v22 = .int .i64 x22_2 ∧ Aside0 (downpourref03_Turn.l1 kq x4_1 x5_2 l0_1 (l0_1.length : Int) x22_2 a0_0 l0_1 (l0_1.length : Int) x304001_1 = some (r1, r2)) ∧ Aside0 (kq ≤ k1) ∧ Aside0 (Kd.R (Kd.int .i64) 3 w' w.heap.size (fun _ => True) v5 x5_2) ∧ Aside0 (Kd.S k25 25 w' w.heap.size (fun _ => True) u304001 x304001_1) ∧ Aside0 (w'.heap[gb301]? = some (.cells #[.int .i64 a0_0, (.slice A0_1 l0_1.length c0_1)] 42 (0, 0))) ∧ Aside0 (w'.heap[gb302]? = some (.cells #[.int .i64 0, (.slice none 0 0)] 42 (0, 0))) ∧ Aside0 (w'.heap[gb303]? = some (.cells #[.int .i64 (l0_1.length : Int), u304001] 42 (0, 0))) ∧ Aside0 (Below w.heap.size w w'))
    case atStart => exact ⟨(y304), (0), (by first | rfl | (simp; done) | (simp [*]; done)), H', ⟨Nat.le_refl _⟩, ⟨by (with_reducible repeat (first | apply Kd.R_alloc | apply Kd.R_drewN | apply Kd.R_drew)); exact HO306.out⟩, ⟨by (with_reducible repeat (first | apply Kd.S_alloc | apply Kd.S_drewN | apply Kd.S_drew)); exact HO_304001.out⟩, ⟨by (with_reducible repeat (first | refine blk_drewN ?_ _ | refine blk_drew ?_ | refine blk_alloc ?_ _)); exact BK301.out⟩, ⟨by (with_reducible repeat (first | refine blk_drewN ?_ _ | refine blk_drew ?_ | refine blk_alloc ?_ _)); exact BK302.out⟩, ⟨by (with_reducible repeat (first | refine blk_drewN ?_ _ | refine blk_drew ?_ | refine blk_alloc ?_ _)); exact BK303.out⟩, ⟨pb HB⟩⟩
    case round =>
     clear H'
     try clear c1
     try clear p2
     try clear c4
     try clear c7
     try clear c8
     try clear c10
     try clear c10b0
     try clear c11
     try clear c12
     try clear hcz13_0
     try clear hcz13_1
     try clear hcz16_0
     try clear hcz16_1
     try clear hcz5_0
     try clear hcz5_1
     try clear hcz9_0
     try clear hcz9_1
     try clear hfz13_0
     try clear hfz13_1
     try clear hfz16_0
     try clear hfz16_1
     try clear hfz5_0
     try clear hfz5_1
     try clear hfz9_0
     try clear hfz9_1
     try clear p2
     obtain ⟨x5_2, x22_2, rfl, HA, HK2, HO_5, HO_304001, BK301, BK302, BK303, HB⟩ := hrel
     cases gk with
     | zero => exact absurd HA.out (by simp [downpourref03_Turn.l1])
     | succ k2 =>
      have H := HA.out
      clear HA
      simp only [downpourref03_Turn.l1] at H
      by_cases c17 : x22_2 < (l0_1.length : Int)
      ·
       rw [if_pos c17] at H
       have c17b0 : decide (x22_2 < (l0_1.length : Int)) = true := decide_eq_true c17
       clear c17
       by_cases c18 : 0 ≤ x22_2
       ·
        rw [if_pos c18] at H
        have c18b0 : decide (0 ≤ x22_2) = true := decide_eq_true c18
        clear c18
        by_cases c19 : x22_2 < (l0_1.length : Int)
        ·
         rw [if_pos c19] at H
         have c19b0 : decide (x22_2 < (l0_1.length : Int)) = true := decide_eq_true c19
         clear c19
         replace H := Option.bind_eq_some_iff.mp H
         obtain ⟨t309, A200, H⟩ := H
         replace H : (if x5_2.length < 17592186044416 then (downpourref03_Turn.l1 k2 x4_1 (x5_2 ++ [t309]) l0_1 (l0_1.length : Int) (wrap64 (x22_2 + 1)) a0_0 l0_1 (l0_1.length : Int) x304001_1) else (none)) = some (r1, r2) := H
         have A20 := Aside0.mk A200
         clear A200
         by_cases c21 : x5_2.length < 17592186044416
         ·
          rw [if_pos c21] at H
          have LMc21 := Aside0.mk c21
          clear c21
          obtain ⟨y310, hy310⟩ : ∃ y_ : List Int, y_ = (x5_2 ++ [t309]) := ⟨_, rfl⟩
          replace H : (downpourref03_Turn.l1 k2 x4_1 y310 l0_1 (l0_1.length : Int) (wrap64 (x22_2 + 1)) a0_0 l0_1 (l0_1.length : Int) x304001_1) = some (r1, r2) := by first | (rw [hy310]; with_reducible exact H) | (have H2_ := (Option.bind_some _ _).symm.trans H; rw [hy310]; with_reducible exact H2_) | (have H2_ := (Option.bind_some _ _).symm.trans H; with_reducible exact H2_) | with_reducible exact H | (rw [hy310]; exact H) | exact H
          have Ny310 := Aside0.mk hy310
          clear hy310
          have H' := Aside0.mk H
          clear H
          have p307 : 0 ≤ (x22_2 : Int) := of_decide_eq_true (by first | (with_reducible assumption) | assumption)
          have q307 : x22_2 < (l0_1.length : Int) := of_decide_eq_true (by first | (with_reducible assumption) | assumption)
          obtain ⟨ad307, A307_1, c307_1, e307, hx307_0, hx307_1, hl307_1, hi307_1⟩ := at_T25 HR0_1.out x22_2 p307 q307
          cases e307
          replace hx307_0 := (HB.out.cell (World.block_lt_of_cell? w _ hx307_0)).trans hx307_0
          replace hx307_1 := (HB.out.cell (World.block_lt_of_cell? w _ hx307_1)).trans hx307_1
          have HR307_1 := Aside0.mk hi307_1
          have HC307_1 := Aside0.mk hl307_1
          clear hi307_1 hl307_1
          replace p307 := eq_true p307
          replace q307 := eq_true q307
          go_wp2_with (first | ((with_reducible refine gate_dst (N := 7) rfl ?_); refine box_event ?hg (N := 7) ?hd (cs := #[.int .i64 0, .slice none 0 0]) (t := 25) ?hr ?_; (case hd => rfl); (case hg => rfl); (case hr => first | (go_simp; done) | (go_simp; rfl)); intro gb308 hg w22 hbox hb; have n0_ := am (Kd.R_below (pr HO_5) hb); have n1_ := am (Kd.S_below (Kd.S_elderB (by (with_reducible repeat (first | apply Kd.S_alloc | apply Kd.S_drewN | apply Kd.S_drew)); exact HO_304001.out) gb308 (Nat.le_of_eq hg.symm)) hb); have n2_ := bb BK301 hb; have n3_ := bb BK302 hb; have n4_ := bb BK303 hb; have n5_ := am (below_step (pb HB) hb); have n6_ := am (hbox); have n7_ := am ((by rw [hg]; exact (below_size (pb HB)) : w.heap.size ≤ gb308)); have n8_ := am ((by rw [hg]; exact (below_size (pb HB)) : w.heap.size ≤ gb308)); have n9_ := am ((by rw [hg]; exact Nat.ne_of_lt (bl BK301) : gb301 ≠ gb308)); have n10_ := am ((by rw [hg]; exact Nat.ne_of_gt (bl BK301) : gb308 ≠ gb301)); have n11_ := am ((by rw [hg]; exact Nat.ne_of_lt (bl BK302) : gb302 ≠ gb308)); have n12_ := am ((by rw [hg]; exact Nat.ne_of_gt (bl BK302) : gb308 ≠ gb302)); have n13_ := am ((by rw [hg]; exact Nat.ne_of_lt (bl BK303) : gb303 ≠ gb308)); have n14_ := am ((by rw [hg]; exact Nat.ne_of_gt (bl BK303) : gb308 ≠ gb303)); clear HO_5 HO_304001 BK301 BK302 BK303 HB; have HO_5 := n0_; have HO_304001 := n1_; have BK301 := n2_; have BK302 := n3_; have BK303 := n4_; have HB := n5_; have BK308 := n6_; have GW308 := n7_; have GE308 := n8_; have NB301_308 := n9_; have NB308_301 := n10_; have NB302_308 := n11_; have NB308_302 := n12_; have NB303_308 := n13_; have NB308_303 := n14_; clear n0_ n1_ n2_ n3_ n4_ n5_ n6_ n7_ n8_ n9_ n10_ n11_ n12_ n13_ n14_ hb hbox hg; have hnb23 := NB308_301.out; have hnc23 := NB301_308.out; have hnb24 := NB308_302.out; have hnc24 := NB302_308.out; have hnb25 := NB308_303.out; have hnc25 := NB303_308.out; have hcz26_0 : w22.cell? ⟨gb308, 0, none⟩ = some (.int .i64 0) := (blk_cell BK308.out 0).trans rfl; have hcz26_1 : w22.cell? ⟨gb308, 1, none⟩ = some (.slice none 0 0) := (blk_cell BK308.out 1).trans rfl; have hfz26_0 := blk_frozen BK308.out 0; have hfz26_1 := blk_frozen BK308.out 1) | ((with_reducible refine gate_callee (f := 106) rfl ?_); refine goesL_ (some 29) rfl rfl Try.func106 (by kernel_rfl) rfl #[.agg #[.int .i64 ((rd_T25 l0_1 x22_2).f0), .slice A307_1 ((rd_T25 l0_1 x22_2).f1).length c307_1], .int .i64 x4_1] rfl (by (try simp only [List.map_toArray, List.map_cons, List.map_nil]); first | done | rfl | (simp only [List.length_drop, List.length_take]; rfl)) ?_; (with_reducible refine (downpourref01_Bit.calls ((rd_T25 l0_1 x22_2).f0) _ _ ((rd_T25 l0_1 x22_2).f1) x4_1 t309 _ ?side1 ?side2 A20.out).mono ?_); (case side1 => exact Kd.C_below HR307_1.out (pb HB)); (case side2 => exact HC307_1.out); rintro e w27 ⟨rfl, hb⟩; refine ⟨_, rfl, ?_⟩; have n0_ := am (Kd.R_below (by (with_reducible repeat (first | apply Kd.R_alloc | apply Kd.R_drewN | apply Kd.R_drew)); exact (Kd.R_mono (Kd.R_far (p := ⟨gb308, 1, none⟩) (Kd.R_far (p := ⟨gb308, 0, none⟩) (Kd.R_types HO_5.out BK308.out (by decide)) (fun _ hk => hk.2) (.int .i64 ((rd_T25 l0_1 x22_2).f0))) (fun _ hk => hk.2) (.slice A307_1 ((rd_T25 l0_1 x22_2).f1).length c307_1)) (fun _ h_ => h_.1))) hb); have n1_ := am (Kd.S_below (by (with_reducible repeat (first | apply Kd.S_alloc | apply Kd.S_drewN | apply Kd.S_drew)); exact (Kd.S_mono (Kd.S_far (p := ⟨gb308, 1, none⟩) (Kd.S_far (p := ⟨gb308, 0, none⟩) (Kd.S_mono HO_304001.out (fun k_ hk => (⟨hk, hk.2⟩ : _ ∧ k_ ≠ gb308))) (fun _ hk => hk.2) (.int .i64 ((rd_T25 l0_1 x22_2).f0))) (fun _ hk => hk.2) (.slice A307_1 ((rd_T25 l0_1 x22_2).f1).length c307_1)) (fun _ h_ => h_.1))) hb); have n2_ := am (blk_below (g := gb301) (o := .cells #[.int .i64 a0_0, .slice (some ad307) l0_1.length c0_1] 42 (0, 0)) (by (with_reducible repeat (first | refine blk_drewN ?_ _ | refine blk_drew ?_ | refine blk_alloc ?_ _)); refine blk_far ?_ NB301_308.out _; (with_reducible repeat (first | refine blk_drewN ?_ _ | refine blk_drew ?_ | refine blk_alloc ?_ _)); refine blk_far ?_ NB301_308.out _; (with_reducible repeat (first | refine blk_drewN ?_ _ | refine blk_drew ?_ | refine blk_alloc ?_ _)); exact BK301.out) hb); have n3_ := am (blk_below (g := gb302) (o := .cells #[.int .i64 0, .slice none 0 0] 42 (0, 0)) (by (with_reducible repeat (first | refine blk_drewN ?_ _ | refine blk_drew ?_ | refine blk_alloc ?_ _)); refine blk_far ?_ NB302_308.out _; (with_reducible repeat (first | refine blk_drewN ?_ _ | refine blk_drew ?_ | refine blk_alloc ?_ _)); refine blk_far ?_ NB302_308.out _; (with_reducible repeat (first | refine blk_drewN ?_ _ | refine blk_drew ?_ | refine blk_alloc ?_ _)); exact BK302.out) hb); have n4_ := am (blk_below (g := gb303) (o := .cells #[.int .i64 (l0_1.length : Int), u304001] 42 (0, 0)) (by (with_reducible repeat (first | refine blk_drewN ?_ _ | refine blk_drew ?_ | refine blk_alloc ?_ _)); refine blk_far ?_ NB303_308.out _; (with_reducible repeat (first | refine blk_drewN ?_ _ | refine blk_drew ?_ | refine blk_alloc ?_ _)); refine blk_far ?_ NB303_308.out _; (with_reducible repeat (first | refine blk_drewN ?_ _ | refine blk_drew ?_ | refine blk_alloc ?_ _)); exact BK303.out) hb); have n5_ := am (blk_below (g := gb308) (o := .cells #[.int .i64 ((rd_T25 l0_1 x22_2).f0), .slice A307_1 ((rd_T25 l0_1 x22_2).f1).length c307_1] 25 (0, 0)) (by (with_reducible repeat (first | refine blk_drewN ?_ _ | refine blk_drew ?_ | refine blk_alloc ?_ _)); refine blk_put (cs := #[.int .i64 ((rd_T25 l0_1 x22_2).f0), .slice none 0 0]) ?_ 1 _ rfl; (with_reducible repeat (first | refine blk_drewN ?_ _ | refine blk_drew ?_ | refine blk_alloc ?_ _)); refine blk_put (cs := #[.int .i64 0, .slice none 0 0]) ?_ 0 _ rfl; (with_reducible repeat (first | refine blk_drewN ?_ _ | refine blk_drew ?_ | refine blk_alloc ?_ _)); exact BK308.out) hb); have n6_ := am (below_step (pb HB) hb); clear HO_5 HO_304001 BK301 BK302 BK303 BK308 HB; have HO_5 := n0_; have HO_304001 := n1_; have BK301 := n2_; have BK302 := n3_; have BK303 := n4_; have BK308 := n5_; have HB := n6_; clear n0_ n1_ n2_ n3_ n4_ n5_ n6_; (try clear hb); (try clear hb2); (try clear hk); (try clear hi)) | ((with_reducible refine gate_builtin (b := .append) (xs := #[.tmp 26, .tmp 30]) rfl ?_); at_builtin; refine Kd.R_append (Kd.int .i64) (w0 := w) w.heap.size rfl (.tmp 26) (.tmp 30) 22 3 (.int .i64 0) 8 rfl Try.underlying22 info3 rfl (by decide) (by omega) u5 x5_2 t309 [.int .i64 t309] (fun _ => True) (fun _ => False) rfl rfl ?aP (fun _ hk => hk.elim) ?aF ?aO ?aB ?aS ?aL ?_; (case aP => exact rfl); (case aB => exact (pb HB)); (case aF => exact (fun _ _ => trivial)); (case aO => exact (pr HO_5)); (case aS => exact (below_size (pb HB))); (case aL => have := LMc21.out; omega); intro v311 w28 ho hb hg hat; rw [← Ny310.out] at ho; have n0_ := am (Kd.S_over' (by (with_reducible repeat (first | apply Kd.S_alloc | apply Kd.S_drewN | apply Kd.S_drew)); exact HO_304001.out) (Kd.R_typed (pr HO_5)) (by decide) hg); have n1_ := am (blk_grown (g := gb301) (o := .cells #[.int .i64 a0_0, .slice (some ad307) l0_1.length c0_1] 42 (0, 0)) (pk BK301) hg (Kd.R_ne HO_5.out BK301.out (by decide))); have n2_ := am (blk_grown (g := gb302) (o := .cells #[.int .i64 0, .slice none 0 0] 42 (0, 0)) (pk BK302) hg (Kd.R_ne HO_5.out BK302.out (by decide))); have n3_ := am (blk_grown (g := gb303) (o := .cells #[.int .i64 (l0_1.length : Int), u304001] 42 (0, 0)) (pk BK303) hg (Kd.R_ne HO_5.out BK303.out (by decide))); have n4_ := am (blk_grown (g := gb308) (o := .cells #[.int .i64 ((rd_T25 l0_1 x22_2).f0), .slice A307_1 ((rd_T25 l0_1 x22_2).f1).length c307_1] 25 (0, 0)) (pk BK308) hg (Kd.R_ne HO_5.out BK308.out (by decide))); have n5_ := am (hb); have n6_ := am (ho); clear HO_304001 BK301 BK302 BK303 BK308 HB HO_5; have HO_304001 := n0_; have BK301 := n1_; have BK302 := n2_; have BK303 := n3_; have BK308 := n4_; have HB := n5_; have HO312 := n6_; clear n0_ n1_ n2_ n3_ n4_ n5_ n6_ ho hb hg hat))
          go_roundg k2
          case measure => have := HK1.out; have := HK2.out; omega
          case rel => exact ⟨(y310), (wrap64 (x22_2 + 1)), (by first | rfl | (simp; done) | (simp [*]; done)), H', ⟨by have := HK1.out; have := HK2.out; omega⟩, ⟨by (with_reducible repeat (first | apply Kd.R_alloc | apply Kd.R_drewN | apply Kd.R_drew)); exact HO312.out⟩, ⟨by (with_reducible repeat (first | apply Kd.S_alloc | apply Kd.S_drewN | apply Kd.S_drew)); exact Kd.S_mono HO_304001.out (fun _ hk => trivial)⟩, ⟨by (with_reducible repeat (first | refine blk_drewN ?_ _ | refine blk_drew ?_ | refine blk_alloc ?_ _)); exact BK301.out⟩, ⟨by (with_reducible repeat (first | refine blk_drewN ?_ _ | refine blk_drew ?_ | refine blk_alloc ?_ _)); exact BK302.out⟩, ⟨by (with_reducible repeat (first | refine blk_drewN ?_ _ | refine blk_drew ?_ | refine blk_alloc ?_ _)); exact BK303.out⟩, ⟨pb HB⟩⟩
         ·
          rw [if_neg c21] at H
          exact absurd H (by simp)
        ·
         rw [if_neg c19] at H
         exact absurd H (by simp)
       ·
        rw [if_neg c18] at H
        exact absurd H (by simp)
      ·
       rw [if_neg c17] at H
       have c17b0 : decide (x22_2 < (l0_1.length : Int)) = false := decide_eq_false c17
       clear c17
       replace H := Option.bind_eq_some_iff.mp H
       obtain ⟨⟨t313, t314⟩, A290, H⟩ := H
       replace H : (if x304001_1.length < 4398046511104 then (downpourref03_Turn.l0 k2 (wrap64 (x4_1 + 1)) a0_0 l0_1 (l0_1.length : Int) (x304001_1 ++ [(⟨t313, t314⟩ : S25)])) else (none)) = some (r1, r2) := H
       have A29 := Aside0.mk A290
       clear A290
       by_cases c30 : x304001_1.length < 4398046511104
       ·
        rw [if_pos c30] at H
        have LMc30 := Aside0.mk c30
        clear c30
        obtain ⟨y317, hy317⟩ : ∃ y_ : List (S25), y_ = (x304001_1 ++ [(⟨t313, t314⟩ : S25)]) := ⟨_, rfl⟩
        replace H : (downpourref03_Turn.l0 k2 (wrap64 (x4_1 + 1)) a0_0 l0_1 (l0_1.length : Int) y317) = some (r1, r2) := by first | (rw [hy317]; with_reducible exact H) | (have H2_ := (Option.bind_some _ _).symm.trans H; rw [hy317]; with_reducible exact H2_) | (have H2_ := (Option.bind_some _ _).symm.trans H; with_reducible exact H2_) | with_reducible exact H | (rw [hy317]; exact H) | exact H
        have Ny317 := Aside0.mk hy317
        clear hy317
        have H' := Aside0.mk H
        clear H
        try go_wp2
        have n0_ := am (Kd.R_drew HO_5.out)
        have n1_ := am (Kd.S_drew HO_304001.out)
        have n2_ := am (blk_drew BK301.out)
        have n3_ := am (blk_drew BK302.out)
        have n4_ := am (blk_drew BK303.out)
        have n5_ := am (below_drew1 HB.out)
        clear HO_5
        clear HO_304001
        clear BK301
        clear BK302
        clear BK303
        clear HB
        have HO_5 := n0_
        have HO_304001 := n1_
        have BK301 := n2_
        have BK302 := n3_
        have BK303 := n4_
        have HB := n5_
        clear n0_ n1_ n2_ n3_ n4_ n5_
        obtain ⟨Ao32, co32, eo32⟩ := Kd.R_slice HO_5.out
        (first | subst eo32 | (injection eo32 with f1_ f2_ f3_; have f4_ := f1_.symm; have f5_ := f3_.symm; clear f1_ f2_ f3_; subst f4_; subst f5_))
        refine start_ (n := 8) (S := fun w' => w'.cell? ⟨gb303, 0, none⟩ = some (.int .i64 (l0_1.length : Int)) ∧ w'.cell? ⟨gb303, 1, none⟩ = some (u304001)) (ds := [7]) #[F, F, F, F, F, F, F, F] (by kernel_rfl) rfl rfl ⟨(blk_cell BK303.out 0).trans rfl, (blk_cell BK303.out 1).trans rfl⟩ (fun hHeld => ?_); refine with_tabW downpourref03_Turn.tab11 downpourref03_Turn.bits11 (fun HT_ HW_ => ?_)
        generalize wr.drew = w31 at HO_5 HO_304001 BK301 BK302 BK303 HB hHeld ⊢
        refine pure_ (i := 0) (N := some 33) (v := ?_) (a' := ?_) #[T, F, F, F, F, F, F, F] rfl rfl (any_of HT_.out (by kernel_rfl)) (fun _ _ _ h => h) (Or.inl ⟨by rfl, ?_⟩) ?_ ?_
        rotate_left
        ·
         intro w'
         go_simp
         with_reducible rfl
        rotate_left
        ·
         simp only [Act.put, q1, q2, q3, i64_w, i32_w]
         rfl
        refine pure_ (i := 2) (N := some 35) (v := ?_) (a' := ?_) #[T, F, T, F, F, F, F, F] rfl rfl (any_of HT_.out (by kernel_rfl)) (fun _ _ _ h => h) (Or.inl ⟨by rfl, ?_⟩) ?_ ?_
        rotate_left
        ·
         intro w'
         go_simp
         with_reducible rfl
        rotate_left
        ·
         simp only [Act.put, q1, q2, q3, i64_w, i32_w]
         rfl
        refine take_ (i := 1) (N := some 34) (v := ?_) (a' := ?_) #[T, T, T, F, F, F, F, F] rfl rfl (take_ofW HT_.out HW_.out (by kernel_rfl)) (fun _ _ _ h => h) (Or.inl ⟨by rfl, ?_⟩) hHeld ?_ ?_
        rotate_left
        ·
         rintro w' ⟨s0, s1⟩
         go_simp
         with_reducible rfl
        rotate_left
        ·
         simp only [Act.put, q1, q2, q3, i64_w, i32_w]
         rfl
        refine one_ (i := 3) (N := some 36) #[T, T, T, T, F, F, F, F] rfl rfl (one_of HT_.out (by kernel_rfl)) (by decide) (fun K hK => ?_)
        refine goes_ Try.func109 (by kernel_rfl) rfl #[.slice Ao32 x5_2.length co32] (by rfl) rfl rfl (by (try simp only [List.map_toArray, List.map_cons, List.map_nil]); first | done | rfl | (simp only [List.length_drop, List.length_take]; rfl)) ?_
        with_reducible refine (downpourref01_From.calls k2 _ _ x5_2 t313 t314 _ ?side1 ?side2 A29.out).mono ?_
        (case side1 => repeat (first | exact (Kd.R_reads' HO_5.out).2.2 | (with_reducible refine Kd.C_alloc ?_ _) | (with_reducible refine Kd.C_drewN ?_ _) | (with_reducible refine Kd.C_drew ?_)))
        (case side2 => exact (Kd.R_reads' HO_5.out).2.1)
        rintro e w33 ⟨v315, rfl, ho0, hb⟩
        refine ⟨_, rfl, ?_⟩
        have n0_ := am (Kd.R_below (pr HO_5) hb)
        have n1_ := am (Kd.S_elder' (by (with_reducible repeat (first | apply Kd.S_alloc | apply Kd.S_drewN | apply Kd.S_drew)); exact HO_304001.out) (Kd.R_base ho0) hb)
        have n2_ := am (Kd.R_lower ho0 (below_size (pb HB)))
        have n3_ := bb BK301 hb
        have n4_ := bb BK302 hb
        have n5_ := bb BK303 hb
        have n6_ := am (below_step (pb HB) hb)
        clear HO_5
        clear HO_304001
        clear BK301
        clear BK302
        clear BK303
        clear HB
        have HO_5 := n0_
        have HO_304001 := n1_
        have HO316 := n2_
        have BK301 := n3_
        have BK302 := n4_
        have BK303 := n5_
        have HB := n6_
        clear n0_ n1_ n2_ n3_ n4_ n5_ n6_
        (try clear hb)
        (try clear hb2)
        (try clear hk)
        (try clear hi)
        (try clear ho0)
        obtain ⟨Ao35, co35, eo35⟩ := Kd.R_slice HO316.out
        (first | subst eo35 | (injection eo35 with f1_ f2_ f3_; have f4_ := f1_.symm; have f5_ := f3_.symm; clear f1_ f2_ f3_; subst f4_; subst f5_))
        refine hK.out _ _ ⟨(blk_cell BK303.out 0).trans rfl, (blk_cell BK303.out 1).trans rfl⟩ (fun hHeld => ?_)
        clear hK K
        refine norm_ (a' := ?_) ?_ ?_
        rotate_left
        ·
         show Act.put _ (some 36) _ = _
         simp only [Act.put, q1, q2, q3, i64_w, i32_w]
         rfl
        refine one_ (i := 4) (N := some 37) #[T, T, T, T, T, F, F, F] rfl rfl (one_of HT_.out (by kernel_rfl)) (by decide) (fun K hK => ?_)
        refine value_ (w1 := ?_) (v := ?_) (by rfl) rfl ?_ ?_
        rotate_left 2
        ·
         go_simp
         constructor
         ·
          rfl
         ·
          rfl
        refine hK.out _ _ ⟨(blk_cell (blk_alloc BK303.out _) 0).trans rfl, (blk_cell (blk_alloc BK303.out _) 1).trans rfl⟩ (fun hHeld => ?_)
        clear hK K
        refine norm_ (a' := ?_) ?_ ?_
        rotate_left
        ·
         show Act.put _ (some 37) _ = _
         simp only [Act.put, q1, q2, q3, i64_w, i32_w]
         rfl
        refine one_ (i := 5) (N := some 38) #[T, T, T, T, T, T, F, F] rfl rfl (one_of HT_.out (by kernel_rfl)) (by decide) (fun K hK => ?_)
        refine Kd.S_append_step k25 (w0 := w) w.heap.size (by rfl) (.tmp 34) (.tmp 37) 40 25 (.agg #[(.int .i64 0), (.slice none 0 0)]) 32 rfl Try.underlying40 info25 rfl (by decide) (by omega) u304001 x304001_1 (⟨t313, t314⟩ : S25) [.int .i64 t313, .slice Ao35 t314.length co35] (fun _ => True) (fun k_ => some k_ = (.slice Ao35 t314.length co35 : Value).ownBlock) rfl rfl ?aP (fun k_ hk_ => ((Kd.R_mono (ok' := fun k_ => ((fun _ => True)) k_ ∧ some k_ ≠ (u304001 : Value).ownBlock) (Kd.R_apart' (HO316.out) (Kd.S_typed HO_304001.out) (by decide)) (fun k_ hk => ⟨trivial, hk.2⟩))).1 k_ hk_.symm) ?aF ?aO ?aB ?aS ?aL ?_
        (case aP => exact k25_mkM _ _ _ (⟨t313, t314⟩ : S25) (Kd.R_mono (Kd.R_tight rfl (Kd.R_mono (ok' := fun k_ => ((fun _ => True)) k_ ∧ some k_ ≠ (u304001 : Value).ownBlock) (Kd.R_apart' (HO316.out) (Kd.S_typed HO_304001.out) (by decide)) (fun k_ hk => ⟨trivial, hk.2⟩))) (fun _ h_ => h_)))
        (case aB => exact (pb HB))
        (case aF => exact (fun _ _ => trivial))
        (case aO => exact (by (with_reducible repeat (first | apply Kd.S_alloc | apply Kd.S_drewN | apply Kd.S_drew)); exact Kd.S_mono HO_304001.out (fun k_ hk => ⟨trivial, fun e_ => hk.2 e_⟩)))
        (case aS => exact (below_size (pb HB)))
        (case aL => have := LMc30.out; omega)
        intro v318 w34 ho hb hg hat
        rw [← Ny317.out] at ho
        have n0_ := am (Kd.R_over' (pr HO_5) (Kd.S_typed (by (with_reducible repeat (first | apply Kd.S_alloc | apply Kd.S_drewN | apply Kd.S_drew)); exact HO_304001.out)) (by decide) hg)
        have n1_ := am (blk_grown (g := gb301) (o := .cells #[.int .i64 a0_0, .slice A0_1 l0_1.length c0_1] 42 (0, 0)) (pk BK301) hg (Kd.S_ne HO_304001.out BK301.out (by decide)))
        have n2_ := am (blk_grown (g := gb302) (o := .cells #[.int .i64 0, .slice none 0 0] 42 (0, 0)) (pk BK302) hg (Kd.S_ne HO_304001.out BK302.out (by decide)))
        have n3_ := am (blk_grown (g := gb303) (o := .cells #[.int .i64 (l0_1.length : Int), u304001] 42 (0, 0)) (pk BK303) hg (Kd.S_ne HO_304001.out BK303.out (by decide)))
        have n4_ := am (hb)
        have n5_ := am (ho)
        clear HO_5
        clear BK301
        clear BK302
        clear BK303
        clear HB
        clear HO_304001
        clear HO316
        have HO_5 := n0_
        have BK301 := n1_
        have BK302 := n2_
        have BK303 := n3_
        have HB := n4_
        have HO319 := n5_
        clear n0_ n1_ n2_ n3_ n4_ n5_
        clear ho hb hg hat
        obtain ⟨Ao36, co36, eo36⟩ := Kd.S_slice HO319.out
        (first | subst eo36 | (injection eo36 with f1_ f2_ f3_; have f4_ := f1_.symm; have f5_ := f3_.symm; clear f1_ f2_ f3_; subst f4_; subst f5_))
        refine hK.out _ _ ⟨(blk_cell BK303.out 0).trans rfl, (blk_cell BK303.out 1).trans rfl⟩ (fun hHeld => ?_)
        clear hK K
        refine norm_ (a' := ?_) ?_ ?_
        rotate_left
        ·
         show Act.put _ (some 38) _ = _
         simp only [Act.put, q1, q2, q3, i64_w, i32_w]
         rfl
        refine pure_ (i := 6) (N := some 39) (v := ?_) (a' := ?_) #[T, T, T, T, T, T, T, F] rfl rfl (any_of HT_.out (by kernel_rfl)) (fun _ _ _ h => h) (Or.inl ⟨by rfl, ?_⟩) ?_ ?_
        rotate_left
        ·
         intro w'
         go_simp
         with_reducible rfl
        rotate_left
        ·
         simp only [Act.put, q1, q2, q3, i64_w, i32_w]
         rfl
        refine last_ (i := 7) (N := none) #[T, T, T, T, T, T, T, T] rfl rfl (one_of HT_.out (by kernel_rfl)) (by decide) (fun K hK => ?_)
        have hs37 : w34.cell? ⟨gb303, 1, none⟩ = some (u304001) := (blk_cell BK303.out 1).trans rfl
        have hfs37 := blk_frozen BK303.out 1
        have hns37_0 := NB301_303.out
        have hns37_1 := NB302_303.out
        have hms37_0 := NB303_301.out
        have hms37_1 := NB303_302.out
        refine skip_ (w1 := ?_) (by rfl) rfl ?_ ?_
        rotate_left
        ·
         go_simp
         rfl
        refine hK.out _ _ ?_
        clear hK K
        refine done_ (done_of HT_.out (by kernel_rfl)) ?_
        try go_wp2
        go_roundg k2
        case measure => have := HK1.out; have := HK2.out; omega
        case rel => exact ⟨(wrap64 (x4_1 + 1)), (y317), (.slice Ao36 y317.length co36), (by first | rfl | (simp; done) | (simp [*]; done)), H', ⟨by have := HK1.out; have := HK2.out; omega⟩, ⟨by (with_reducible repeat (first | apply Kd.S_alloc | apply Kd.S_drewN | apply Kd.S_drew)); exact Kd.S_mono (Kd.S_far (p := ⟨gb303, 1, none⟩) (Kd.S_types HO319.out BK303.out (by decide)) (fun _ hk => hk.2) (.slice Ao36 y317.length co36)) (fun _ hk => trivial)⟩, ⟨by (with_reducible repeat (first | refine blk_drewN ?_ _ | refine blk_drew ?_ | refine blk_alloc ?_ _)); refine blk_far ?_ NB301_303.out _; (with_reducible repeat (first | refine blk_drewN ?_ _ | refine blk_drew ?_ | refine blk_alloc ?_ _)); exact BK301.out⟩, ⟨by (with_reducible repeat (first | refine blk_drewN ?_ _ | refine blk_drew ?_ | refine blk_alloc ?_ _)); refine blk_far ?_ NB302_303.out _; (with_reducible repeat (first | refine blk_drewN ?_ _ | refine blk_drew ?_ | refine blk_alloc ?_ _)); exact BK302.out⟩, ⟨by (with_reducible repeat (first | refine blk_drewN ?_ _ | refine blk_drew ?_ | refine blk_alloc ?_ _)); refine blk_put (cs := #[.int .i64 (l0_1.length : Int), u304001]) ?_ 1 _ rfl; (with_reducible repeat (first | refine blk_drewN ?_ _ | refine blk_drew ?_ | refine blk_alloc ?_ _)); exact BK303.out⟩, ⟨pb HB⟩⟩
       ·
        rw [if_neg c30] at H
        exact absurd H (by simp)
   ·
    rw [if_neg c10] at H
    have c10b0 : decide (x4_1 < a0_0) = false := decide_eq_false c10
    clear c10
    simp only [Option.some.injEq, Prod.mk.injEq] at H
    obtain ⟨rfl, rfl⟩ := H
    have hnb38 := NB301_302.out
    have hnc38 := NB302_301.out
    have hnb39 := NB301_303.out
    have hnc39 := NB303_301.out
    have hcz40_0 : wr.cell? ⟨gb301, 0, none⟩ = some (.int .i64 a0_0) := (blk_cell BK301.out 0).trans rfl
    have hcz40_1 : wr.cell? ⟨gb301, 1, none⟩ = some (.slice A0_1 l0_1.length c0_1) := (blk_cell BK301.out 1).trans rfl
    have hfz40_0 := blk_frozen BK301.out 0
    have hfz40_1 := blk_frozen BK301.out 1
    have hnb41 := NB303_302.out
    have hnc41 := NB302_303.out
    have hcz42_0 : wr.cell? ⟨gb303, 0, none⟩ = some (.int .i64 (l0_1.length : Int)) := (blk_cell BK303.out 0).trans rfl
    have hcz42_1 : wr.cell? ⟨gb303, 1, none⟩ = some (u304001) := (blk_cell BK303.out 1).trans rfl
    have hfz42_0 := blk_frozen BK303.out 0
    have hfz42_1 := blk_frozen BK303.out 1
    have hcz43_0 : wr.cell? ⟨gb302, 0, none⟩ = some (.int .i64 0) := (blk_cell BK302.out 0).trans rfl
    have hcz43_1 : wr.cell? ⟨gb302, 1, none⟩ = some (.slice none 0 0) := (blk_cell BK302.out 1).trans rfl
    have hfz43_0 := blk_frozen BK302.out 0
    have hfz43_1 := blk_frozen BK302.out 1
    obtain ⟨Ao44, co44, eo44⟩ := Kd.S_slice HO_304001.out
    subst eo44
    go_wp2
    refine bodyPost_ret (results_cell_row rfl _ _ gb302 42 #[.int .i64 (l0_1.length : Int), .slice Ao44 x304001_1.length co44] (0, 0) _ rfl (by (with_reducible repeat (first | refine blk_drewN ?_ _ | refine blk_drew ?_ | refine blk_alloc ?_ _)); refine blk_put (cs := #[.int .i64 (l0_1.length : Int), .slice none 0 0]) ?_ 1 _ rfl; (with_reducible repeat (first | refine blk_drewN ?_ _ | refine blk_drew ?_ | refine blk_alloc ?_ _)); refine blk_put (cs := #[.int .i64 0, .slice none 0 0]) ?_ 0 _ rfl; (with_reducible repeat (first | refine blk_drewN ?_ _ | refine blk_drew ?_ | refine blk_alloc ?_ _)); exact BK302.out) Try.underlying42 rfl (by kernel_rfl)) rfl ?_
    exact ⟨_, by first | rfl | (simp [errW_none, errW_some] <;> rfl) | (simp [*, errW_none, errW_some] <;> rfl), by (with_reducible repeat (first | apply Kd.S_alloc | apply Kd.S_drewN | apply Kd.S_drew)); exact Kd.S_mono (Kd.S_far (p := ⟨gb302, 1, none⟩) (Kd.S_far (p := ⟨gb302, 0, none⟩) (Kd.S_types HO_304001.out BK302.out (by decide)) (fun _ hk => hk.2) (.int .i64 (l0_1.length : Int))) (fun _ hk => hk.2) (.slice Ao44 x304001_1.length co44)) (fun _ hk => trivial), pb HB⟩

end Go.Proofs.Ytfdcjkhckjnaeaa.PD
