-- PRINTED by print.py (a twelfth state) out of the translation. Not trusted: Lean checks it.
import Derived.Test.YtfcedhejbnoinaaDoorPMx0
import Derived.Test.YtfcedhejbnoinaaDoorPMx1
import Derived.Test.YtfcedhejbnoinaaDoorPMx5
import Derived.Test.YtfcedhejbnoinaaDoorPMx6
namespace Go.Proofs.YtfcedhejbnoinaaDoor.PM
open Go.RowKit Go.Proofs.YtfcedhejbnoinaaDoorW.PrintWords Go.Proofs.YtfcedhejbnoinaaDoorW.PrintLast Go.Proofs.YtfcedhejbnoinaaDoorW.PrintMore
open Bool renaming true → T, false → F
open List renaming setIfInBounds_toArray → q1, set_cons_zero → q2, set_cons_succ → q3
attribute [local go_sem] run_store_func max2_int min2_int max_two min_two max_three min_three max_four min_four   -- for this text's walks alone
set_option linter.unusedVariables false
set_option linter.unusedSimpArgs false

/-! ### matrix_One: function 45 -/
def matrix_One.f (k : Nat) (a0 : Int) : Option (Int × (List (S25)) × Int) := (matrix_sized.f a0).bind fun t280 => (if t280 = true then ((matrix_numbers.f k a0).bind fun t281 => ((matrix_each_int_81.f k a0 t281 a0).bind fun bt284 => (some (bt284.1, bt284.2, 0)))) else (some (0, ([] : List (S25)), 2)))
theorem matrix_One.mono : ∀ a0 k, LeO (matrix_One.f k a0) (matrix_One.f (k + 1) a0) := by
 intro a0 k
 unfold matrix_One.f
 repeat' first
   | (with_reducible exact matrix_each_int_81.mono _ _ _ _)
   | (with_reducible exact matrix_numbers.mono _ _)
   | (with_reducible exact LeO.refl _)
   | (with_reducible exact LeO.none _)
   | (with_reducible refine LeO.ite ?_ ?_)
   | (with_reducible refine LeO.bind ?_ (fun _ => ?_))
   | exact matrix_each_int_81.mono _ _ _ _
   | exact matrix_numbers.mono _ _
   | exact LeO.none _
   | refine LeO.ite ?_ ?_
   | refine LeO.bind ?_ (fun _ => ?_)
set_option maxHeartbeats 8000000 in
set_option maxRecDepth 100000 in
theorem matrix_One.calls (k : Nat) (a0 : Int) (r1 : Int) (r2 : List (S25)) (r3 : Int) (w : World) (h : matrix_One.f k a0 = some (r1, r2, r3)) :
  Calls Tryd.prog 45 #[.int .i64 a0] w fun e w' => ∃ v1_ : Value, e = .returned (.tuple #[.agg #[.int .i64 r1, v1_], .int .i64 r3]) ∧ Kd.S k25 25 w' w.heap.size (fun _ => True) v1_ r2 ∧ Below w.heap.size w w' := by
 have hu55 := Tryd.underlying55
 have HB := am (Below.refl w.heap.size w)
 have H : ((matrix_sized.f a0).bind fun t280 => (if t280 = true then ((matrix_numbers.f k a0).bind fun t281 => ((matrix_each_int_81.f k a0 t281 a0).bind fun bt284 => (some (bt284.1, bt284.2, 0)))) else (some (0, ([] : List (S25)), 2)))) = some (r1, r2, r3) := h
 clear h
 replace H := Option.bind_eq_some_iff.mp H
 obtain ⟨t280, A20, H⟩ := H
 replace H : (if t280 = true then ((matrix_numbers.f k a0).bind fun t281 => ((matrix_each_int_81.f k a0 t281 a0).bind fun bt284 => (some (bt284.1, bt284.2, 0)))) else (some (0, ([] : List (S25)), 2))) = some (r1, r2, r3) := H
 have A2 := Aside0.mk A20
 clear A20
 by_cases c3 : t280 = true
 ·
  subst c3
  have H1 : ((matrix_numbers.f k a0).bind fun t281 => ((matrix_each_int_81.f k a0 t281 a0).bind fun bt284 => (some (bt284.1, bt284.2, 0)))) = some (r1, r2, r3) := by rw [if_pos rfl] at H; exact H
  clear H
  have H := H1
  clear H1
  replace H := Option.bind_eq_some_iff.mp H
  obtain ⟨t281, A40, H⟩ := H
  replace H : ((matrix_each_int_81.f k a0 t281 a0).bind fun bt284 => (some (bt284.1, bt284.2, 0))) = some (r1, r2, r3) := H
  have A4 := Aside0.mk A40
  clear A40
  replace H := Option.bind_eq_some_iff.mp H
  obtain ⟨⟨t284, t285⟩, A50, H⟩ := H
  replace H : (some (t284, t285, 0)) = some (r1, r2, r3) := H
  have A5 := Aside0.mk A50
  clear A50
  simp only [Option.some.injEq, Prod.mk.injEq] at H
  obtain ⟨rfl, rfl, rfl⟩ := H
  go_enter Tryd.func45, Tryd.ntmps45
  try go_wp2_with (first | ((with_reducible refine gate_dst (N := 1) rfl ?_); refine box_event ?hg (N := 1) ?hd (cs := #[.int .i64 a0]) (t := 3) ?hr ?_; (case hd => rfl); (case hg => rfl); (case hr => first | (go_simp; done) | (go_simp; rfl)); intro gb278 hg w6 hbox hb; have n0_ := am (below_step (pb HB) hb); have n1_ := am (hbox); have n2_ := am ((by rw [hg]; exact (below_size (pb HB)) : w.heap.size ≤ gb278)); have n3_ := am ((by rw [hg]; exact (below_size (pb HB)) : w.heap.size ≤ gb278)); clear HB; have HB := n0_; have BK278 := n1_; have GW278 := n2_; have GE278 := n3_; clear n0_ n1_ n2_ n3_ hb hbox hg) | ((with_reducible refine gate_dst (N := 2) rfl ?_); refine box_event ?hg (N := 2) ?hd (cs := #[.int .i64 0, .slice none 0 0]) (t := 55) ?hr ?_; (case hd => rfl); (case hg => rfl); (case hr => first | (go_simp; done) | (go_simp; rfl)); intro gb279 hg w7 hbox hb; have n0_ := bb BK278 hb; have n1_ := am (below_step (pb HB) hb); have n2_ := am (hbox); have n3_ := am ((by rw [hg]; exact (below_size (pb HB)) : w.heap.size ≤ gb279)); have n4_ := am ((by rw [hg]; exact (below_size (pb HB)) : w.heap.size ≤ gb279)); have n5_ := am ((by rw [hg]; exact Nat.ne_of_lt (bl BK278) : gb278 ≠ gb279)); have n6_ := am ((by rw [hg]; exact Nat.ne_of_gt (bl BK278) : gb279 ≠ gb278)); clear BK278 HB; have BK278 := n0_; have HB := n1_; have BK279 := n2_; have GW279 := n3_; have GE279 := n4_; have NB278_279 := n5_; have NB279_278 := n6_; clear n0_ n1_ n2_ n3_ n4_ n5_ n6_ hb hbox hg; have hnb8 := NB278_279.out; have hnc8 := NB279_278.out; have hcz9_0 : w7.cell? ⟨gb278, 0, none⟩ = some (.int .i64 a0) := (blk_cell BK278.out 0).trans rfl; have hfz9_0 := blk_frozen BK278.out 0) | ((with_reducible refine gate_callee (f := 80) rfl ?_); refine goesL_ (some 5) rfl rfl Tryd.func80 (by kernel_rfl) rfl #[.int .i64 a0] rfl (by (try simp only [List.map_toArray, List.map_cons, List.map_nil]); first | done | rfl | (simp only [List.length_drop, List.length_take]; rfl)) ?_; (with_reducible refine (matrix_sized.calls a0 true _ A2.out).mono ?_); rintro e w' ⟨rfl, ⟨nd, rfl⟩⟩; refine ⟨_, rfl, ?_⟩; (try (rw [drewN_self w7]; generalize hq_ : World.drewN w7 _ = w7; have n0_ : Aside0 (w7.heap[gb278]? = some (.cells #[.int .i64 a0] 3 (0, 0))) := ⟨by rw [← hq_]; exact (pk BK278)⟩; have n1_ : Aside0 (w7.heap[gb279]? = some (.cells #[.int .i64 0, .slice none 0 0] 55 (0, 0))) := ⟨by rw [← hq_]; exact (pk BK279)⟩; have n2_ : Aside0 (Below w.heap.size w w7) := ⟨by rw [← hq_]; exact (pb HB)⟩; clear BK278 BK279 HB hq_; have BK278 := n0_; have BK279 := n1_; have HB := n2_; clear n0_ n1_ n2_))))
  have n0_ := am (blk_drew BK278.out)
  have n1_ := am (blk_drew BK279.out)
  have n2_ := am (below_drew1 HB.out)
  clear BK278
  clear BK279
  clear HB
  have BK278 := n0_
  have BK279 := n1_
  have HB := n2_
  clear n0_ n1_ n2_
  refine start_ (n := 7) (S := fun w' => w'.cell? ⟨gb278, 0, none⟩ = some (.int .i64 a0)) (ds := []) #[F, F, F, F, F, F, F] (by kernel_rfl) rfl rfl ((blk_cell BK278.out 0).trans rfl) (fun hHeld => ?_)
  generalize w7.drew = w10 at BK278 BK279 HB hHeld ⊢
  refine pure_ (i := 3) (N := some 11) (v := ?_) (a' := ?_) #[F, F, F, T, F, F, F] rfl rfl (by kernel_rfl) (fun _ _ _ h => h) (Or.inl ⟨by rfl, ?_⟩) ?_ ?_
  rotate_left
  ·
   intro w'
   go_simp
   with_reducible rfl
  rotate_left
  ·
   simp only [Act.put, q1, q2, q3, i64_w, i32_w]
   rfl
  refine take_ (i := 0) (N := some 8) (v := ?_) (a' := ?_) #[T, F, F, T, F, F, F] rfl rfl (by kernel_rfl) (fun _ _ _ h => h) (Or.inl ⟨by rfl, ?_⟩) hHeld ?_ ?_
  rotate_left
  ·
   intro w' s0
   go_simp
   with_reducible rfl
  rotate_left
  ·
   simp only [Act.put, q1, q2, q3, i64_w, i32_w]
   rfl
  refine take_ (i := 1) (N := some 9) (v := ?_) (a' := ?_) #[T, T, F, T, F, F, F] rfl rfl (by kernel_rfl) (fun _ _ _ h => h) (Or.inl ⟨by rfl, ?_⟩) hHeld ?_ ?_
  rotate_left
  ·
   intro w' s0
   go_simp
   with_reducible rfl
  rotate_left
  ·
   simp only [Act.put, q1, q2, q3, i64_w, i32_w]
   rfl
  refine one_ (i := 2) (N := some 10) #[T, T, T, T, F, F, F] rfl rfl (by kernel_rfl) (by decide) (fun K hK => ?_)
  refine goes_ Tryd.func78 (by kernel_rfl) rfl #[.int .i64 a0] (by rfl) rfl rfl (by (try simp only [List.map_toArray, List.map_cons, List.map_nil]); first | done | rfl | (simp only [List.length_drop, List.length_take]; rfl)) ?_
  with_reducible refine (matrix_numbers.calls k a0 t281 _ A4.out).mono ?_
  rintro e w11 ⟨v282, rfl, ho0, hb⟩
  refine ⟨_, rfl, ?_⟩
  have n0_ := am (Kd.R_lower (Kd.R_newB ho0 (g := gb278) (o := .cells #[.int .i64 a0] 3 (0, 0)) (pk BK278)) (below_size (pb HB)))
  have n1_ := bb BK278 hb
  have n2_ := bb BK279 hb
  have n3_ := am (below_step (pb HB) hb)
  clear BK278
  clear BK279
  clear HB
  have HO283 := n0_
  have BK278 := n1_
  have BK279 := n2_
  have HB := n3_
  clear n0_ n1_ n2_ n3_
  (try clear hb)
  (try clear hb2)
  (try clear hk)
  (try clear hi)
  (try clear ho0)
  obtain ⟨Ao12, co12, eo12⟩ := Kd.R_slice HO283.out
  (first | subst eo12 | (injection eo12 with f1_ f2_ f3_; have f4_ := f1_.symm; have f5_ := f3_.symm; clear f1_ f2_ f3_; subst f4_; subst f5_))
  refine hK.out _ _ ((blk_cell BK278.out 0).trans rfl) (fun hHeld => ?_)
  clear hK K
  refine norm_ (a' := ?_) ?_ ?_
  rotate_left
  ·
   show Act.put _ (some 10) _ = _
   simp only [Act.put, q1, q2, q3, i64_w, i32_w]
   rfl
  refine one_ (i := 4) (N := some 12) #[T, T, T, T, T, F, F] rfl rfl (by kernel_rfl) (by decide) (fun K hK => ?_)
  refine goes_ Tryd.func77 (by kernel_rfl) rfl #[.int .i64 a0, .slice Ao12 t281.length co12, (.func (.func 81) #[] #[.pointer (some ⟨gb278, 0, none⟩)])] (by rfl) rfl rfl (by (try simp only [List.map_toArray, List.map_cons, List.map_nil]); first | done | rfl | (simp only [List.length_drop, List.length_take]; rfl)) ?_
  with_reducible refine (matrix_each_int_81.calls k a0 _ _ t281  gb278 a0 t284 t285 _ ?side1 ?side2 ?side3 A5.out).mono ?_
  (case side1 => repeat (first | exact (Kd.R_reads' HO283.out).2.2 | (with_reducible refine Kd.C_alloc ?_ _) | (with_reducible refine Kd.C_drewN ?_ _) | (with_reducible refine Kd.C_drew ?_)))
  (case side2 => exact (Kd.R_reads' HO283.out).2.1)
  (case side3 => (with_reducible repeat (first | refine blk_drewN ?_ _ | refine blk_drew ?_ | refine blk_alloc ?_ _)); exact BK278.out)
  rintro e w13 ⟨v286, rfl, ho0, hb⟩
  refine ⟨_, rfl, ?_⟩
  have n0_ := am (Kd.R_below (pr HO283) hb)
  have n1_ := am (Kd.S_lower ho0 (below_size (pb HB)))
  have n2_ := bb BK278 hb
  have n3_ := bb BK279 hb
  have n4_ := am (below_step (pb HB) hb)
  clear HO283
  clear BK278
  clear BK279
  clear HB
  have HO283 := n0_
  have HO287 := n1_
  have BK278 := n2_
  have BK279 := n3_
  have HB := n4_
  clear n0_ n1_ n2_ n3_ n4_
  (try clear hb)
  (try clear hb2)
  (try clear hk)
  (try clear hi)
  (try clear ho0)
  obtain ⟨Ao15, co15, eo15⟩ := Kd.S_slice HO287.out
  (first | subst eo15 | (injection eo15 with f1_ f2_ f3_; have f4_ := f1_.symm; have f5_ := f3_.symm; clear f1_ f2_ f3_; subst f4_; subst f5_))
  refine hK.out _ _ ((blk_cell BK278.out 0).trans rfl) (fun hHeld => ?_)
  clear hK K
  refine norm_ (a' := ?_) ?_ ?_
  rotate_left
  ·
   show Act.put _ (some 12) _ = _
   simp only [Act.put, q1, q2, q3, i64_w, i32_w]
   rfl
  refine one_ (i := 5) (N := none) #[T, T, T, T, T, T, F] rfl rfl (by kernel_rfl) (by decide) (fun K hK => ?_)
  have hs14 : w13.cell? ⟨gb279, 0, none⟩ = some (.int .i64 0) := (blk_cell BK279.out 0).trans rfl
  have hfs14 := blk_frozen BK279.out 0
  have hns14_0 := NB278_279.out
  have hms14_0 := NB279_278.out
  have hs16 : w13.cell? ⟨gb279, 1, none⟩ = some (.slice none 0 0) := (blk_cell BK279.out 1).trans rfl
  have hfs16 := blk_frozen BK279.out 1
  have hns16_0 := NB278_279.out
  have hms16_0 := NB279_278.out
  refine skip_ (w1 := ?_) (by rfl) rfl ?_ ?_
  rotate_left
  ·
   go_simp
   rfl
  refine hK.out _ _ (((cell_far (p := ⟨gb279, _, none⟩) NB278_279.out _).trans (((cell_far (p := ⟨gb279, _, none⟩) NB278_279.out _).trans (hHeld))))) (fun hHeld => ?_)
  clear hK K
  refine pure_ (i := 6) (N := some 3) (v := ?_) (a' := ?_) #[T, T, T, T, T, T, T] rfl rfl (by kernel_rfl) (fun _ _ _ h => h) (Or.inl ⟨by rfl, ?_⟩) ?_ ?_
  rotate_left
  ·
   intro w'
   go_simp
   with_reducible rfl
  rotate_left
  ·
   simp only [Act.put, q1, q2, q3, i64_w, i32_w]
   rfl
  refine done_ (by kernel_rfl) ?_
  try go_wp2
  refine bodyPost_ret (results_ct rfl _ _ gb279 55 #[.int .i64 t284, .slice Ao15 t285.length co15] (0, 0) _ rfl (by (with_reducible repeat (first | refine blk_drewN ?_ _ | refine blk_drew ?_ | refine blk_alloc ?_ _)); refine blk_put (cs := #[.int .i64 t284, .slice none 0 0]) ?_ 1 _ rfl; (with_reducible repeat (first | refine blk_drewN ?_ _ | refine blk_drew ?_ | refine blk_alloc ?_ _)); refine blk_put (cs := #[.int .i64 0, .slice none 0 0]) ?_ 0 _ rfl; (with_reducible repeat (first | refine blk_drewN ?_ _ | refine blk_drew ?_ | refine blk_alloc ?_ _)); exact BK279.out) Tryd.underlying55 rfl (by kernel_rfl)) rfl ?_
  exact ⟨_, by first | rfl | (simp [errW_none, errW_some] <;> rfl) | (simp [*, errW_none, errW_some] <;> rfl), by (with_reducible repeat (first | apply Kd.S_alloc | apply Kd.S_drewN | apply Kd.S_drew)); exact Kd.S_mono (Kd.S_far (p := ⟨gb279, 1, none⟩) (Kd.S_far (p := ⟨gb279, 0, none⟩) (Kd.S_types HO287.out BK279.out (by decide)) (fun _ hk => hk.2) (.int .i64 t284)) (fun _ hk => hk.2) (.slice Ao15 t285.length co15)) (fun _ hk => trivial), pb HB⟩
 ·
  replace c3 := Bool.eq_false_iff.mpr c3
  subst c3
  have H1 : (some (0, ([] : List (S25)), 2)) = some (r1, r2, r3) := by rw [if_neg (show ¬ (false = true) by decide)] at H; exact H
  clear H
  have H := H1
  clear H1
  simp only [Option.some.injEq, Prod.mk.injEq] at H
  obtain ⟨rfl, rfl, rfl⟩ := H
  go_enter Tryd.func45, Tryd.ntmps45
  go_wp2_with (first | ((with_reducible refine gate_dst (N := 1) rfl ?_); refine box_event ?hg (N := 1) ?hd (cs := #[.int .i64 a0]) (t := 3) ?hr ?_; (case hd => rfl); (case hg => rfl); (case hr => first | (go_simp; done) | (go_simp; rfl)); intro gb278 hg w17 hbox hb; have n0_ := am (below_step (pb HB) hb); have n1_ := am (hbox); have n2_ := am ((by rw [hg]; exact (below_size (pb HB)) : w.heap.size ≤ gb278)); have n3_ := am ((by rw [hg]; exact (below_size (pb HB)) : w.heap.size ≤ gb278)); clear HB; have HB := n0_; have BK278 := n1_; have GW278 := n2_; have GE278 := n3_; clear n0_ n1_ n2_ n3_ hb hbox hg) | ((with_reducible refine gate_dst (N := 2) rfl ?_); refine box_event ?hg (N := 2) ?hd (cs := #[.int .i64 0, .slice none 0 0]) (t := 55) ?hr ?_; (case hd => rfl); (case hg => rfl); (case hr => first | (go_simp; done) | (go_simp; rfl)); intro gb279 hg w18 hbox hb; have n0_ := bb BK278 hb; have n1_ := am (below_step (pb HB) hb); have n2_ := am (hbox); have n3_ := am ((by rw [hg]; exact (below_size (pb HB)) : w.heap.size ≤ gb279)); have n4_ := am ((by rw [hg]; exact (below_size (pb HB)) : w.heap.size ≤ gb279)); have n5_ := am ((by rw [hg]; exact Nat.ne_of_lt (bl BK278) : gb278 ≠ gb279)); have n6_ := am ((by rw [hg]; exact Nat.ne_of_gt (bl BK278) : gb279 ≠ gb278)); clear BK278 HB; have BK278 := n0_; have HB := n1_; have BK279 := n2_; have GW279 := n3_; have GE279 := n4_; have NB278_279 := n5_; have NB279_278 := n6_; clear n0_ n1_ n2_ n3_ n4_ n5_ n6_ hb hbox hg; have hnb19 := NB278_279.out; have hnc19 := NB279_278.out; have hcz20_0 : w18.cell? ⟨gb278, 0, none⟩ = some (.int .i64 a0) := (blk_cell BK278.out 0).trans rfl; have hfz20_0 := blk_frozen BK278.out 0) | ((with_reducible refine gate_callee (f := 80) rfl ?_); refine goesL_ (some 5) rfl rfl Tryd.func80 (by kernel_rfl) rfl #[.int .i64 a0] rfl (by (try simp only [List.map_toArray, List.map_cons, List.map_nil]); first | done | rfl | (simp only [List.length_drop, List.length_take]; rfl)) ?_; (with_reducible refine (matrix_sized.calls a0 false _ A2.out).mono ?_); rintro e w' ⟨rfl, ⟨nd, rfl⟩⟩; refine ⟨_, rfl, ?_⟩; (try (rw [drewN_self w18]; generalize hq_ : World.drewN w18 _ = w18; have n0_ : Aside0 (w18.heap[gb278]? = some (.cells #[.int .i64 a0] 3 (0, 0))) := ⟨by rw [← hq_]; exact (pk BK278)⟩; have n1_ : Aside0 (w18.heap[gb279]? = some (.cells #[.int .i64 0, .slice none 0 0] 55 (0, 0))) := ⟨by rw [← hq_]; exact (pk BK279)⟩; have n2_ : Aside0 (Below w.heap.size w w18) := ⟨by rw [← hq_]; exact (pb HB)⟩; clear BK278 BK279 HB hq_; have BK278 := n0_; have BK279 := n1_; have HB := n2_; clear n0_ n1_ n2_)); have hcz21_0 : w18.cell? ⟨gb279, 0, none⟩ = some (.int .i64 0) := (blk_cell BK279.out 0).trans rfl; have hcz21_1 : w18.cell? ⟨gb279, 1, none⟩ = some (.slice none 0 0) := (blk_cell BK279.out 1).trans rfl; have hfz21_0 := blk_frozen BK279.out 0; have hfz21_1 := blk_frozen BK279.out 1))
  refine bodyPost_ret (results_ct rfl _ _ gb279 55 #[.int .i64 0, .slice none 0 0] (0, 0) _ rfl (by (with_reducible repeat (first | refine blk_drewN ?_ _ | refine blk_drew ?_ | refine blk_alloc ?_ _)); refine blk_put (cs := #[.int .i64 0, .slice none 0 0]) ?_ 1 _ rfl; (with_reducible repeat (first | refine blk_drewN ?_ _ | refine blk_drew ?_ | refine blk_alloc ?_ _)); refine blk_put (cs := #[.int .i64 0, .slice none 0 0]) ?_ 0 _ rfl; (with_reducible repeat (first | refine blk_drewN ?_ _ | refine blk_drew ?_ | refine blk_alloc ?_ _)); exact BK279.out) Tryd.underlying55 rfl (by kernel_rfl)) rfl ?_
  exact ⟨_, by first | rfl | (simp [errW_none, errW_some] <;> rfl) | (simp [*, errW_none, errW_some] <;> rfl), by first | exact Kd.S_nil _ _ _ _ _ | exact Kd.N_nil _ _ _ _ _ | exact Kd.V_nil _ _ _ _ _ | exact Kd.Q_nil _ _ _ _ _ | exact Kd.R_nil _ _ _ _ _, pb HB⟩

/-! ### downpourlaw03_alive: function 38 -/
def downpourlaw03_alive.f (k : Nat)  : Option (Bool) := (matrix_One.f k 3).bind fun bt288 => (if bt288.2.2 = 0 then (if bt288.1 = 3 then (some ((bt288.2.1.length : Int) == 3)) else (some false)) else (some false))
theorem downpourlaw03_alive.mono : ∀ k, LeO (downpourlaw03_alive.f k ) (downpourlaw03_alive.f (k + 1) ) := by
 intro  k
 unfold downpourlaw03_alive.f
 repeat' first
   | (with_reducible exact matrix_One.mono _ _)
   | (with_reducible exact LeO.refl _)
   | (with_reducible exact LeO.none _)
   | (with_reducible refine LeO.ite ?_ ?_)
   | (with_reducible refine LeO.bind ?_ (fun _ => ?_))
   | exact matrix_One.mono _ _
   | exact LeO.none _
   | refine LeO.ite ?_ ?_
   | refine LeO.bind ?_ (fun _ => ?_)
set_option maxHeartbeats 8000000 in
set_option maxRecDepth 100000 in
theorem downpourlaw03_alive.calls (k : Nat)  (r : Bool) (w : World) (h : downpourlaw03_alive.f k  = some r) :
  Calls Tryd.prog 38 #[] w fun e w' => e = .returned (.bool r) ∧ Below w.heap.size w w' := by
 have hu55 := Tryd.underlying55
 have HB := am (Below.refl w.heap.size w)
 have H : ((matrix_One.f k 3).bind fun bt288 => (if bt288.2.2 = 0 then (if bt288.1 = 3 then (some ((bt288.2.1.length : Int) == 3)) else (some false)) else (some false))) = some r := h
 clear h
 replace H := Option.bind_eq_some_iff.mp H
 obtain ⟨⟨t288, t289, t292⟩, A10, H⟩ := H
 replace H : (if t292 = 0 then (if t288 = 3 then (some ((t289.length : Int) == 3)) else (some false)) else (some false)) = some r := H
 have A1 := Aside0.mk A10
 clear A10
 by_cases c2 : t292 = 0
 ·
  rw [if_pos c2] at H
  have c2b0 : (t292 == 0) = true := beq_iff_eq.mpr c2
  have c2b1 : (t292 != 0) = false := bne_eq_false_iff_eq.mpr c2
  clear c2
  by_cases c3 : t288 = 3
  ·
   rw [if_pos c3] at H
   have c3b0 : (t288 == 3) = true := beq_iff_eq.mpr c3
   have c3b1 : (t288 != 3) = false := bne_eq_false_iff_eq.mpr c3
   clear c3
   obtain rfl := Option.some.inj H
   go_enter Tryd.func38, Tryd.ntmps38
   go_wp2_with (first | ((with_reducible refine gate_callee (f := 45) rfl ?_); refine goesL_ (some 4) rfl rfl Tryd.func45 (by kernel_rfl) rfl #[.int .i64 3] rfl (by (try simp only [List.map_toArray, List.map_cons, List.map_nil]); first | done | rfl | (simp only [List.length_drop, List.length_take]; rfl)) ?_; (with_reducible refine (matrix_One.calls k 3 t288 t289 t292 _ A1.out).mono ?_); rintro e w4 ⟨v290, rfl, ho0, hb⟩; refine ⟨_, rfl, ?_⟩; have n0_ := am (Kd.S_lower ho0 (below_size (pb HB))); have n1_ := am (below_step (pb HB) hb); clear HB; have HO291 := n0_; have HB := n1_; clear n0_ n1_; (try clear hb); (try clear hb2); (try clear hk); (try clear hi); (try clear ho0)) | ((with_reducible refine gate_dst (N := 1) rfl ?_); (try (refine gate_guard (by rfl) ?_; dsimp only)); refine box_event ?hg (N := 1) ?hd (cs := #[.int .i64 0, .slice none 0 0]) (t := 55) ?hr ?_; (case hd => rfl); (case hg => rfl); (case hr => first | (go_simp; done) | (go_simp; rfl)); intro gb293 hg w5 hbox hb; have n0_ := am (Kd.S_below (by (with_reducible repeat (first | apply Kd.S_alloc | apply Kd.S_drewN | apply Kd.S_drew)); exact HO291.out) hb); have n1_ := am (below_step (pb HB) hb); have n2_ := am (hbox); have n3_ := am ((by rw [hg]; exact (below_size (pb HB)) : w.heap.size ≤ gb293)); have n4_ := am ((by rw [hg]; exact (below_size (pb HB)) : w.heap.size ≤ gb293)); clear HO291 HB; have HO291 := n0_; have HB := n1_; have BK293 := n2_; have GW293 := n3_; have GE293 := n4_; clear n0_ n1_ n2_ n3_ n4_ hb hbox hg; have hcz6_0 : w5.cell? ⟨gb293, 0, none⟩ = some (.int .i64 0) := (blk_cell BK293.out 0).trans rfl; have hcz6_1 : w5.cell? ⟨gb293, 1, none⟩ = some (.slice none 0 0) := (blk_cell BK293.out 1).trans rfl; have hfz6_0 := blk_frozen BK293.out 0; have hfz6_1 := blk_frozen BK293.out 1; obtain ⟨Ao7, co7, eo7⟩ := Kd.S_slice HO291.out; subst eo7))
   go_ret
   exact ⟨by first | rfl | (simp [errW_none, errW_some] <;> rfl) | (simp [*, errW_none, errW_some] <;> rfl), pb HB⟩
  ·
   rw [if_neg c3] at H
   have c3b0 : (t288 == 3) = false := beq_eq_false_iff_ne.mpr c3
   have c3b1 : (t288 != 3) = true := bne_iff_ne.mpr c3
   obtain rfl := Option.some.inj H
   go_enter Tryd.func38, Tryd.ntmps38
   go_wp2_with (first | ((with_reducible refine gate_callee (f := 45) rfl ?_); refine goesL_ (some 4) rfl rfl Tryd.func45 (by kernel_rfl) rfl #[.int .i64 3] rfl (by (try simp only [List.map_toArray, List.map_cons, List.map_nil]); first | done | rfl | (simp only [List.length_drop, List.length_take]; rfl)) ?_; (with_reducible refine (matrix_One.calls k 3 t288 t289 t292 _ A1.out).mono ?_); rintro e w8 ⟨v290, rfl, ho0, hb⟩; refine ⟨_, rfl, ?_⟩; have n0_ := am (Kd.S_lower ho0 (below_size (pb HB))); have n1_ := am (below_step (pb HB) hb); clear HB; have HO291 := n0_; have HB := n1_; clear n0_ n1_; (try clear hb); (try clear hb2); (try clear hk); (try clear hi); (try clear ho0)) | ((with_reducible refine gate_dst (N := 1) rfl ?_); (try (refine gate_guard (by rfl) ?_; dsimp only)); refine box_event ?hg (N := 1) ?hd (cs := #[.int .i64 0, .slice none 0 0]) (t := 55) ?hr ?_; (case hd => rfl); (case hg => rfl); (case hr => first | (go_simp; done) | (go_simp; rfl)); intro gb293 hg w9 hbox hb; have n0_ := am (Kd.S_below (by (with_reducible repeat (first | apply Kd.S_alloc | apply Kd.S_drewN | apply Kd.S_drew)); exact HO291.out) hb); have n1_ := am (below_step (pb HB) hb); have n2_ := am (hbox); have n3_ := am ((by rw [hg]; exact (below_size (pb HB)) : w.heap.size ≤ gb293)); have n4_ := am ((by rw [hg]; exact (below_size (pb HB)) : w.heap.size ≤ gb293)); clear HO291 HB; have HO291 := n0_; have HB := n1_; have BK293 := n2_; have GW293 := n3_; have GE293 := n4_; clear n0_ n1_ n2_ n3_ n4_ hb hbox hg; have hcz10_0 : w9.cell? ⟨gb293, 0, none⟩ = some (.int .i64 0) := (blk_cell BK293.out 0).trans rfl; have hcz10_1 : w9.cell? ⟨gb293, 1, none⟩ = some (.slice none 0 0) := (blk_cell BK293.out 1).trans rfl; have hfz10_0 := blk_frozen BK293.out 0; have hfz10_1 := blk_frozen BK293.out 1; obtain ⟨Ao11, co11, eo11⟩ := Kd.S_slice HO291.out; subst eo11))
   go_ret
   exact ⟨by first | rfl | (simp [errW_none, errW_some] <;> rfl) | (simp [*, errW_none, errW_some] <;> rfl), pb HB⟩
 ·
  rw [if_neg c2] at H
  have c2b0 : (t292 == 0) = false := beq_eq_false_iff_ne.mpr c2
  have c2b1 : (t292 != 0) = true := bne_iff_ne.mpr c2
  obtain rfl := Option.some.inj H
  go_enter Tryd.func38, Tryd.ntmps38
  go_wp2_with (first | ((with_reducible refine gate_callee (f := 45) rfl ?_); refine goesL_ (some 4) rfl rfl Tryd.func45 (by kernel_rfl) rfl #[.int .i64 3] rfl (by (try simp only [List.map_toArray, List.map_cons, List.map_nil]); first | done | rfl | (simp only [List.length_drop, List.length_take]; rfl)) ?_; (with_reducible refine (matrix_One.calls k 3 t288 t289 t292 _ A1.out).mono ?_); rintro e w12 ⟨v290, rfl, ho0, hb⟩; refine ⟨_, rfl, ?_⟩; have n0_ := am (Kd.S_lower ho0 (below_size (pb HB))); have n1_ := am (below_step (pb HB) hb); clear HB; have HO291 := n0_; have HB := n1_; clear n0_ n1_; (try clear hb); (try clear hb2); (try clear hk); (try clear hi); (try clear ho0)) | ((with_reducible refine gate_dst (N := 1) rfl ?_); (try (refine gate_guard (by rfl) ?_; dsimp only)); refine box_event ?hg (N := 1) ?hd (cs := #[.int .i64 0, .slice none 0 0]) (t := 55) ?hr ?_; (case hd => rfl); (case hg => rfl); (case hr => first | (go_simp; done) | (go_simp; rfl)); intro gb293 hg w13 hbox hb; have n0_ := am (Kd.S_below (by (with_reducible repeat (first | apply Kd.S_alloc | apply Kd.S_drewN | apply Kd.S_drew)); exact HO291.out) hb); have n1_ := am (below_step (pb HB) hb); have n2_ := am (hbox); have n3_ := am ((by rw [hg]; exact (below_size (pb HB)) : w.heap.size ≤ gb293)); have n4_ := am ((by rw [hg]; exact (below_size (pb HB)) : w.heap.size ≤ gb293)); clear HO291 HB; have HO291 := n0_; have HB := n1_; have BK293 := n2_; have GW293 := n3_; have GE293 := n4_; clear n0_ n1_ n2_ n3_ n4_ hb hbox hg; have hcz14_0 : w13.cell? ⟨gb293, 0, none⟩ = some (.int .i64 0) := (blk_cell BK293.out 0).trans rfl; have hcz14_1 : w13.cell? ⟨gb293, 1, none⟩ = some (.slice none 0 0) := (blk_cell BK293.out 1).trans rfl; have hfz14_0 := blk_frozen BK293.out 0; have hfz14_1 := blk_frozen BK293.out 1; obtain ⟨Ao15, co15, eo15⟩ := Kd.S_slice HO291.out; subst eo15))
  go_ret
  exact ⟨by first | rfl | (simp [errW_none, errW_some] <;> rfl) | (simp [*, errW_none, errW_some] <;> rfl), pb HB⟩

/-! ### downpourref01_Bit: function 26 -/
def downpourref01_Bit.f (a0_0 : Int) (l0_1 : List Int) (a1 : Int) : Option (Int) := if 0 ≤ (wrap64 (Int.tdiv a1 64)) then (if (wrap64 (Int.tdiv a1 64)) < (l0_1.length : Int) then (if 0 ≤ (Int.tmod a1 64) then (some (wrap64 (Int.tmod (shr .u64 (rd l0_1 (wrap64 (Int.tdiv a1 64))) (Int.tmod a1 64)) 2))) else (none)) else (none)) else (none)
set_option maxHeartbeats 8000000 in
set_option maxRecDepth 100000 in
theorem downpourref01_Bit.calls (a0_0 : Int) (A0_1 : Option Addr) (c0_1 : Nat) (l0_1 : List Int) (a1 : Int) (r : Int) (w : World) (hr0_1 : Kd.C (Kd.int .u64) w A0_1 l0_1.length l0_1) (hc0_1 : l0_1.length ≤ c0_1) (h : downpourref01_Bit.f a0_0 l0_1 a1 = some r) :
  Calls Tryd.prog 26 #[.agg #[.int .i64 a0_0, .slice A0_1 l0_1.length c0_1], .int .i64 a1] w fun e w' => e = .returned (.int .i64 r) ∧ Below w.heap.size w w' := by
 have hu25 := Tryd.underlying25
 have HR0_1 := Aside0.mk hr0_1
 have HC0_1 := Aside0.mk hc0_1
 clear hr0_1 hc0_1
 have HB := am (Below.refl w.heap.size w)
 have H : (if 0 ≤ (wrap64 (Int.tdiv a1 64)) then (if (wrap64 (Int.tdiv a1 64)) < (l0_1.length : Int) then (if 0 ≤ (Int.tmod a1 64) then (some (wrap64 (Int.tmod (shr .u64 (rd l0_1 (wrap64 (Int.tdiv a1 64))) (Int.tmod a1 64)) 2))) else (none)) else (none)) else (none)) = some r := h
 clear h
 obtain ⟨ji3, hji3⟩ : ∃ j_ : Int, (wrap64 (Int.tdiv a1 64)) = j_ := ⟨_, rfl⟩
 replace H : (if 0 ≤ (ji3) then (if (ji3) < (l0_1.length : Int) then (if 0 ≤ (Int.tmod a1 64) then (some (wrap64 (Int.tmod (shr .u64 (rd l0_1 (ji3)) (Int.tmod a1 64)) 2))) else (none)) else (none)) else (none)) = some r := by first | (rw [hji3] at H; exact H) | (simp only [hji3] at H ⊢; exact H)
 have hji3w : (IntKind.i64.wrap (Int.tdiv a1 64)) = ji3 := (i64_w _).trans hji3
 by_cases c4 : 0 ≤ (ji3)
 ·
  rw [if_pos c4] at H
  have c4b0 : decide (0 ≤ (ji3)) = true := decide_eq_true c4
  clear c4
  by_cases c5 : (ji3) < (l0_1.length : Int)
  ·
   rw [if_pos c5] at H
   have c5b0 : decide ((ji3) < (l0_1.length : Int)) = true := decide_eq_true c5
   clear c5
   obtain ⟨ji6, hji6⟩ : ∃ j_ : Int, (Int.tmod a1 64) = j_ := ⟨_, rfl⟩
   replace H : (if 0 ≤ (ji6) then (some (wrap64 (Int.tmod (shr .u64 (rd l0_1 (ji3)) (ji6)) 2))) else (none)) = some r := by first | (rw [hji6] at H; exact H) | (simp only [hji6] at H ⊢; exact H)
   by_cases c7 : 0 ≤ (ji6)
   ·
    rw [if_pos c7] at H
    have c7b0 := eq_true c7
    have c7b1 : decide (0 ≤ (ji6)) = true := decide_eq_true c7
    clear c7
    obtain ⟨ji8, hji8⟩ : ∃ j_ : Int, (shr .u64 (rd l0_1 (ji3)) (ji6)) = j_ := ⟨_, rfl⟩
    replace H : (some (wrap64 (Int.tmod (ji8) 2))) = some r := by first | (rw [hji8] at H; exact H) | (simp only [hji8] at H ⊢; exact H)
    have hji8_ : ((rd l0_1 (ji3)) / 2 ^ min (ji6).toNat 64) = ji8 := hji8
    have hji8z : (ji6) ≤ 64 → ((rd l0_1 (ji3)) / 2 ^ (ji6).toNat) = ji8 := shr_small hji8
    obtain rfl := Option.some.inj H
    go_enter Tryd.func26, Tryd.ntmps26
    go_wp2_with (first | ((with_reducible refine gate_dst (N := 2) rfl ?_); refine box_event ?hg (N := 2) ?hd (cs := #[.int .i64 a0_0, .slice A0_1 l0_1.length c0_1]) (t := 25) ?hr ?_; (case hd => rfl); (case hg => rfl); (case hr => first | (go_simp; done) | (go_simp; rfl)); intro gb294 hg w9 hbox hb; have n0_ := am (below_step (pb HB) hb); have n1_ := am (hbox); have n2_ := am ((by rw [hg]; exact (below_size (pb HB)) : w.heap.size ≤ gb294)); have n3_ := am ((by rw [hg]; exact (below_size (pb HB)) : w.heap.size ≤ gb294)); clear HB; have HB := n0_; have BK294 := n1_; have GW294 := n2_; have GE294 := n3_; clear n0_ n1_ n2_ n3_ hb hbox hg; have hcz10_0 : w9.cell? ⟨gb294, 0, none⟩ = some (.int .i64 a0_0) := (blk_cell BK294.out 0).trans rfl; have hcz10_1 : w9.cell? ⟨gb294, 1, none⟩ = some (.slice A0_1 l0_1.length c0_1) := (blk_cell BK294.out 1).trans rfl; have hfz10_0 := blk_frozen BK294.out 0; have hfz10_1 := blk_frozen BK294.out 1; have p295 : 0 ≤ ((ji3) : Int) := of_decide_eq_true (by first | (with_reducible assumption) | assumption); have q295 : (ji3) < (l0_1.length : Int) := of_decide_eq_true (by first | (with_reducible assumption) | assumption); obtain ⟨ad295, e295, hx295_0⟩ := Kd.at_int HR0_1.out (ji3) p295 q295; cases e295; replace hx295_0 := (HB.out.cell (World.block_lt_of_cell? w _ hx295_0)).trans hx295_0; replace p295 := eq_true p295; replace q295 := eq_true q295))
    go_ret
    exact ⟨by first | rfl | (simp [errW_none, errW_some] <;> rfl) | (simp only [← hji3, ← hji6, ← hji8]; first | rfl | (simp [errW_none, errW_some] <;> rfl)) | (simp [*, errW_none, errW_some] <;> rfl), pb HB⟩
   ·
    rw [if_neg c7] at H
    exact absurd H (by simp)
  ·
   rw [if_neg c5] at H
   exact absurd H (by simp)
 ·
  rw [if_neg c4] at H
  exact absurd H (by simp)

/-! ### downpourref01_words: function 62 -/
def downpourref01_words.f (a0 : Int) : Option (Int) := some (wrap64 (Int.tdiv (wrap64 (a0 + 63)) 64))
set_option maxHeartbeats 8000000 in
set_option maxRecDepth 100000 in
theorem downpourref01_words.calls (a0 : Int) (r : Int) (w : World) (h : downpourref01_words.f a0 = some r) :
  Calls Tryd.prog 62 #[.int .i64 a0] w fun e w' => e = .returned (.int .i64 r) ∧ Drawn0 w w' := by
 have H : (some (wrap64 (Int.tdiv (wrap64 (a0 + 63)) 64))) = some r := h
 clear h
 obtain rfl := Option.some.inj H
 go_enter Tryd.func62, Tryd.ntmps62
 go_wp2
 go_ret
 exact ⟨by first | rfl | (simp; done) | (simp [*]; done), by repeat (first | exact Drawn0.refl _ | apply Drawn0.step)⟩

/-! ### downpourref01_Right: function 15 -/
mutual
def downpourref01_Right.j0 : Nat → Bool → Int → List Int → Option (Bool)
 | 0, _, _, _ => none
 | k + 1, x20, x297000, x297001 => if x20 = true then (some false) else (downpourref01_Right.l0 k x297000 x297000 x297001)
def downpourref01_Right.l0 : Nat → Int → Int → List Int → Option (Bool)
 | 0, _, _, _ => none
 | k + 1, x3, x297000, x297001 => if x3 < (wrap64 (64 * (x297001.length : Int))) then ((downpourref01_Bit.f x297000 x297001 x3).bind fun t298 => (if t298 = 1 then (some false) else (downpourref01_Right.l0 k (wrap64 (x3 + 1)) x297000 x297001))) else (some true)
end
def downpourref01_Right.f (k : Nat) (a0_0 : Int) (l0_1 : List Int) : Option (Bool) := if a0_0 < 0 then (downpourref01_Right.j0 k true a0_0 l0_1) else (if a0_0 > 512 then (downpourref01_Right.j0 k true a0_0 l0_1) else ((downpourref01_words.f a0_0).bind fun t297 => (downpourref01_Right.j0 k ((l0_1.length : Int) != t297) a0_0 l0_1)))
theorem downpourref01_Right.mono_l : ∀ k, (∀ y0 y1 y2, LeO (downpourref01_Right.j0 k y0 y1 y2) (downpourref01_Right.j0 (k + 1) y0 y1 y2)) ∧ (∀ y0 y1 y2, LeO (downpourref01_Right.l0 k y0 y1 y2) (downpourref01_Right.l0 (k + 1) y0 y1 y2))
 | 0 => ⟨fun _ _ _ r h => by simp [downpourref01_Right.j0] at h, fun _ _ _ r h => by simp [downpourref01_Right.l0] at h⟩
 | k + 1 => by
  obtain ⟨ih0, ih1⟩ := downpourref01_Right.mono_l k
  refine ⟨?_, ?_⟩
  ·
   intro y0 y1 y2
   unfold downpourref01_Right.j0
   repeat' first
   | (with_reducible exact ih0 _ _ _)
   | (with_reducible exact ih1 _ _ _)
   | (with_reducible exact LeO.refl _)
   | (with_reducible exact LeO.none _)
   | (with_reducible refine LeO.ite ?_ ?_)
   | (with_reducible refine LeO.bind ?_ (fun _ => ?_))
   | exact ih0 _ _ _
   | exact ih1 _ _ _
   | exact LeO.none _
   | refine LeO.ite ?_ ?_
   | refine LeO.bind ?_ (fun _ => ?_)
  ·
   intro y0 y1 y2
   unfold downpourref01_Right.l0
   repeat' first
   | (with_reducible exact ih0 _ _ _)
   | (with_reducible exact ih1 _ _ _)
   | (with_reducible exact LeO.refl _)
   | (with_reducible exact LeO.none _)
   | (with_reducible refine LeO.ite ?_ ?_)
   | (with_reducible refine LeO.bind ?_ (fun _ => ?_))
   | exact ih0 _ _ _
   | exact ih1 _ _ _
   | exact LeO.none _
   | refine LeO.ite ?_ ?_
   | refine LeO.bind ?_ (fun _ => ?_)
theorem downpourref01_Right.mono : ∀ a0 a1 k, LeO (downpourref01_Right.f k a0 a1) (downpourref01_Right.f (k + 1) a0 a1) := by
 intro a0 a1 k
 obtain ⟨ih0, ih1⟩ := downpourref01_Right.mono_l k
 unfold downpourref01_Right.f
 repeat' first
   | (with_reducible exact ih0 _ _ _)
   | (with_reducible exact ih1 _ _ _)
   | (with_reducible exact LeO.refl _)
   | (with_reducible exact LeO.none _)
   | (with_reducible refine LeO.ite ?_ ?_)
   | (with_reducible refine LeO.bind ?_ (fun _ => ?_))
   | exact ih0 _ _ _
   | exact ih1 _ _ _
   | exact LeO.none _
   | refine LeO.ite ?_ ?_
   | refine LeO.bind ?_ (fun _ => ?_)
set_option maxHeartbeats 8000000 in
set_option maxRecDepth 100000 in
theorem downpourref01_Right.calls (k : Nat) (a0_0 : Int) (A0_1 : Option Addr) (c0_1 : Nat) (l0_1 : List Int) (r : Bool) (w : World) (hr0_1 : Kd.C (Kd.int .u64) w A0_1 l0_1.length l0_1) (hc0_1 : l0_1.length ≤ c0_1) (h : downpourref01_Right.f k a0_0 l0_1 = some r) :
  Calls Tryd.prog 15 #[.agg #[.int .i64 a0_0, .slice A0_1 l0_1.length c0_1]] w fun e w' => e = .returned (.bool r) ∧ Below w.heap.size w w' := by
 have hu25 := Tryd.underlying25
 have HR0_1 := Aside0.mk hr0_1
 have HC0_1 := Aside0.mk hc0_1
 clear hr0_1 hc0_1
 have HB := am (Below.refl w.heap.size w)
 have H : (if a0_0 < 0 then (downpourref01_Right.j0 k true a0_0 l0_1) else (if a0_0 > 512 then (downpourref01_Right.j0 k true a0_0 l0_1) else ((downpourref01_words.f a0_0).bind fun t297 => (downpourref01_Right.j0 k ((l0_1.length : Int) != t297) a0_0 l0_1)))) = some r := h
 clear h
 have HC2 := Aside0.mk H
 clear H
 go_enter Tryd.func15, Tryd.ntmps15
 go_upto_region 1 with (first | ((with_reducible refine gate_dst (N := 1) rfl ?_); (try (refine gate_guard (by rfl) ?_; dsimp only)); refine box_event ?hg (N := 1) ?hd (cs := #[.int .i64 a0_0, .slice A0_1 l0_1.length c0_1]) (t := 25) ?hr ?_; (case hd => rfl); (case hg => rfl); (case hr => first | (go_simp; done) | (go_simp; rfl)); intro gb296 hg w3 hbox hb; have n0_ := am (below_step (pb HB) hb); have n1_ := am (hbox); have n2_ := am ((by rw [hg]; exact (below_size (pb HB)) : w.heap.size ≤ gb296)); have n3_ := am ((by rw [hg]; exact (below_size (pb HB)) : w.heap.size ≤ gb296)); clear HB; have HB := n0_; have BK296 := n1_; have GW296 := n2_; have GE296 := n3_; clear n0_ n1_ n2_ n3_ hb hbox hg))
 repeat (go_quiet (first | ((with_reducible refine gate_dst (N := 1) rfl ?_); (try (refine gate_guard (by rfl) ?_; dsimp only)); refine box_event ?hg (N := 1) ?hd (cs := #[.int .i64 a0_0, .slice A0_1 l0_1.length c0_1]) (t := 25) ?hr ?_; (case hd => rfl); (case hg => rfl); (case hr => first | (go_simp; done) | (go_simp; rfl)); intro gb296 hg w3 hbox hb; have n0_ := am (below_step (pb HB) hb); have n1_ := am (hbox); have n2_ := am ((by rw [hg]; exact (below_size (pb HB)) : w.heap.size ≤ gb296)); have n3_ := am ((by rw [hg]; exact (below_size (pb HB)) : w.heap.size ≤ gb296)); clear HB; have HB := n0_; have BK296 := n1_; have GW296 := n2_; have GE296 := n3_; clear n0_ n1_ n2_ n3_ hb hbox hg)); go_upto_region 1 with (first | ((with_reducible refine gate_dst (N := 1) rfl ?_); (try (refine gate_guard (by rfl) ?_; dsimp only)); refine box_event ?hg (N := 1) ?hd (cs := #[.int .i64 a0_0, .slice A0_1 l0_1.length c0_1]) (t := 25) ?hr ?_; (case hd => rfl); (case hg => rfl); (case hr => first | (go_simp; done) | (go_simp; rfl)); intro gb296 hg w3 hbox hb; have n0_ := am (below_step (pb HB) hb); have n1_ := am (hbox); have n2_ := am ((by rw [hg]; exact (below_size (pb HB)) : w.heap.size ≤ gb296)); have n3_ := am ((by rw [hg]; exact (below_size (pb HB)) : w.heap.size ≤ gb296)); clear HB; have HB := n0_; have BK296 := n1_; have GW296 := n2_; have GE296 := n3_; clear n0_ n1_ n2_ n3_ hb hbox hg)))
 (try simp only [Act.put, q1, q2, q3])
 go_cut [20] (fun v20 wc => ∃ (kq : Nat) (x20_1 : Bool), v20 = .bool x20_1 ∧ Aside0 (downpourref01_Right.j0 kq x20_1 a0_0 l0_1 = some r) ∧ Aside0 (kq ≤ k) ∧ Aside0 (wc.heap[gb296]? = some (.cells #[.int .i64 a0_0, (.slice A0_1 l0_1.length c0_1)] 25 (0, 0))) ∧ Aside0 (Below w.heap.size w wc))
 case first =>
  have H := HC2.out
  clear HC2
  by_cases c4 : a0_0 < 0
  ·
   rw [if_pos c4] at H
   have c4b0 : decide (a0_0 < 0) = true := decide_eq_true c4
   clear c4
   (first | rw [c4b0] | (simp only [i64_w, i32_w]; rw [c4b0]) | skip)
   have H' := Aside0.mk H
   clear H
   have hcz5_0 : w3.cell? ⟨gb296, 0, none⟩ = some (.int .i64 a0_0) := (blk_cell BK296.out 0).trans rfl
   have hcz5_1 : w3.cell? ⟨gb296, 1, none⟩ = some (.slice A0_1 l0_1.length c0_1) := (blk_cell BK296.out 1).trans rfl
   have hfz5_0 := blk_frozen BK296.out 0
   have hfz5_1 := blk_frozen BK296.out 1
   go_wp2
   repeat (go_quiet (fail); try go_wp2)
   go_meet
   case rel => exact ⟨_, (true), (by first | rfl | (simp; done) | (simp [*]; done)), H', ⟨by first | omega | exact Nat.le_refl _⟩, ⟨by (with_reducible repeat (first | refine blk_drewN ?_ _ | refine blk_drew ?_ | refine blk_alloc ?_ _)); exact BK296.out⟩, ⟨pb HB⟩⟩
  ·
   rw [if_neg c4] at H
   have c4b0 : decide (a0_0 < 0) = false := decide_eq_false c4
   clear c4
   (first | rw [c4b0] | (simp only [i64_w, i32_w]; rw [c4b0]) | skip)
   by_cases c6 : a0_0 > 512
   ·
    rw [if_pos c6] at H
    have c6b0 : decide (512 < a0_0) = true := decide_eq_true c6
    clear c6
    have H' := Aside0.mk H
    clear H
    have hcz7_0 : w3.cell? ⟨gb296, 0, none⟩ = some (.int .i64 a0_0) := (blk_cell BK296.out 0).trans rfl
    have hcz7_1 : w3.cell? ⟨gb296, 1, none⟩ = some (.slice A0_1 l0_1.length c0_1) := (blk_cell BK296.out 1).trans rfl
    have hfz7_0 := blk_frozen BK296.out 0
    have hfz7_1 := blk_frozen BK296.out 1
    go_wp2
    repeat (go_quiet (fail); try go_wp2)
    go_meet
    case rel => exact ⟨_, (true), (by first | rfl | (simp; done) | (simp [*]; done)), H', ⟨by first | omega | exact Nat.le_refl _⟩, ⟨by (with_reducible repeat (first | refine blk_drewN ?_ _ | refine blk_drew ?_ | refine blk_alloc ?_ _)); exact BK296.out⟩, ⟨pb HB⟩⟩
   ·
    rw [if_neg c6] at H
    have c6b0 : decide (512 < a0_0) = false := decide_eq_false c6
    clear c6
    replace H := Option.bind_eq_some_iff.mp H
    obtain ⟨t297, A80, H⟩ := H
    replace H : (downpourref01_Right.j0 k ((l0_1.length : Int) != t297) a0_0 l0_1) = some r := H
    have A8 := Aside0.mk A80
    clear A80
    have H' := Aside0.mk H
    clear H
    have hcz9_0 : w3.cell? ⟨gb296, 0, none⟩ = some (.int .i64 a0_0) := (blk_cell BK296.out 0).trans rfl
    have hcz9_1 : w3.cell? ⟨gb296, 1, none⟩ = some (.slice A0_1 l0_1.length c0_1) := (blk_cell BK296.out 1).trans rfl
    have hfz9_0 := blk_frozen BK296.out 0
    have hfz9_1 := blk_frozen BK296.out 1
    go_wp2_with (first | (go_at_call 62; (with_reducible refine (downpourref01_words.calls a0_0 t297 _ A8.out).mono ?_); rintro e w' ⟨rfl, ⟨nd, rfl⟩⟩; (try first | exact ⟨rfl, _, World.drewN_drewN _ _ _⟩ | exact ⟨rfl, _, Eq.trans (World.drewN_drewN _ _ _) (congrArg (World.drewN _) (Nat.add_assoc _ _ _))⟩)))
    repeat (go_quiet (first | (go_at_call 62; (with_reducible refine (downpourref01_words.calls a0_0 t297 _ A8.out).mono ?_); rintro e w' ⟨rfl, ⟨nd, rfl⟩⟩; (try first | exact ⟨rfl, _, World.drewN_drewN _ _ _⟩ | exact ⟨rfl, _, Eq.trans (World.drewN_drewN _ _ _) (congrArg (World.drewN _) (Nat.add_assoc _ _ _))⟩))); try go_wp2_with (first | (go_at_call 62; (with_reducible refine (downpourref01_words.calls a0_0 t297 _ A8.out).mono ?_); rintro e w' ⟨rfl, ⟨nd, rfl⟩⟩; (try first | exact ⟨rfl, _, World.drewN_drewN _ _ _⟩ | exact ⟨rfl, _, Eq.trans (World.drewN_drewN _ _ _) (congrArg (World.drewN _) (Nat.add_assoc _ _ _))⟩))))
    go_meet
    case rel => exact ⟨_, (((l0_1.length : Int) != t297)), (by first | rfl | (simp; done) | (simp [*]; done)), H', ⟨by first | omega | exact Nat.le_refl _⟩, ⟨by (with_reducible repeat (first | refine blk_drewN ?_ _ | refine blk_drew ?_ | refine blk_alloc ?_ _)); exact BK296.out⟩, ⟨pb HB⟩⟩
 case rest =>
  clear HC2
  try clear c1
  try clear p2
  try clear c4
  try clear c4b0
  try clear c6
  try clear c6b0
  try clear hcz5_0
  try clear hcz5_1
  try clear hcz7_0
  try clear hcz7_1
  try clear hcz9_0
  try clear hcz9_1
  try clear hfz5_0
  try clear hfz5_1
  try clear hfz7_0
  try clear hfz7_1
  try clear hfz9_0
  try clear hfz9_1
  obtain ⟨kq, x20_1, rfl, HA, HJ1, BK296, HB⟩ := hcut
  cases kq with
  | zero => exact absurd HA.out (by simp [downpourref01_Right.j0])
  | succ kj1 =>
   have H := HA.out
   clear HA
   simp only [downpourref01_Right.j0] at H
   by_cases c10 : x20_1 = true
   ·
    subst c10
    have H1 : (some false) = some r := by rw [if_pos rfl] at H; exact H
    clear H
    have H := H1
    clear H1
    obtain rfl := Option.some.inj H
    go_wp2
    repeat (go_quiet (fail); try go_wp2)
    go_ret
    exact ⟨by first | rfl | (simp [errW_none, errW_some] <;> rfl) | (simp [*, errW_none, errW_some] <;> rfl), pb HB⟩
   ·
    replace c10 := Bool.eq_false_iff.mpr c10
    subst c10
    have H1 : (downpourref01_Right.l0 kj1 a0_0 a0_0 l0_1) = some r := by rw [if_neg (show ¬ (false = true) by decide)] at H; exact H
    clear H
    have H := H1
    clear H1
    have H' := Aside0.mk H
    clear H
    have hcz11_0 : wc.cell? ⟨gb296, 0, none⟩ = some (.int .i64 a0_0) := (blk_cell BK296.out 0).trans rfl
    have hcz11_1 : wc.cell? ⟨gb296, 1, none⟩ = some (.slice A0_1 l0_1.length c0_1) := (blk_cell BK296.out 1).trans rfl
    have hfz11_0 := blk_frozen BK296.out 0
    have hfz11_1 := blk_frozen BK296.out 1
    go_wp2
    repeat (go_quiet (fail); try go_wp2)
    go_loopg [3] kj1 (fun kq v3 w' => ∃ (x3_2 : Int), v3 = .int .i64 x3_2 ∧ Aside0 (downpourref01_Right.l0 kq x3_2 a0_0 l0_1 = some r) ∧ Aside0 (kq ≤ kj1) ∧ Aside0 (w'.heap[gb296]? = some (.cells #[.int .i64 a0_0, (.slice A0_1 l0_1.length c0_1)] 25 (0, 0))) ∧ Aside0 (Below w.heap.size w w'))
    case atStart => exact ⟨(a0_0), (by first | rfl | (simp; done) | (simp [*]; done)), H', ⟨Nat.le_refl _⟩, ⟨by (with_reducible repeat (first | refine blk_drewN ?_ _ | refine blk_drew ?_ | refine blk_alloc ?_ _)); exact BK296.out⟩, ⟨pb HB⟩⟩
    case round =>
     clear H'
     try clear c1
     try clear p2
     try clear c4
     try clear c4b0
     try clear c6
     try clear c6b0
     try clear c10
     try clear hcz11_0
     try clear hcz11_1
     try clear hcz5_0
     try clear hcz5_1
     try clear hcz7_0
     try clear hcz7_1
     try clear hcz9_0
     try clear hcz9_1
     try clear hfz11_0
     try clear hfz11_1
     try clear hfz5_0
     try clear hfz5_1
     try clear hfz7_0
     try clear hfz7_1
     try clear hfz9_0
     try clear hfz9_1
     try clear p2
     obtain ⟨x3_2, rfl, HA, HK2, BK296, HB⟩ := hrel
     cases gk with
     | zero => exact absurd HA.out (by simp [downpourref01_Right.l0])
     | succ k2 =>
      have H := HA.out
      clear HA
      simp only [downpourref01_Right.l0] at H
      by_cases c12 : x3_2 < (wrap64 (64 * (l0_1.length : Int)))
      ·
       rw [if_pos c12] at H
       have c12b0 : decide (x3_2 < (wrap64 (64 * (l0_1.length : Int)))) = true := decide_eq_true c12
       clear c12
       replace H := Option.bind_eq_some_iff.mp H
       obtain ⟨t298, A130, H⟩ := H
       replace H : (if t298 = 1 then (some false) else (downpourref01_Right.l0 k2 (wrap64 (x3_2 + 1)) a0_0 l0_1)) = some r := H
       have A13 := Aside0.mk A130
       clear A130
       by_cases c14 : t298 = 1
       ·
        rw [if_pos c14] at H
        have c14b0 : (t298 == 1) = true := beq_iff_eq.mpr c14
        have c14b1 : (t298 != 1) = false := bne_eq_false_iff_eq.mpr c14
        clear c14
        obtain rfl := Option.some.inj H
        have hcz15_0 : wr.cell? ⟨gb296, 0, none⟩ = some (.int .i64 a0_0) := (blk_cell BK296.out 0).trans rfl
        have hcz15_1 : wr.cell? ⟨gb296, 1, none⟩ = some (.slice A0_1 l0_1.length c0_1) := (blk_cell BK296.out 1).trans rfl
        have hfz15_0 := blk_frozen BK296.out 0
        have hfz15_1 := blk_frozen BK296.out 1
        go_wp2_with (first | (go_at_call 26; (with_reducible refine (downpourref01_Bit.calls a0_0 _ _ l0_1 x3_2 t298 _ ?side1 ?side2 A13.out).mono ?_); (case side1 => repeat (first | exact (Kd.C_below HR0_1.out HB.out) | (with_reducible refine Kd.C_alloc ?_ _) | (with_reducible refine Kd.C_drewN ?_ _) | (with_reducible refine Kd.C_drew ?_))); (case side2 => exact HC0_1.out); rintro e w16 ⟨rfl, hb⟩; have n0_ := bb BK296 hb; have n1_ := am (below_step (pb HB) hb); clear BK296 HB; have BK296 := n0_; have HB := n1_; clear n0_ n1_; (try clear hb); (try clear hb2); (try clear hk); (try clear hi)))
        repeat (go_quiet (first | (go_at_call 26; (with_reducible refine (downpourref01_Bit.calls a0_0 _ _ l0_1 x3_2 t298 _ ?side1 ?side2 A13.out).mono ?_); (case side1 => repeat (first | exact (Kd.C_below HR0_1.out HB.out) | (with_reducible refine Kd.C_alloc ?_ _) | (with_reducible refine Kd.C_drewN ?_ _) | (with_reducible refine Kd.C_drew ?_))); (case side2 => exact HC0_1.out); rintro e w16 ⟨rfl, hb⟩; have n0_ := bb BK296 hb; have n1_ := am (below_step (pb HB) hb); clear BK296 HB; have BK296 := n0_; have HB := n1_; clear n0_ n1_; (try clear hb); (try clear hb2); (try clear hk); (try clear hi))); try go_wp2_with (first | (go_at_call 26; (with_reducible refine (downpourref01_Bit.calls a0_0 _ _ l0_1 x3_2 t298 _ ?side1 ?side2 A13.out).mono ?_); (case side1 => repeat (first | exact (Kd.C_below HR0_1.out HB.out) | (with_reducible refine Kd.C_alloc ?_ _) | (with_reducible refine Kd.C_drewN ?_ _) | (with_reducible refine Kd.C_drew ?_))); (case side2 => exact HC0_1.out); rintro e w16 ⟨rfl, hb⟩; have n0_ := bb BK296 hb; have n1_ := am (below_step (pb HB) hb); clear BK296 HB; have BK296 := n0_; have HB := n1_; clear n0_ n1_; (try clear hb); (try clear hb2); (try clear hk); (try clear hi))))
        go_ret
        exact ⟨by first | rfl | (simp [errW_none, errW_some] <;> rfl) | (simp [*, errW_none, errW_some] <;> rfl), pb HB⟩
       ·
        rw [if_neg c14] at H
        have c14b0 : (t298 == 1) = false := beq_eq_false_iff_ne.mpr c14
        have c14b1 : (t298 != 1) = true := bne_iff_ne.mpr c14
        have H' := Aside0.mk H
        clear H
        have hcz17_0 : wr.cell? ⟨gb296, 0, none⟩ = some (.int .i64 a0_0) := (blk_cell BK296.out 0).trans rfl
        have hcz17_1 : wr.cell? ⟨gb296, 1, none⟩ = some (.slice A0_1 l0_1.length c0_1) := (blk_cell BK296.out 1).trans rfl
        have hfz17_0 := blk_frozen BK296.out 0
        have hfz17_1 := blk_frozen BK296.out 1
        go_wp2_with (first | (go_at_call 26; (with_reducible refine (downpourref01_Bit.calls a0_0 _ _ l0_1 x3_2 t298 _ ?side1 ?side2 A13.out).mono ?_); (case side1 => repeat (first | exact (Kd.C_below HR0_1.out HB.out) | (with_reducible refine Kd.C_alloc ?_ _) | (with_reducible refine Kd.C_drewN ?_ _) | (with_reducible refine Kd.C_drew ?_))); (case side2 => exact HC0_1.out); rintro e w18 ⟨rfl, hb⟩; have n0_ := bb BK296 hb; have n1_ := am (below_step (pb HB) hb); clear BK296 HB; have BK296 := n0_; have HB := n1_; clear n0_ n1_; (try clear hb); (try clear hb2); (try clear hk); (try clear hi)))
        repeat (go_quiet (first | (go_at_call 26; (with_reducible refine (downpourref01_Bit.calls a0_0 _ _ l0_1 x3_2 t298 _ ?side1 ?side2 A13.out).mono ?_); (case side1 => repeat (first | exact (Kd.C_below HR0_1.out HB.out) | (with_reducible refine Kd.C_alloc ?_ _) | (with_reducible refine Kd.C_drewN ?_ _) | (with_reducible refine Kd.C_drew ?_))); (case side2 => exact HC0_1.out); rintro e w18 ⟨rfl, hb⟩; have n0_ := bb BK296 hb; have n1_ := am (below_step (pb HB) hb); clear BK296 HB; have BK296 := n0_; have HB := n1_; clear n0_ n1_; (try clear hb); (try clear hb2); (try clear hk); (try clear hi))); try go_wp2_with (first | (go_at_call 26; (with_reducible refine (downpourref01_Bit.calls a0_0 _ _ l0_1 x3_2 t298 _ ?side1 ?side2 A13.out).mono ?_); (case side1 => repeat (first | exact (Kd.C_below HR0_1.out HB.out) | (with_reducible refine Kd.C_alloc ?_ _) | (with_reducible refine Kd.C_drewN ?_ _) | (with_reducible refine Kd.C_drew ?_))); (case side2 => exact HC0_1.out); rintro e w18 ⟨rfl, hb⟩; have n0_ := bb BK296 hb; have n1_ := am (below_step (pb HB) hb); clear BK296 HB; have BK296 := n0_; have HB := n1_; clear n0_ n1_; (try clear hb); (try clear hb2); (try clear hk); (try clear hi))))
        go_roundg k2
        case measure => have := HJ1.out; have := HK2.out; omega
        case rel => exact ⟨(wrap64 (x3_2 + 1)), (by first | rfl | (simp; done) | (simp [*]; done)), H', ⟨by have := HJ1.out; have := HK2.out; omega⟩, ⟨by (with_reducible repeat (first | refine blk_drewN ?_ _ | refine blk_drew ?_ | refine blk_alloc ?_ _)); exact BK296.out⟩, ⟨pb HB⟩⟩
      ·
       rw [if_neg c12] at H
       have c12b0 : decide (x3_2 < (wrap64 (64 * (l0_1.length : Int)))) = false := decide_eq_false c12
       clear c12
       obtain rfl := Option.some.inj H
       have hcz19_0 : wr.cell? ⟨gb296, 0, none⟩ = some (.int .i64 a0_0) := (blk_cell BK296.out 0).trans rfl
       have hcz19_1 : wr.cell? ⟨gb296, 1, none⟩ = some (.slice A0_1 l0_1.length c0_1) := (blk_cell BK296.out 1).trans rfl
       have hfz19_0 := blk_frozen BK296.out 0
       have hfz19_1 := blk_frozen BK296.out 1
       go_wp2
       repeat (go_quiet (fail); try go_wp2)
       go_ret
       exact ⟨by first | rfl | (simp [errW_none, errW_some] <;> rfl) | (simp [*, errW_none, errW_some] <;> rfl), pb HB⟩

/-! ### downpourref03_Right: function 39 -/
def downpourref03_Right.l0 : Nat → List (S25) → Int → Int → Int → List (S25) → Option (Bool)
 | 0, _, _, _, _, _ => none
 | k + 1, x6, x7, x8, x300000, x300001 => if x8 < x7 then (if 0 ≤ x8 then (if x8 < (x6.length : Int) then (if ((rd_T25 x6 x8).f0) = x300000 then ((downpourref01_Right.f k ((rd_T25 x6 x8).f0) ((rd_T25 x6 x8).f1)).bind fun t302 => (if t302 = true then (downpourref03_Right.l0 k x6 x7 (wrap64 (x8 + 1)) x300000 x300001) else (some false))) else (some false)) else (none)) else (none)) else (if x300000 ≥ 0 then (if x300000 ≤ 64 then (some (decide ((x300001.length : Int) ≤ 64))) else (some false)) else (some false))
def downpourref03_Right.f (k : Nat) (a0_0 : Int) (l0_1 : List (S25)) : Option (Bool) := downpourref03_Right.l0 k l0_1 (l0_1.length : Int) 0 a0_0 l0_1
theorem downpourref03_Right.mono_l : ∀ k, (∀ y0 y1 y2 y3 y4, LeO (downpourref03_Right.l0 k y0 y1 y2 y3 y4) (downpourref03_Right.l0 (k + 1) y0 y1 y2 y3 y4))
 | 0 => fun _ _ _ _ _ r h => by simp [downpourref03_Right.l0] at h
 | k + 1 => by
  have ih0 := downpourref03_Right.mono_l k
  ·
   intro y0 y1 y2 y3 y4
   unfold downpourref03_Right.l0
   repeat' first
   | (with_reducible exact ih0 _ _ _ _ _)
   | (with_reducible exact downpourref01_Right.mono _ _ _)
   | (with_reducible exact LeO.refl _)
   | (with_reducible exact LeO.none _)
   | (with_reducible refine LeO.ite ?_ ?_)
   | (with_reducible refine LeO.bind ?_ (fun _ => ?_))
   | exact ih0 _ _ _ _ _
   | exact downpourref01_Right.mono _ _ _
   | exact LeO.none _
   | refine LeO.ite ?_ ?_
   | refine LeO.bind ?_ (fun _ => ?_)
theorem downpourref03_Right.mono : ∀ a0 a1 k, LeO (downpourref03_Right.f k a0 a1) (downpourref03_Right.f (k + 1) a0 a1) := by
 intro a0 a1 k
 have ih0 := downpourref03_Right.mono_l k
 unfold downpourref03_Right.f
 repeat' first
   | (with_reducible exact ih0 _ _ _ _ _)
   | (with_reducible exact downpourref01_Right.mono _ _ _)
   | (with_reducible exact LeO.refl _)
   | (with_reducible exact LeO.none _)
   | (with_reducible refine LeO.ite ?_ ?_)
   | (with_reducible refine LeO.bind ?_ (fun _ => ?_))
   | exact ih0 _ _ _ _ _
   | exact downpourref01_Right.mono _ _ _
   | exact LeO.none _
   | refine LeO.ite ?_ ?_
   | refine LeO.bind ?_ (fun _ => ?_)
set_option maxHeartbeats 8000000 in
set_option maxRecDepth 100000 in
theorem downpourref03_Right.calls (k : Nat) (a0_0 : Int) (A0_1 : Option Addr) (c0_1 : Nat) (l0_1 : List (S25)) (r : Bool) (w : World) (hr0_1 : Kd.C k25 w A0_1 l0_1.length l0_1) (hc0_1 : l0_1.length ≤ c0_1) (h : downpourref03_Right.f k a0_0 l0_1 = some r) :
  Calls Tryd.prog 39 #[.agg #[.int .i64 a0_0, .slice A0_1 l0_1.length c0_1]] w fun e w' => e = .returned (.bool r) ∧ Below w.heap.size w w' := by
 have hu55 := Tryd.underlying55
 have hu25 := Tryd.underlying25
 have HR0_1 := Aside0.mk hr0_1
 have HC0_1 := Aside0.mk hc0_1
 clear hr0_1 hc0_1
 have HB := am (Below.refl w.heap.size w)
 have H : (downpourref03_Right.l0 k l0_1 (l0_1.length : Int) 0 a0_0 l0_1) = some r := h
 clear h
 have H' := Aside0.mk H
 clear H
 go_enter Tryd.func39, Tryd.ntmps39
 go_wp2_with (first | ((with_reducible refine gate_dst (N := 1) rfl ?_); (try (refine gate_guard (by rfl) ?_; dsimp only)); refine box_event ?hg (N := 1) ?hd (cs := #[.int .i64 a0_0, .slice A0_1 l0_1.length c0_1]) (t := 55) ?hr ?_; (case hd => rfl); (case hg => rfl); (case hr => first | (go_simp; done) | (go_simp; rfl)); intro gb299 hg w2 hbox hb; have n0_ := am (below_step (pb HB) hb); have n1_ := am (hbox); have n2_ := am ((by rw [hg]; exact (below_size (pb HB)) : w.heap.size ≤ gb299)); have n3_ := am ((by rw [hg]; exact (below_size (pb HB)) : w.heap.size ≤ gb299)); clear HB; have HB := n0_; have BK299 := n1_; have GW299 := n2_; have GE299 := n3_; clear n0_ n1_ n2_ n3_ hb hbox hg; have hcz3_0 : w2.cell? ⟨gb299, 0, none⟩ = some (.int .i64 a0_0) := (blk_cell BK299.out 0).trans rfl; have hcz3_1 : w2.cell? ⟨gb299, 1, none⟩ = some (.slice A0_1 l0_1.length c0_1) := (blk_cell BK299.out 1).trans rfl; have hfz3_0 := blk_frozen BK299.out 0; have hfz3_1 := blk_frozen BK299.out 1))
 go_loopg [8] k (fun kq v8 w' => ∃ (x8_1 : Int), v8 = .int .i64 x8_1 ∧ Aside0 (downpourref03_Right.l0 kq l0_1 (l0_1.length : Int) x8_1 a0_0 l0_1 = some r) ∧ Aside0 (kq ≤ k) ∧ Aside0 (w'.heap[gb299]? = some (.cells #[.int .i64 a0_0, (.slice A0_1 l0_1.length c0_1)] 55 (0, 0))) ∧ Aside0 (Below w.heap.size w w'))
 case atStart => exact ⟨(0), (by first | rfl | (simp; done) | (simp [*]; done)), H', ⟨Nat.le_refl _⟩, ⟨by (with_reducible repeat (first | refine blk_drewN ?_ _ | refine blk_drew ?_ | refine blk_alloc ?_ _)); exact BK299.out⟩, ⟨pb HB⟩⟩
 case round =>
  clear H'
  try clear p2
  try clear c3
  try clear hcz3_0
  try clear hcz3_1
  try clear hfz3_0
  try clear hfz3_1
  obtain ⟨x8_1, rfl, HA, HK1, BK299, HB⟩ := hrel
  cases gk with
  | zero => exact absurd HA.out (by simp [downpourref03_Right.l0])
  | succ k1 =>
   have H := HA.out
   clear HA
   simp only [downpourref03_Right.l0] at H
   by_cases c4 : x8_1 < (l0_1.length : Int)
   ·
    rw [if_pos c4] at H
    have c4b0 : decide (x8_1 < (l0_1.length : Int)) = true := decide_eq_true c4
    clear c4
    by_cases c5 : 0 ≤ x8_1
    ·
     rw [if_pos c5] at H
     have c5b0 : decide (0 ≤ x8_1) = true := decide_eq_true c5
     clear c5
     by_cases c6 : x8_1 < (l0_1.length : Int)
     ·
      rw [if_pos c6] at H
      have c6b0 : decide (x8_1 < (l0_1.length : Int)) = true := decide_eq_true c6
      clear c6
      by_cases c7 : ((rd_T25 l0_1 x8_1).f0) = a0_0
      ·
       rw [if_pos c7] at H
       have c7b0 : (((rd_T25 l0_1 x8_1).f0) == a0_0) = true := beq_iff_eq.mpr c7
       have c7b1 : (((rd_T25 l0_1 x8_1).f0) != a0_0) = false := bne_eq_false_iff_eq.mpr c7
       clear c7
       replace H := Option.bind_eq_some_iff.mp H
       obtain ⟨t302, A80, H⟩ := H
       replace H : (if t302 = true then (downpourref03_Right.l0 k1 l0_1 (l0_1.length : Int) (wrap64 (x8_1 + 1)) a0_0 l0_1) else (some false)) = some r := H
       have A8 := Aside0.mk A80
       clear A80
       by_cases c9 : t302 = true
       ·
        subst c9
        have H1 : (downpourref03_Right.l0 k1 l0_1 (l0_1.length : Int) (wrap64 (x8_1 + 1)) a0_0 l0_1) = some r := by rw [if_pos rfl] at H; exact H
        clear H
        have H := H1
        clear H1
        have H' := Aside0.mk H
        clear H
        have p300 : 0 ≤ (x8_1 : Int) := of_decide_eq_true (by first | (with_reducible assumption) | assumption)
        have q300 : x8_1 < (l0_1.length : Int) := of_decide_eq_true (by first | (with_reducible assumption) | assumption)
        obtain ⟨ad300, A300_1, c300_1, e300, hx300_0, hx300_1, hl300_1, hi300_1⟩ := at_T25 HR0_1.out x8_1 p300 q300
        cases e300
        replace hx300_0 := (HB.out.cell (World.block_lt_of_cell? w _ hx300_0)).trans hx300_0
        replace hx300_1 := (HB.out.cell (World.block_lt_of_cell? w _ hx300_1)).trans hx300_1
        have HR300_1 := Aside0.mk hi300_1
        have HC300_1 := Aside0.mk hl300_1
        clear hi300_1 hl300_1
        replace p300 := eq_true p300
        replace q300 := eq_true q300
        go_wp2_with (first | ((with_reducible refine gate_dst (N := 4) rfl ?_); (try (refine gate_guard (by rfl) ?_; dsimp only)); refine box_event ?hg (N := 4) ?hd (cs := #[.int .i64 0, .slice none 0 0]) (t := 25) ?hr ?_; (case hd => rfl); (case hg => rfl); (case hr => first | (go_simp; done) | (go_simp; rfl)); intro gb301 hg w10 hbox hb; have n0_ := bb BK299 hb; have n1_ := am (below_step (pb HB) hb); have n2_ := am (hbox); have n3_ := am ((by rw [hg]; exact (below_size (pb HB)) : w.heap.size ≤ gb301)); have n4_ := am ((by rw [hg]; exact (below_size (pb HB)) : w.heap.size ≤ gb301)); have n5_ := am ((by rw [hg]; exact Nat.ne_of_lt (bl BK299) : gb299 ≠ gb301)); have n6_ := am ((by rw [hg]; exact Nat.ne_of_gt (bl BK299) : gb301 ≠ gb299)); clear BK299 HB; have BK299 := n0_; have HB := n1_; have BK301 := n2_; have GW301 := n3_; have GE301 := n4_; have NB299_301 := n5_; have NB301_299 := n6_; clear n0_ n1_ n2_ n3_ n4_ n5_ n6_ hb hbox hg; have hnb11 := NB301_299.out; have hnc11 := NB299_301.out; have hcz12_0 : w10.cell? ⟨gb301, 0, none⟩ = some (.int .i64 0) := (blk_cell BK301.out 0).trans rfl; have hcz12_1 : w10.cell? ⟨gb301, 1, none⟩ = some (.slice none 0 0) := (blk_cell BK301.out 1).trans rfl; have hfz12_0 := blk_frozen BK301.out 0; have hfz12_1 := blk_frozen BK301.out 1; have hcz13_0 : w10.cell? ⟨gb299, 0, none⟩ = some (.int .i64 a0_0) := (blk_cell BK299.out 0).trans rfl; have hcz13_1 : w10.cell? ⟨gb299, 1, none⟩ = some (.slice (some ad300) l0_1.length c0_1) := (blk_cell BK299.out 1).trans rfl; have hfz13_0 := blk_frozen BK299.out 0; have hfz13_1 := blk_frozen BK299.out 1) | (go_at_call 15; (with_reducible refine (downpourref01_Right.calls k1 ((rd_T25 l0_1 x8_1).f0) _ _ ((rd_T25 l0_1 x8_1).f1) true _ ?side1 ?side2 A8.out).mono ?_); (case side1 => exact Kd.C_below HR300_1.out (pb HB)); (case side2 => exact HC300_1.out); rintro e w14 ⟨rfl, hb⟩; have n0_ := am (blk_below (g := gb299) (o := .cells #[.int .i64 a0_0, .slice (some ad300) l0_1.length c0_1] 55 (0, 0)) (by (with_reducible repeat (first | refine blk_drewN ?_ _ | refine blk_drew ?_ | refine blk_alloc ?_ _)); refine blk_far ?_ NB299_301.out _; (with_reducible repeat (first | refine blk_drewN ?_ _ | refine blk_drew ?_ | refine blk_alloc ?_ _)); refine blk_far ?_ NB299_301.out _; (with_reducible repeat (first | refine blk_drewN ?_ _ | refine blk_drew ?_ | refine blk_alloc ?_ _)); exact BK299.out) hb); have n1_ := am (blk_below (g := gb301) (o := .cells #[.int .i64 ((rd_T25 l0_1 x8_1).f0), .slice A300_1 ((rd_T25 l0_1 x8_1).f1).length c300_1] 25 (0, 0)) (by (with_reducible repeat (first | refine blk_drewN ?_ _ | refine blk_drew ?_ | refine blk_alloc ?_ _)); refine blk_put (cs := #[.int .i64 ((rd_T25 l0_1 x8_1).f0), .slice none 0 0]) ?_ 1 _ rfl; (with_reducible repeat (first | refine blk_drewN ?_ _ | refine blk_drew ?_ | refine blk_alloc ?_ _)); refine blk_put (cs := #[.int .i64 0, .slice none 0 0]) ?_ 0 _ rfl; (with_reducible repeat (first | refine blk_drewN ?_ _ | refine blk_drew ?_ | refine blk_alloc ?_ _)); exact BK301.out) hb); have n2_ := am (below_step (pb HB) hb); clear BK299 BK301 HB; have BK299 := n0_; have BK301 := n1_; have HB := n2_; clear n0_ n1_ n2_; (try clear hb); (try clear hb2); (try clear hk); (try clear hi)))
        go_roundg k1
        case measure => have := HK1.out; omega
        case rel => exact ⟨(wrap64 (x8_1 + 1)), (by first | rfl | (simp; done) | (simp [*]; done)), H', ⟨by have := HK1.out; omega⟩, ⟨by (with_reducible repeat (first | refine blk_drewN ?_ _ | refine blk_drew ?_ | refine blk_alloc ?_ _)); exact BK299.out⟩, ⟨pb HB⟩⟩
       ·
        replace c9 := Bool.eq_false_iff.mpr c9
        subst c9
        have H1 : (some false) = some r := by rw [if_neg (show ¬ (false = true) by decide)] at H; exact H
        clear H
        have H := H1
        clear H1
        obtain rfl := Option.some.inj H
        have p300 : 0 ≤ (x8_1 : Int) := of_decide_eq_true (by first | (with_reducible assumption) | assumption)
        have q300 : x8_1 < (l0_1.length : Int) := of_decide_eq_true (by first | (with_reducible assumption) | assumption)
        obtain ⟨ad300, A300_1, c300_1, e300, hx300_0, hx300_1, hl300_1, hi300_1⟩ := at_T25 HR0_1.out x8_1 p300 q300
        cases e300
        replace hx300_0 := (HB.out.cell (World.block_lt_of_cell? w _ hx300_0)).trans hx300_0
        replace hx300_1 := (HB.out.cell (World.block_lt_of_cell? w _ hx300_1)).trans hx300_1
        have HR300_1 := Aside0.mk hi300_1
        have HC300_1 := Aside0.mk hl300_1
        clear hi300_1 hl300_1
        replace p300 := eq_true p300
        replace q300 := eq_true q300
        go_wp2_with (first | ((with_reducible refine gate_dst (N := 4) rfl ?_); (try (refine gate_guard (by rfl) ?_; dsimp only)); refine box_event ?hg (N := 4) ?hd (cs := #[.int .i64 0, .slice none 0 0]) (t := 25) ?hr ?_; (case hd => rfl); (case hg => rfl); (case hr => first | (go_simp; done) | (go_simp; rfl)); intro gb301 hg w15 hbox hb; have n0_ := bb BK299 hb; have n1_ := am (below_step (pb HB) hb); have n2_ := am (hbox); have n3_ := am ((by rw [hg]; exact (below_size (pb HB)) : w.heap.size ≤ gb301)); have n4_ := am ((by rw [hg]; exact (below_size (pb HB)) : w.heap.size ≤ gb301)); have n5_ := am ((by rw [hg]; exact Nat.ne_of_lt (bl BK299) : gb299 ≠ gb301)); have n6_ := am ((by rw [hg]; exact Nat.ne_of_gt (bl BK299) : gb301 ≠ gb299)); clear BK299 HB; have BK299 := n0_; have HB := n1_; have BK301 := n2_; have GW301 := n3_; have GE301 := n4_; have NB299_301 := n5_; have NB301_299 := n6_; clear n0_ n1_ n2_ n3_ n4_ n5_ n6_ hb hbox hg; have hnb16 := NB301_299.out; have hnc16 := NB299_301.out; have hcz17_0 : w15.cell? ⟨gb301, 0, none⟩ = some (.int .i64 0) := (blk_cell BK301.out 0).trans rfl; have hcz17_1 : w15.cell? ⟨gb301, 1, none⟩ = some (.slice none 0 0) := (blk_cell BK301.out 1).trans rfl; have hfz17_0 := blk_frozen BK301.out 0; have hfz17_1 := blk_frozen BK301.out 1; have hcz18_0 : w15.cell? ⟨gb299, 0, none⟩ = some (.int .i64 a0_0) := (blk_cell BK299.out 0).trans rfl; have hcz18_1 : w15.cell? ⟨gb299, 1, none⟩ = some (.slice (some ad300) l0_1.length c0_1) := (blk_cell BK299.out 1).trans rfl; have hfz18_0 := blk_frozen BK299.out 0; have hfz18_1 := blk_frozen BK299.out 1) | (go_at_call 15; (with_reducible refine (downpourref01_Right.calls k1 ((rd_T25 l0_1 x8_1).f0) _ _ ((rd_T25 l0_1 x8_1).f1) false _ ?side1 ?side2 A8.out).mono ?_); (case side1 => exact Kd.C_below HR300_1.out (pb HB)); (case side2 => exact HC300_1.out); rintro e w19 ⟨rfl, hb⟩; have n0_ := am (blk_below (g := gb299) (o := .cells #[.int .i64 a0_0, .slice (some ad300) l0_1.length c0_1] 55 (0, 0)) (by (with_reducible repeat (first | refine blk_drewN ?_ _ | refine blk_drew ?_ | refine blk_alloc ?_ _)); refine blk_far ?_ NB299_301.out _; (with_reducible repeat (first | refine blk_drewN ?_ _ | refine blk_drew ?_ | refine blk_alloc ?_ _)); refine blk_far ?_ NB299_301.out _; (with_reducible repeat (first | refine blk_drewN ?_ _ | refine blk_drew ?_ | refine blk_alloc ?_ _)); exact BK299.out) hb); have n1_ := am (blk_below (g := gb301) (o := .cells #[.int .i64 ((rd_T25 l0_1 x8_1).f0), .slice A300_1 ((rd_T25 l0_1 x8_1).f1).length c300_1] 25 (0, 0)) (by (with_reducible repeat (first | refine blk_drewN ?_ _ | refine blk_drew ?_ | refine blk_alloc ?_ _)); refine blk_put (cs := #[.int .i64 ((rd_T25 l0_1 x8_1).f0), .slice none 0 0]) ?_ 1 _ rfl; (with_reducible repeat (first | refine blk_drewN ?_ _ | refine blk_drew ?_ | refine blk_alloc ?_ _)); refine blk_put (cs := #[.int .i64 0, .slice none 0 0]) ?_ 0 _ rfl; (with_reducible repeat (first | refine blk_drewN ?_ _ | refine blk_drew ?_ | refine blk_alloc ?_ _)); exact BK301.out) hb); have n2_ := am (below_step (pb HB) hb); clear BK299 BK301 HB; have BK299 := n0_; have BK301 := n1_; have HB := n2_; clear n0_ n1_ n2_; (try clear hb); (try clear hb2); (try clear hk); (try clear hi)))
        go_ret
        exact ⟨by first | rfl | (simp [errW_none, errW_some] <;> rfl) | (simp [*, errW_none, errW_some] <;> rfl), pb HB⟩
      ·
       rw [if_neg c7] at H
       have c7b0 : (((rd_T25 l0_1 x8_1).f0) == a0_0) = false := beq_eq_false_iff_ne.mpr c7
       have c7b1 : (((rd_T25 l0_1 x8_1).f0) != a0_0) = true := bne_iff_ne.mpr c7
       obtain rfl := Option.some.inj H
       have p300 : 0 ≤ (x8_1 : Int) := of_decide_eq_true (by first | (with_reducible assumption) | assumption)
       have q300 : x8_1 < (l0_1.length : Int) := of_decide_eq_true (by first | (with_reducible assumption) | assumption)
       obtain ⟨ad300, A300_1, c300_1, e300, hx300_0, hx300_1, hl300_1, hi300_1⟩ := at_T25 HR0_1.out x8_1 p300 q300
       cases e300
       replace hx300_0 := (HB.out.cell (World.block_lt_of_cell? w _ hx300_0)).trans hx300_0
       replace hx300_1 := (HB.out.cell (World.block_lt_of_cell? w _ hx300_1)).trans hx300_1
       have HR300_1 := Aside0.mk hi300_1
       have HC300_1 := Aside0.mk hl300_1
       clear hi300_1 hl300_1
       replace p300 := eq_true p300
       replace q300 := eq_true q300
       go_wp2_with (first | ((with_reducible refine gate_dst (N := 4) rfl ?_); (try (refine gate_guard (by rfl) ?_; dsimp only)); refine box_event ?hg (N := 4) ?hd (cs := #[.int .i64 0, .slice none 0 0]) (t := 25) ?hr ?_; (case hd => rfl); (case hg => rfl); (case hr => first | (go_simp; done) | (go_simp; rfl)); intro gb301 hg w20 hbox hb; have n0_ := bb BK299 hb; have n1_ := am (below_step (pb HB) hb); have n2_ := am (hbox); have n3_ := am ((by rw [hg]; exact (below_size (pb HB)) : w.heap.size ≤ gb301)); have n4_ := am ((by rw [hg]; exact (below_size (pb HB)) : w.heap.size ≤ gb301)); have n5_ := am ((by rw [hg]; exact Nat.ne_of_lt (bl BK299) : gb299 ≠ gb301)); have n6_ := am ((by rw [hg]; exact Nat.ne_of_gt (bl BK299) : gb301 ≠ gb299)); clear BK299 HB; have BK299 := n0_; have HB := n1_; have BK301 := n2_; have GW301 := n3_; have GE301 := n4_; have NB299_301 := n5_; have NB301_299 := n6_; clear n0_ n1_ n2_ n3_ n4_ n5_ n6_ hb hbox hg; have hnb21 := NB301_299.out; have hnc21 := NB299_301.out; have hcz22_0 : w20.cell? ⟨gb301, 0, none⟩ = some (.int .i64 0) := (blk_cell BK301.out 0).trans rfl; have hcz22_1 : w20.cell? ⟨gb301, 1, none⟩ = some (.slice none 0 0) := (blk_cell BK301.out 1).trans rfl; have hfz22_0 := blk_frozen BK301.out 0; have hfz22_1 := blk_frozen BK301.out 1; have hcz23_0 : w20.cell? ⟨gb299, 0, none⟩ = some (.int .i64 a0_0) := (blk_cell BK299.out 0).trans rfl; have hcz23_1 : w20.cell? ⟨gb299, 1, none⟩ = some (.slice (some ad300) l0_1.length c0_1) := (blk_cell BK299.out 1).trans rfl; have hfz23_0 := blk_frozen BK299.out 0; have hfz23_1 := blk_frozen BK299.out 1))
       go_ret
       exact ⟨by first | rfl | (simp [errW_none, errW_some] <;> rfl) | (simp [*, errW_none, errW_some] <;> rfl), pb HB⟩
     ·
      rw [if_neg c6] at H
      exact absurd H (by simp)
    ·
     rw [if_neg c5] at H
     exact absurd H (by simp)
   ·
    rw [if_neg c4] at H
    have c4b0 : decide (x8_1 < (l0_1.length : Int)) = false := decide_eq_false c4
    clear c4
    by_cases c24 : a0_0 ≥ 0
    ·
     rw [if_pos c24] at H
     have c24b0 : decide (0 ≤ a0_0) = true := decide_eq_true c24
     clear c24
     by_cases c25 : a0_0 ≤ 64
     ·
      rw [if_pos c25] at H
      have c25b0 : decide (a0_0 ≤ 64) = true := decide_eq_true c25
      clear c25
      obtain rfl := Option.some.inj H
      have hcz26_0 : wr.cell? ⟨gb299, 0, none⟩ = some (.int .i64 a0_0) := (blk_cell BK299.out 0).trans rfl
      have hcz26_1 : wr.cell? ⟨gb299, 1, none⟩ = some (.slice A0_1 l0_1.length c0_1) := (blk_cell BK299.out 1).trans rfl
      have hfz26_0 := blk_frozen BK299.out 0
      have hfz26_1 := blk_frozen BK299.out 1
      go_wp2
      go_ret
      exact ⟨by first | rfl | (simp [errW_none, errW_some] <;> rfl) | (simp [*, errW_none, errW_some] <;> rfl), pb HB⟩
     ·
      rw [if_neg c25] at H
      have c25b0 : decide (a0_0 ≤ 64) = false := decide_eq_false c25
      clear c25
      obtain rfl := Option.some.inj H
      have hcz27_0 : wr.cell? ⟨gb299, 0, none⟩ = some (.int .i64 a0_0) := (blk_cell BK299.out 0).trans rfl
      have hcz27_1 : wr.cell? ⟨gb299, 1, none⟩ = some (.slice A0_1 l0_1.length c0_1) := (blk_cell BK299.out 1).trans rfl
      have hfz27_0 := blk_frozen BK299.out 0
      have hfz27_1 := blk_frozen BK299.out 1
      go_wp2
      go_ret
      exact ⟨by first | rfl | (simp [errW_none, errW_some] <;> rfl) | (simp [*, errW_none, errW_some] <;> rfl), pb HB⟩
    ·
     rw [if_neg c24] at H
     have c24b0 : decide (0 ≤ a0_0) = false := decide_eq_false c24
     clear c24
     obtain rfl := Option.some.inj H
     have hcz28_0 : wr.cell? ⟨gb299, 0, none⟩ = some (.int .i64 a0_0) := (blk_cell BK299.out 0).trans rfl
     have hcz28_1 : wr.cell? ⟨gb299, 1, none⟩ = some (.slice A0_1 l0_1.length c0_1) := (blk_cell BK299.out 1).trans rfl
     have hfz28_0 := blk_frozen BK299.out 0
     have hfz28_1 := blk_frozen BK299.out 1
     go_wp2
     go_ret
     exact ⟨by first | rfl | (simp [errW_none, errW_some] <;> rfl) | (simp [*, errW_none, errW_some] <;> rfl), pb HB⟩

end Go.Proofs.YtfcedhejbnoinaaDoor.PM
