-- PRINTED by print.py (a twelfth state) out of the translation. Not trusted: Lean checks it.
import Derived.Test.YtfcedhejbnoinaaPCx0
import Derived.Test.YtfcedhejbnoinaaPCx1
import Derived.Test.YtfcedhejbnoinaaPCx5
import Derived.Test.YtfcedhejbnoinaaPCx8
namespace Go.Proofs.Ytfcedhejbnoinaa.PC
open Go.RowKit Go.Proofs.YtfcedhejbnoinaaW.PrintWords Go.Proofs.YtfcedhejbnoinaaW.PrintLast Go.Proofs.YtfcedhejbnoinaaW.PrintMore
open Bool renaming true → T, false → F
open List renaming setIfInBounds_toArray → q1, set_cons_zero → q2, set_cons_succ → q3
attribute [local go_sem] run_store_func max2_int min2_int max_two min_two max_three min_three max_four min_four   -- for this text's walks alone
set_option linter.unusedVariables false
set_option linter.unusedSimpArgs false

/-! ### downpourlaw04_ReduceSpans: function 5 -/
def downpourlaw04_ReduceSpans.j0 : Nat → Bool → Int → Bool → Int → List (S40) → Int → List Int → Option (Bool)
 | 0, _, _, _, _, _, _, _ => none
 | k + 1, x5, x6, x23, x314000, x314001, x315000, x315001 => if x23 = true then ((downpourlaw04_alive.f k).bind fun t324 => (if t324 = true then (if x6 = 1 then (some (!x5)) else (none)) else (none))) else (if x315000 = x314000 then ((downpourlaw04_alive.f k).bind fun t325 => (if t325 = true then (if x6 = 0 then ((downpourref04_Spans.f k x314000 x314001 x315000 x315001).bind fun t326 => (some (x5 == t326))) else (none)) else (none))) else ((downpourlaw04_alive.f k).bind fun t327 => (if t327 = true then (if x6 = 2 then (some (!x5)) else (none)) else (none))))
def downpourlaw04_ReduceSpans.f (k : Nat) (a0_0 : Int) (l0_1 : List (S40)) (a1_0 : Int) (l1_1 : List Int) : Option (Bool) := (downpourlaw04_few.f k a0_0 l0_1).bind fun bt315 => (if 0 ≤ (mn (l1_1.length : Int) 10) then (if (mn (l1_1.length : Int) 10) ≤ (l1_1.length : Int) then ((reduce_Spans.f k bt315.1 bt315.2 a1_0 (l1_1.take ((mn (l1_1.length : Int) 10) : Int).toNat)).bind fun bt320 => ((downpourref03_Right.f k bt315.1 bt315.2).bind fun t322 => (if t322 = true then ((downpourref01_Right.f k a1_0 (l1_1.take ((mn (l1_1.length : Int) 10) : Int).toNat)).bind fun t323 => (downpourlaw04_ReduceSpans.j0 k bt320.1 bt320.2 (!t323) bt315.1 bt315.2 a1_0 (l1_1.take ((mn (l1_1.length : Int) 10) : Int).toNat))) else (downpourlaw04_ReduceSpans.j0 k bt320.1 bt320.2 true bt315.1 bt315.2 a1_0 (l1_1.take ((mn (l1_1.length : Int) 10) : Int).toNat))))) else (none)) else (none))
theorem downpourlaw04_ReduceSpans.mono_l : ∀ k, (∀ y0 y1 y2 y3 y4 y5 y6, LeO (downpourlaw04_ReduceSpans.j0 k y0 y1 y2 y3 y4 y5 y6) (downpourlaw04_ReduceSpans.j0 (k + 1) y0 y1 y2 y3 y4 y5 y6))
 | 0 => fun _ _ _ _ _ _ _ r h => by simp [downpourlaw04_ReduceSpans.j0] at h
 | k + 1 => by
  have ih0 := downpourlaw04_ReduceSpans.mono_l k
  ·
   intro y0 y1 y2 y3 y4 y5 y6
   unfold downpourlaw04_ReduceSpans.j0
   repeat' first
   | (with_reducible exact ih0 _ _ _ _ _ _ _)
   | (with_reducible exact downpourlaw04_alive.mono _)
   | (with_reducible exact downpourlaw04_few.mono _ _ _)
   | (with_reducible exact downpourref01_Right.mono _ _ _)
   | (with_reducible exact downpourref03_Right.mono _ _ _)
   | (with_reducible exact downpourref04_Spans.mono _ _ _ _ _)
   | (with_reducible exact reduce_Spans.mono _ _ _ _ _)
   | (with_reducible exact LeO.refl _)
   | (with_reducible exact LeO.none _)
   | (with_reducible refine LeO.ite ?_ ?_)
   | (with_reducible refine LeO.bind ?_ (fun _ => ?_))
   | exact ih0 _ _ _ _ _ _ _
   | exact downpourlaw04_alive.mono _
   | exact downpourlaw04_few.mono _ _ _
   | exact downpourref01_Right.mono _ _ _
   | exact downpourref03_Right.mono _ _ _
   | exact downpourref04_Spans.mono _ _ _ _ _
   | exact reduce_Spans.mono _ _ _ _ _
   | exact LeO.none _
   | refine LeO.ite ?_ ?_
   | refine LeO.bind ?_ (fun _ => ?_)
theorem downpourlaw04_ReduceSpans.mono : ∀ a0 a1 a2 a3 k, LeO (downpourlaw04_ReduceSpans.f k a0 a1 a2 a3) (downpourlaw04_ReduceSpans.f (k + 1) a0 a1 a2 a3) := by
 intro a0 a1 a2 a3 k
 have ih0 := downpourlaw04_ReduceSpans.mono_l k
 unfold downpourlaw04_ReduceSpans.f
 repeat' first
   | (with_reducible exact ih0 _ _ _ _ _ _ _)
   | (with_reducible exact downpourlaw04_alive.mono _)
   | (with_reducible exact downpourlaw04_few.mono _ _ _)
   | (with_reducible exact downpourref01_Right.mono _ _ _)
   | (with_reducible exact downpourref03_Right.mono _ _ _)
   | (with_reducible exact downpourref04_Spans.mono _ _ _ _ _)
   | (with_reducible exact reduce_Spans.mono _ _ _ _ _)
   | (with_reducible exact LeO.refl _)
   | (with_reducible exact LeO.none _)
   | (with_reducible refine LeO.ite ?_ ?_)
   | (with_reducible refine LeO.bind ?_ (fun _ => ?_))
   | exact ih0 _ _ _ _ _ _ _
   | exact downpourlaw04_alive.mono _
   | exact downpourlaw04_few.mono _ _ _
   | exact downpourref01_Right.mono _ _ _
   | exact downpourref03_Right.mono _ _ _
   | exact downpourref04_Spans.mono _ _ _ _ _
   | exact reduce_Spans.mono _ _ _ _ _
   | exact LeO.none _
   | refine LeO.ite ?_ ?_
   | refine LeO.bind ?_ (fun _ => ?_)
def downpourlaw04_ReduceSpans.T1 : Bool × List (List Nat × List Nat) := (true, [([], []), ([0], [0]), ([], []), ([2], [2]), ([], []), ([4], [4]), ([5], [5]), ([6], [6]), ([3, 7], [3, 7]), ([1, 1, 0, 1], [1]), ([0, 1, 2, 3, 4, 5, 6, 7, 8, 9], []), ([10, 8, 9, 0, 1, 2, 3, 4, 5, 6, 7, 8, 9], [8, 10])])
def downpourlaw04_ReduceSpans.B1 : List Nat := [0, 1, 0, 4, 0, 16, 48, 112, 252, 3, 1023, 2047]
theorem downpourlaw04_ReduceSpans.tab1 : rtab .any (opsOf Try.f5 1) = downpourlaw04_ReduceSpans.T1 := by kernel_rfl
theorem downpourlaw04_ReduceSpans.bits1 : waitsOk downpourlaw04_ReduceSpans.T1.2 downpourlaw04_ReduceSpans.B1 = true := by kernel_rfl
set_option maxHeartbeats 8000000 in
set_option maxRecDepth 100000 in
theorem downpourlaw04_ReduceSpans.calls (k : Nat) (a0_0 : Int) (A0_1 : Option Addr) (c0_1 : Nat) (l0_1 : List (S40)) (a1_0 : Int) (A1_1 : Option Addr) (c1_1 : Nat) (l1_1 : List Int) (r : Bool) (w : World) (hr0_1 : Kd.C k40 w A0_1 l0_1.length l0_1) (hc0_1 : l0_1.length ≤ c0_1) (hr1_1 : Kd.C (Kd.int .u64) w A1_1 l1_1.length l1_1) (hc1_1 : l1_1.length ≤ c1_1) (h : downpourlaw04_ReduceSpans.f k a0_0 l0_1 a1_0 l1_1 = some r) :
  Calls Try.prog 5 #[.agg #[.int .i64 a0_0, .slice A0_1 l0_1.length c0_1], .agg #[.int .i64 a1_0, .slice A1_1 l1_1.length c1_1]] w fun e w' => e = .returned (.bool r) ∧ Below w.heap.size w w' := by
 have hu24 := Try.underlying24
 have hu40 := Try.underlying40
 have HR0_1 := Aside0.mk hr0_1
 have HC0_1 := Aside0.mk hc0_1
 clear hr0_1 hc0_1
 have HR1_1 := Aside0.mk hr1_1
 have HC1_1 := Aside0.mk hc1_1
 clear hr1_1 hc1_1
 have HB := am (Below.refl w.heap.size w)
 have H : ((downpourlaw04_few.f k a0_0 l0_1).bind fun bt315 => (if 0 ≤ (mn (l1_1.length : Int) 10) then (if (mn (l1_1.length : Int) 10) ≤ (l1_1.length : Int) then ((reduce_Spans.f k bt315.1 bt315.2 a1_0 (l1_1.take ((mn (l1_1.length : Int) 10) : Int).toNat)).bind fun bt320 => ((downpourref03_Right.f k bt315.1 bt315.2).bind fun t322 => (if t322 = true then ((downpourref01_Right.f k a1_0 (l1_1.take ((mn (l1_1.length : Int) 10) : Int).toNat)).bind fun t323 => (downpourlaw04_ReduceSpans.j0 k bt320.1 bt320.2 (!t323) bt315.1 bt315.2 a1_0 (l1_1.take ((mn (l1_1.length : Int) 10) : Int).toNat))) else (downpourlaw04_ReduceSpans.j0 k bt320.1 bt320.2 true bt315.1 bt315.2 a1_0 (l1_1.take ((mn (l1_1.length : Int) 10) : Int).toNat))))) else (none)) else (none))) = some r := h
 clear h
 replace H := Option.bind_eq_some_iff.mp H
 obtain ⟨⟨t315, t316⟩, A30, H⟩ := H
 replace H : (if 0 ≤ (mn (l1_1.length : Int) 10) then (if (mn (l1_1.length : Int) 10) ≤ (l1_1.length : Int) then ((reduce_Spans.f k t315 t316 a1_0 (l1_1.take ((mn (l1_1.length : Int) 10) : Int).toNat)).bind fun bt320 => ((downpourref03_Right.f k t315 t316).bind fun t322 => (if t322 = true then ((downpourref01_Right.f k a1_0 (l1_1.take ((mn (l1_1.length : Int) 10) : Int).toNat)).bind fun t323 => (downpourlaw04_ReduceSpans.j0 k bt320.1 bt320.2 (!t323) t315 t316 a1_0 (l1_1.take ((mn (l1_1.length : Int) 10) : Int).toNat))) else (downpourlaw04_ReduceSpans.j0 k bt320.1 bt320.2 true t315 t316 a1_0 (l1_1.take ((mn (l1_1.length : Int) 10) : Int).toNat))))) else (none)) else (none)) = some r := H
 have A3 := Aside0.mk A30
 clear A30
 obtain ⟨ji4, hji4⟩ : ∃ j_ : Int, (mn (l1_1.length : Int) 10) = j_ := ⟨_, rfl⟩
 obtain ⟨yji4, hyji4⟩ : ∃ y_, (l1_1.take ((ji4) : Int).toNat) = y_ := ⟨_, rfl⟩
 replace H : (if 0 ≤ (ji4) then (if (ji4) ≤ (l1_1.length : Int) then ((reduce_Spans.f k t315 t316 a1_0 yji4).bind fun bt320 => ((downpourref03_Right.f k t315 t316).bind fun t322 => (if t322 = true then ((downpourref01_Right.f k a1_0 yji4).bind fun t323 => (downpourlaw04_ReduceSpans.j0 k bt320.1 bt320.2 (!t323) t315 t316 a1_0 yji4)) else (downpourlaw04_ReduceSpans.j0 k bt320.1 bt320.2 true t315 t316 a1_0 yji4)))) else (none)) else (none)) = some r := by (try rw [← hyji4]); first | (rw [hji4] at H; exact H) | (simp only [hji4] at H ⊢; exact H)
 (try rw [hji4] at A3)
 (try (have hji4h : ji4 ≤ 10 := by (rw [← hji4]; unfold mn; (repeat' split) <;> omega)))
 (try (have hji4g : ji4 ≤ 64 := by omega))
 (try (have hji4l : 0 ≤ ji4 := by (rw [← hji4]; unfold mn; (repeat' split) <;> omega)))
 (try (have hji4m : 0 ≤ ji4 := by omega))
 have hji4_ : (if 10 < (l1_1.length : Int) then 10 else (l1_1.length : Int)) = ji4 := hji4
 by_cases c5 : 0 ≤ (ji4)
 ·
  rw [if_pos c5] at H
  have c5b0 := eq_true c5
  have c5b1 : decide (0 ≤ (ji4)) = true := decide_eq_true c5
  clear c5
  by_cases c6 : (ji4) ≤ (l1_1.length : Int)
  ·
   rw [if_pos c6] at H
   have c6b0 := eq_true c6
   have c6b1 : decide ((ji4) ≤ (l1_1.length : Int)) = true := decide_eq_true c6
   clear c6
   replace H := Option.bind_eq_some_iff.mp H
   obtain ⟨⟨t320, t321⟩, A70, H⟩ := H
   replace H : ((downpourref03_Right.f k t315 t316).bind fun t322 => (if t322 = true then ((downpourref01_Right.f k a1_0 yji4).bind fun t323 => (downpourlaw04_ReduceSpans.j0 k t320 t321 (!t323) t315 t316 a1_0 yji4)) else (downpourlaw04_ReduceSpans.j0 k t320 t321 true t315 t316 a1_0 yji4))) = some r := H
   have A7 := Aside0.mk A70
   clear A70
   have HC8 := Aside0.mk H
   clear H
   go_enter Try.func5, Try.ntmps5
   try go_wp2_with (first | ((with_reducible refine gate_dst (N := 2) rfl ?_); refine box_event ?hg (N := 2) ?hd (cs := #[.int .i64 a0_0, .slice A0_1 l0_1.length c0_1]) (t := 24) ?hr ?_; (case hd => rfl); (case hg => rfl); (case hr => first | (go_simp; done) | (go_simp; rfl)); intro gb313 hg w9 hbox hb; have n0_ := am (below_step (pb HB) hb); have n1_ := am (hbox); have n2_ := am ((by rw [hg]; exact (below_size (pb HB)) : w.heap.size ≤ gb313)); have n3_ := am ((by rw [hg]; exact (below_size (pb HB)) : w.heap.size ≤ gb313)); clear HB; have HB := n0_; have BK313 := n1_; have GW313 := n2_; have GE313 := n3_; clear n0_ n1_ n2_ n3_ hb hbox hg) | ((with_reducible refine gate_dst (N := 3) rfl ?_); refine box_event ?hg (N := 3) ?hd (cs := #[.int .i64 a1_0, .slice A1_1 l1_1.length c1_1]) (t := 40) ?hr ?_; (case hd => rfl); (case hg => rfl); (case hr => first | (go_simp; done) | (go_simp; rfl)); intro gb314 hg w10 hbox hb; have n0_ := bb BK313 hb; have n1_ := am (below_step (pb HB) hb); have n2_ := am (hbox); have n3_ := am ((by rw [hg]; exact (below_size (pb HB)) : w.heap.size ≤ gb314)); have n4_ := am ((by rw [hg]; exact (below_size (pb HB)) : w.heap.size ≤ gb314)); have n5_ := am ((by rw [hg]; exact Nat.ne_of_lt (bl BK313) : gb313 ≠ gb314)); have n6_ := am ((by rw [hg]; exact Nat.ne_of_gt (bl BK313) : gb314 ≠ gb313)); clear BK313 HB; have BK313 := n0_; have HB := n1_; have BK314 := n2_; have GW314 := n3_; have GE314 := n4_; have NB313_314 := n5_; have NB314_313 := n6_; clear n0_ n1_ n2_ n3_ n4_ n5_ n6_ hb hbox hg))
   have n0_ := am (blk_drew BK313.out)
   have n1_ := am (blk_drew BK314.out)
   have n2_ := am (below_drew1 HB.out)
   clear BK313
   clear BK314
   clear HB
   have BK313 := n0_
   have BK314 := n1_
   have HB := n2_
   clear n0_ n1_ n2_
   obtain ⟨i012, hi012, _, hsz12, _⟩ := info_parts info48
   obtain ⟨hcut12, hA12, hC12⟩ := print_take_of (P := Try.prog) (Value.int .u64) 0 38 48 .i64 Try.underlying38 hi012 hsz12 A1_1 c1_1 l1_1 (ji4) (of_decide_eq_true (by first | (with_reducible assumption) | assumption)) (of_decide_eq_true (by first | (with_reducible assumption) | assumption)) HC1_1.out
   (try simp only [hyji4] at hcut12 hA12 hC12)
   have HR319 := am (Kd.C_of_reads (h1 := fun _ => rfl) (hA12 _ (Kd.reads_of_C HR1_1.out)))
   have HC319 := Aside0.mk hC12
   clear hA12 hC12 hi012 hsz12
   refine startG_ (n := 12) [(fun w' => w'.cell? ⟨gb313, 0, none⟩ = some (.int .i64 a0_0) ∧ w'.cell? ⟨gb313, 1, none⟩ = some (.slice A0_1 l0_1.length c0_1), [9, 11]), (fun w' => w'.cell? ⟨gb314, 0, none⟩ = some (.int .i64 a1_0) ∧ w'.cell? ⟨gb314, 1, none⟩ = some (.slice A1_1 l1_1.length c1_1), [11])] #[F, F, F, F, F, F, F, F, F, F, F, F] (by kernel_rfl) rfl rfl ?_; refine with_tabG downpourlaw04_ReduceSpans.tab1 downpourlaw04_ReduceSpans.bits1 (fun HT_ HW_ => ?_)
   generalize w10.drew = w11 at BK313 BK314 HB ⊢
   -- TAB
   refine pureG_ (i := 2) (N := some 9) (v := ?_) (a' := ?_) #[F, F, T, F, F, F, F, F, F, F, F, F] rfl rfl (any_of HT_.out (by kernel_rfl)) (fun _ _ _ h => h) (Or.inl ⟨by rfl, ?_⟩) ?_ ?_
   rotate_left
   ·
    intro w'
    go_simp
    with_reducible rfl
   rotate_left
   ·
    simp only [Act.put, q1, q2, q3, i64_w, i32_w]
    rfl
   refine pureG_ (i := 4) (N := some 11) (v := ?_) (a' := ?_) #[F, F, T, F, T, F, F, F, F, F, F, F] rfl rfl (any_of HT_.out (by kernel_rfl)) (fun _ _ _ h => h) (Or.inl ⟨by rfl, ?_⟩) ?_ ?_
   rotate_left
   ·
    intro w'
    go_simp
    with_reducible rfl
   rotate_left
   ·
    simp only [Act.put, q1, q2, q3, i64_w, i32_w]
    rfl
   refine takeG_ (i := 0) (N := some 7) (v := ?_) (a' := ?_) (fun w' => w'.cell? ⟨gb313, 0, none⟩ = some (.int .i64 a0_0) ∧ w'.cell? ⟨gb313, 1, none⟩ = some (.slice A0_1 l0_1.length c0_1)) [9, 11] (.head _) #[T, F, T, F, T, F, F, F, F, F, F, F] rfl rfl (take_ofW HT_.out HW_.out (by kernel_rfl)) (fun _ _ _ h => h) (Or.inl ⟨by rfl, ?_⟩) ⟨(blk_cell BK313.out 0).trans rfl, (blk_cell BK313.out 1).trans rfl⟩ ?_ ?_
   rotate_left
   ·
    rintro w' ⟨s0, s1⟩
    go_simp
    with_reducible rfl
   rotate_left
   ·
    simp only [Act.put, q1, q2, q3, i64_w, i32_w]
    rfl
   refine takeG_ (i := 3) (N := some 10) (v := ?_) (a' := ?_) (fun w' => w'.cell? ⟨gb314, 0, none⟩ = some (.int .i64 a1_0) ∧ w'.cell? ⟨gb314, 1, none⟩ = some (.slice A1_1 l1_1.length c1_1)) [11] (.tail _ (.head _)) #[T, F, T, T, T, F, F, F, F, F, F, F] rfl rfl (take_ofW HT_.out HW_.out (by kernel_rfl)) (fun _ _ _ h => h) (Or.inl ⟨by rfl, ?_⟩) ⟨(blk_cell BK314.out 0).trans rfl, (blk_cell BK314.out 1).trans rfl⟩ ?_ ?_
   rotate_left
   ·
    rintro w' ⟨s0, s1⟩
    go_simp
    with_reducible rfl
   rotate_left
   ·
    simp only [Act.put, q1, q2, q3, i64_w, i32_w]
    rfl
   refine takeG_ (i := 5) (N := some 12) (v := ?_) (a' := ?_) (fun w' => w'.cell? ⟨gb314, 0, none⟩ = some (.int .i64 a1_0) ∧ w'.cell? ⟨gb314, 1, none⟩ = some (.slice A1_1 l1_1.length c1_1)) [11] (.tail _ (.head _)) #[T, F, T, T, T, T, F, F, F, F, F, F] rfl rfl (take_ofW HT_.out HW_.out (by kernel_rfl)) (fun _ _ _ h => h) (Or.inl ⟨by rfl, ?_⟩) ⟨(blk_cell BK314.out 0).trans rfl, (blk_cell BK314.out 1).trans rfl⟩ ?_ ?_
   rotate_left
   ·
    rintro w' ⟨s0, s1⟩
    go_simp
    with_reducible rfl
   rotate_left
   ·
    simp only [Act.put, q1, q2, q3, i64_w, i32_w]
    rfl
   refine pureG_ (i := 6) (N := some 13) (v := ?_) (a' := ?_) #[T, F, T, T, T, T, T, F, F, F, F, F] rfl rfl (any_of HT_.out (by kernel_rfl)) (fun _ _ _ h => h) (Or.inl ⟨by rfl, ?_⟩) ?_ ?_
   rotate_left
   ·
    intro w'
    go_simp
    with_reducible rfl
   rotate_left
   ·
    simp only [Act.put, q1, q2, q3, i64_w, i32_w]
    rfl
   refine pureG_ (i := 7) (N := some 14) (v := ?_) (a' := ?_) #[T, F, T, T, T, T, T, T, F, F, F, F] rfl rfl (any_of HT_.out (by kernel_rfl)) (fun _ _ _ h => h) (Or.inl ⟨by rfl, ?_⟩) ?_ ?_
   rotate_left
   ·
    intro w'
    go_simp
    with_reducible rfl
   rotate_left
   ·
    simp only [Act.put, q1, q2, q3, i64_w, i32_w]
    rfl
   refine pureG_ (i := 8) (N := some 15) (v := ?_) (a' := ?_) #[T, F, T, T, T, T, T, T, T, F, F, F] rfl rfl (any_of HT_.out (by kernel_rfl)) (fun _ _ _ h => h) (Or.inl ⟨by rfl, ?_⟩) ?_ ?_
   rotate_left
   ·
    intro w'
    go_simp
    with_reducible rfl
   rotate_left
   ·
    simp only [Act.put, q1, q2, q3, i64_w, i32_w]
    rfl
   refine oneG_ (i := 1) (N := some 8) #[T, T, T, T, T, T, T, T, T, F, F, F] rfl rfl (one_of HT_.out (by kernel_rfl)) (fun K hK => ?_)
   refine goes_ Try.func7 (by kernel_rfl) rfl #[.agg #[.int .i64 a0_0, .slice A0_1 l0_1.length c0_1]] (by rfl) rfl rfl (by (try simp only [List.map_toArray, List.map_cons, List.map_nil]); first | done | rfl | (simp only [List.length_drop, List.length_take]; rfl)) ?_
   with_reducible refine (downpourlaw04_few.calls k a0_0 (fun k_ => k_ < w.heap.size) _ _ l0_1 t315 t316 _ ?side1 A3.out).mono ?_
   (case side1 => exact Kd.V_mk HC0_1.out (Kd.F_below (Kd.C_F k40_heap HR0_1.out) (pb HB)))
   rintro e w13 ⟨v317, rfl, ho0, hb⟩
   refine ⟨_, rfl, ?_⟩
   have n0_ := am (Kd.N_lower (Kd.N_mono (ok' := fun k_ => k_ ≠ gb313 ∧ k_ ≠ gb314) ho0 (fun k_ hk_ => ⟨Or.elim hk_ (fun hs_ => fun e_ => Nat.not_le.2 hs_ (by rw [e_]; exact GW313.out)) (fun hn_ => (Kd.freshB (g := gb313) (o := .cells #[.int .i64 a0_0, .slice A0_1 l0_1.length c0_1] 24 (0, 0)) (pk BK313) k_ hn_)), Or.elim hk_ (fun hs_ => fun e_ => Nat.not_le.2 hs_ (by rw [e_]; exact GW314.out)) (fun hn_ => (Kd.freshB (g := gb314) (o := .cells #[.int .i64 a1_0, .slice A1_1 l1_1.length c1_1] 40 (0, 0)) (pk BK314) k_ hn_))⟩)) (below_size (pb HB)))
   have n1_ := bb BK313 hb
   have n2_ := bb BK314 hb
   have n3_ := am (below_step (pb HB) hb)
   clear BK313
   clear BK314
   clear HB
   have HO318 := n0_
   have BK313 := n1_
   have BK314 := n2_
   have HB := n3_
   clear n0_ n1_ n2_ n3_
   (try clear hb)
   (try clear hb2)
   (try clear hk)
   (try clear hi)
   (try clear ho0)
   obtain ⟨Ao15, co15, eo15⟩ := Kd.N_slice HO318.out
   (first | subst eo15 | (injection eo15 with f1_ f2_ f3_; have f4_ := f1_.symm; have f5_ := f3_.symm; clear f1_ f2_ f3_; subst f4_; subst f5_))
   refine hK.out _ _ (Goes.cons ⟨(blk_cell BK313.out 0).trans rfl, (blk_cell BK313.out 1).trans rfl⟩ (Goes.cons ⟨(blk_cell BK314.out 0).trans rfl, (blk_cell BK314.out 1).trans rfl⟩ Goes.nil)) ?_
   clear hK K
   refine normG_ (a' := ?_) ?_ ?_
   rotate_left
   ·
    show Act.put _ (some 8) _ = _
    simp only [Act.put, q1, q2, q3, i64_w, i32_w]
    rfl
   refine oneG_ (i := 9) (N := none) #[T, T, T, T, T, T, T, T, T, T, F, F] rfl rfl (one_of HT_.out (by kernel_rfl)) (fun K hK => ?_)
   have hs14 : w13.cell? ⟨gb313, 0, none⟩ = some (.int .i64 a0_0) := (blk_cell BK313.out 0).trans rfl
   have hfs14 := blk_frozen BK313.out 0
   have hns14_1 := NB314_313.out
   have hms14_1 := NB313_314.out
   have hs16 : w13.cell? ⟨gb313, 1, none⟩ = some (.slice A0_1 l0_1.length c0_1) := (blk_cell BK313.out 1).trans rfl
   have hfs16 := blk_frozen BK313.out 1
   have hns16_1 := NB314_313.out
   have hms16_1 := NB313_314.out
   refine skip_ (w1 := ?_) (by rfl) rfl ?_ ?_
   rotate_left
   ·
    go_simp
    rfl
   refine hK.out _ _ (Goes.skip (by decide) (Goes.cons ⟨((cell_far (p := ⟨gb313, _, none⟩) NB314_313.out _).trans (((cell_far (p := ⟨gb313, _, none⟩) NB314_313.out _).trans ((blk_cell BK314.out 0).trans rfl)))), ((cell_far (p := ⟨gb313, _, none⟩) NB314_313.out _).trans (((cell_far (p := ⟨gb313, _, none⟩) NB314_313.out _).trans ((blk_cell BK314.out 1).trans rfl))))⟩ Goes.nil)) ?_
   clear hK K
   refine pureG_ (i := 10) (N := some 16) (v := ?_) (a' := ?_) #[T, T, T, T, T, T, T, T, T, T, T, F] rfl rfl (any_of HT_.out (by kernel_rfl)) (fun _ _ _ h => h) (Or.inl ⟨by rfl, ?_⟩) ?_ ?_
   rotate_left
   ·
    intro w'
    go_simp
    with_reducible rfl
   rotate_left
   ·
    simp only [Act.put, q1, q2, q3, i64_w, i32_w]
    rfl
   refine oneG_ (i := 11) (N := none) #[T, T, T, T, T, T, T, T, T, T, T, T] rfl rfl (one_of HT_.out (by kernel_rfl)) (fun K hK => ?_)
   have hs17 : w13.cell? ⟨gb314, 1, none⟩ = some (.slice A1_1 l1_1.length c1_1) := (blk_cell BK314.out 1).trans rfl
   have hfs17 := blk_frozen BK314.out 1
   have hns17_0 := NB313_314.out
   have hms17_0 := NB314_313.out
   refine skip_ (w1 := ?_) (by rfl) rfl ?_ ?_
   rotate_left
   ·
    go_simp
    rfl
   refine hK.out _ _ (Goes.skip (by decide) (Goes.skip (by decide) Goes.nil)) ?_
   clear hK K
   refine doneG_ (done_of HT_.out (by kernel_rfl)) ?_
   have n0_ : Aside0 (Kd.N k40 40 (((w13.setCell ⟨gb313, 0, none⟩ (.int .i64 t315)).setCell ⟨gb313, 1, none⟩ (.slice Ao15 t316.length co15)).setCell ⟨gb314, 1, none⟩ (.slice A1_1 yji4.length c1_1)) w.heap.size (fun k_ => k_ ≠ gb313 ∧ k_ ≠ gb314) (.slice Ao15 t316.length co15) t316) := ⟨by (with_reducible repeat (first | apply Kd.N_alloc | apply Kd.N_drewN | apply Kd.N_drew)); exact Kd.N_mono (Kd.N_far (p := ⟨gb314, 1, none⟩) (Kd.N_far (p := ⟨gb313, 1, none⟩) (Kd.N_far (p := ⟨gb313, 0, none⟩) (Kd.N_mono (Kd.N_mono HO318.out (fun k_ hk => (⟨hk, hk.1⟩ : _ ∧ k_ ≠ gb313))) (fun k_ hk => (⟨hk, hk.1.2⟩ : _ ∧ k_ ≠ gb314))) (fun _ hk => hk.1.2) (.int .i64 t315)) (fun _ hk => hk.1.2) (.slice Ao15 t316.length co15)) (fun _ hk => hk.2) (.slice A1_1 yji4.length c1_1)) (fun _ hk => ⟨hk.1.1.1, hk.1.1.2⟩)⟩
   have n1_ : Aside0 ((((w13.setCell ⟨gb313, 0, none⟩ (.int .i64 t315)).setCell ⟨gb313, 1, none⟩ (.slice Ao15 t316.length co15)).setCell ⟨gb314, 1, none⟩ (.slice A1_1 yji4.length c1_1)).heap[gb313]? = some (.cells #[.int .i64 t315, .slice Ao15 t316.length co15] 24 (0, 0))) := ⟨by (with_reducible repeat (first | refine blk_drewN ?_ _ | refine blk_drew ?_ | refine blk_alloc ?_ _)); refine blk_far ?_ NB313_314.out _; (with_reducible repeat (first | refine blk_drewN ?_ _ | refine blk_drew ?_ | refine blk_alloc ?_ _)); refine blk_put (cs := #[.int .i64 t315, .slice A0_1 l0_1.length c0_1]) ?_ 1 _ rfl; (with_reducible repeat (first | refine blk_drewN ?_ _ | refine blk_drew ?_ | refine blk_alloc ?_ _)); refine blk_put (cs := #[.int .i64 a0_0, .slice A0_1 l0_1.length c0_1]) ?_ 0 _ rfl; (with_reducible repeat (first | refine blk_drewN ?_ _ | refine blk_drew ?_ | refine blk_alloc ?_ _)); exact BK313.out⟩
   have n2_ : Aside0 ((((w13.setCell ⟨gb313, 0, none⟩ (.int .i64 t315)).setCell ⟨gb313, 1, none⟩ (.slice Ao15 t316.length co15)).setCell ⟨gb314, 1, none⟩ (.slice A1_1 yji4.length c1_1)).heap[gb314]? = some (.cells #[.int .i64 a1_0, .slice A1_1 yji4.length c1_1] 40 (0, 0))) := ⟨by (with_reducible repeat (first | refine blk_drewN ?_ _ | refine blk_drew ?_ | refine blk_alloc ?_ _)); refine blk_put (cs := #[.int .i64 a1_0, .slice A1_1 l1_1.length c1_1]) ?_ 1 _ rfl; (with_reducible repeat (first | refine blk_drewN ?_ _ | refine blk_drew ?_ | refine blk_alloc ?_ _)); refine blk_far ?_ NB314_313.out _; (with_reducible repeat (first | refine blk_drewN ?_ _ | refine blk_drew ?_ | refine blk_alloc ?_ _)); refine blk_far ?_ NB314_313.out _; (with_reducible repeat (first | refine blk_drewN ?_ _ | refine blk_drew ?_ | refine blk_alloc ?_ _)); exact BK314.out⟩
   have n3_ : Aside0 (Below w.heap.size w (((w13.setCell ⟨gb313, 0, none⟩ (.int .i64 t315)).setCell ⟨gb313, 1, none⟩ (.slice Ao15 t316.length co15)).setCell ⟨gb314, 1, none⟩ (.slice A1_1 yji4.length c1_1))) := ⟨pb HB⟩
   (try clear HO318)
   (try clear BK313)
   (try clear BK314)
   (try clear HB)
   generalize (((w13.setCell ⟨gb313, 0, none⟩ (.int .i64 t315)).setCell ⟨gb313, 1, none⟩ (.slice Ao15 t316.length co15)).setCell ⟨gb314, 1, none⟩ (.slice A1_1 yji4.length c1_1)) = w18 at n0_ n1_ n2_ n3_ ⊢
   have HO318 := n0_
   have BK313 := n1_
   have BK314 := n2_
   have HB := n3_
   clear n0_ n1_ n2_ n3_
   have hnb19 := NB313_314.out
   have hnc19 := NB314_313.out
   have hcz20_0 : w18.cell? ⟨gb313, 0, none⟩ = some (.int .i64 t315) := (blk_cell BK313.out 0).trans rfl
   have hcz20_1 : w18.cell? ⟨gb313, 1, none⟩ = some (.slice Ao15 t316.length co15) := (blk_cell BK313.out 1).trans rfl
   have hfz20_0 := blk_frozen BK313.out 0
   have hfz20_1 := blk_frozen BK313.out 1
   have hcz21_0 : w18.cell? ⟨gb314, 0, none⟩ = some (.int .i64 a1_0) := (blk_cell BK314.out 0).trans rfl
   have hcz21_1 : w18.cell? ⟨gb314, 1, none⟩ = some (.slice A1_1 yji4.length c1_1) := (blk_cell BK314.out 1).trans rfl
   have hfz21_0 := blk_frozen BK314.out 0
   have hfz21_1 := blk_frozen BK314.out 1
   go_upto_region 3 with (first | ((with_reducible refine gate_callee (f := 17) rfl ?_); refine goesL_ (some 20) rfl rfl Try.func17 (by kernel_rfl) rfl #[.agg #[.int .i64 t315, .slice Ao15 t316.length co15], .agg #[.int .i64 a1_0, .slice A1_1 yji4.length c1_1]] rfl (by (try simp only [List.map_toArray, List.map_cons, List.map_nil]); first | done | (rw [show yji4.length = (ji4).toNat from (by rw [List.length_take]; have h_ : ((ji4) : Int) ≤ (l1_1.length : Int) := of_decide_eq_true (by first | (with_reducible assumption) | assumption); omega)] <;> rfl) | (simp only [hji4]; rfl) | rfl | (simp only [List.length_drop, List.length_take]; rfl)) ?_; (with_reducible refine (reduce_Spans.calls k t315 (fun k_ => (k_ ≠ gb313 ∧ k_ ≠ gb314)) _ _ t316 a1_0 (fun k_ => k_ < w.heap.size) _ _ yji4 t320 t321 _ ?side1 ?side2 A7.out).mono ?_); (case side1 => exact Kd.N_V (HO318.out)); (case side2 => exact Kd.V_mk HC319.out (Kd.F_below (Kd.C_F (Kd.heap_int .u64) HR319.out) (pb HB))); rintro e w22 ⟨rfl, hb⟩; refine ⟨_, rfl, ?_⟩; have n0_ := am (Kd.N_below (pn HO318) hb); have n1_ := bb BK313 hb; have n2_ := bb BK314 hb; have n3_ := am (below_step (pb HB) hb); clear HO318 BK313 BK314 HB; have HO318 := n0_; have BK313 := n1_; have BK314 := n2_; have HB := n3_; clear n0_ n1_ n2_ n3_; (try clear hb); (try clear hb2); (try clear hk); (try clear hi)))
   (try simp only [Act.put, q1, q2, q3])
   go_cut [23] (fun v23 wc => ∃ (kq : Nat) (x23_7 : Bool), v23 = .bool x23_7 ∧ Aside0 (downpourlaw04_ReduceSpans.j0 kq t320 t321 x23_7 t315 t316 a1_0 yji4 = some r) ∧ Aside0 (kq ≤ k) ∧ Aside0 (Kd.N k40 40 wc w.heap.size (fun k_ => k_ ≠ gb313 ∧ k_ ≠ gb314) (.slice Ao15 t316.length co15) t316) ∧ Aside0 (wc.heap[gb313]? = some (.cells #[.int .i64 t315, (.slice Ao15 t316.length co15)] 24 (0, 0))) ∧ Aside0 (wc.heap[gb314]? = some (.cells #[.int .i64 a1_0, (.slice A1_1 yji4.length c1_1)] 40 (0, 0))) ∧ Aside0 (Below w.heap.size w wc))
   case first =>
    have H := HC8.out
    clear HC8
    replace H := Option.bind_eq_some_iff.mp H
    obtain ⟨t322, A230, H⟩ := H
    replace H : (if t322 = true then ((downpourref01_Right.f k a1_0 yji4).bind fun t323 => (downpourlaw04_ReduceSpans.j0 k t320 t321 (!t323) t315 t316 a1_0 yji4)) else (downpourlaw04_ReduceSpans.j0 k t320 t321 true t315 t316 a1_0 yji4)) = some r := H
    have A23 := Aside0.mk A230
    clear A230
    by_cases c24 : t322 = true
    ·
     subst c24
     have H1 : ((downpourref01_Right.f k a1_0 yji4).bind fun t323 => (downpourlaw04_ReduceSpans.j0 k t320 t321 (!t323) t315 t316 a1_0 yji4)) = some r := by rw [if_pos rfl] at H; exact H
     clear H
     have H := H1
     clear H1
     replace H := Option.bind_eq_some_iff.mp H
     obtain ⟨t323, A250, H⟩ := H
     replace H : (downpourlaw04_ReduceSpans.j0 k t320 t321 (!t323) t315 t316 a1_0 yji4) = some r := H
     have A25 := Aside0.mk A250
     clear A250
     have H' := Aside0.mk H
     clear H
     have hnb26 := NB313_314.out
     have hnc26 := NB314_313.out
     have hcz27_0 : w22.cell? ⟨gb313, 0, none⟩ = some (.int .i64 t315) := (blk_cell BK313.out 0).trans rfl
     have hcz27_1 : w22.cell? ⟨gb313, 1, none⟩ = some (.slice Ao15 t316.length co15) := (blk_cell BK313.out 1).trans rfl
     have hfz27_0 := blk_frozen BK313.out 0
     have hfz27_1 := blk_frozen BK313.out 1
     go_wp2_with (first | ((with_reducible refine gate_callee (f := 10) rfl ?_); refine goesL_ (some 25) rfl rfl Try.func10 (by kernel_rfl) rfl #[.agg #[.int .i64 t315, .slice Ao15 t316.length co15]] rfl (by (try simp only [List.map_toArray, List.map_cons, List.map_nil]); first | done | rfl | (simp only [List.length_drop, List.length_take]; rfl)) ?_; (with_reducible refine (downpourref03_Right.calls k t315 _ _ t316 true _ ?side1 ?side2 A23.out).mono ?_); (case side1 => repeat (first | exact (Kd.N_reads' HO318.out).2.2 | (with_reducible refine Kd.C_alloc ?_ _) | (with_reducible refine Kd.C_drewN ?_ _) | (with_reducible refine Kd.C_drew ?_))); (case side2 => exact (Kd.N_reads' HO318.out).2.1); rintro e w28 ⟨rfl, hb⟩; refine ⟨_, rfl, ?_⟩; have n0_ := am (Kd.N_below (pn HO318) hb); have n1_ := bb BK313 hb; have n2_ := bb BK314 hb; have n3_ := am (below_step (pb HB) hb); clear HO318 BK313 BK314 HB; have HO318 := n0_; have BK313 := n1_; have BK314 := n2_; have HB := n3_; clear n0_ n1_ n2_ n3_; (try clear hb); (try clear hb2); (try clear hk); (try clear hi); have hcz29_0 : w28.cell? ⟨gb314, 0, none⟩ = some (.int .i64 a1_0) := (blk_cell BK314.out 0).trans rfl; have hcz29_1 : w28.cell? ⟨gb314, 1, none⟩ = some (.slice A1_1 yji4.length c1_1) := (blk_cell BK314.out 1).trans rfl; have hfz29_0 := blk_frozen BK314.out 0; have hfz29_1 := blk_frozen BK314.out 1) | (go_at_call 18; (with_reducible refine (downpourref01_Right.calls k a1_0 _ _ yji4 t323 _ ?side1 ?side2 A25.out).mono ?_); (case side1 => repeat (first | exact (Kd.C_below HR319.out HB.out) | (with_reducible refine Kd.C_alloc ?_ _) | (with_reducible refine Kd.C_drewN ?_ _) | (with_reducible refine Kd.C_drew ?_))); (case side2 => exact HC319.out); rintro e w30 ⟨rfl, hb⟩; have n0_ := am (Kd.N_below (pn HO318) hb); have n1_ := bb BK313 hb; have n2_ := bb BK314 hb; have n3_ := am (below_step (pb HB) hb); clear HO318 BK313 BK314 HB; have HO318 := n0_; have BK313 := n1_; have BK314 := n2_; have HB := n3_; clear n0_ n1_ n2_ n3_; (try clear hb); (try clear hb2); (try clear hk); (try clear hi)))
     go_meet
     case rel => exact ⟨_, (!t323), (by first | rfl | (simp; done) | (simp [*]; done)), H', ⟨by first | omega | exact Nat.le_refl _⟩, ⟨by (with_reducible repeat (first | apply Kd.N_alloc | apply Kd.N_drewN | apply Kd.N_drew)); exact HO318.out⟩, ⟨by (with_reducible repeat (first | refine blk_drewN ?_ _ | refine blk_drew ?_ | refine blk_alloc ?_ _)); exact BK313.out⟩, ⟨by (with_reducible repeat (first | refine blk_drewN ?_ _ | refine blk_drew ?_ | refine blk_alloc ?_ _)); exact BK314.out⟩, ⟨pb HB⟩⟩
    ·
     replace c24 := Bool.eq_false_iff.mpr c24
     subst c24
     have H1 : (downpourlaw04_ReduceSpans.j0 k t320 t321 true t315 t316 a1_0 yji4) = some r := by rw [if_neg (show ¬ (false = true) by decide)] at H; exact H
     clear H
     have H := H1
     clear H1
     have H' := Aside0.mk H
     clear H
     have hnb31 := NB313_314.out
     have hnc31 := NB314_313.out
     have hcz32_0 : w22.cell? ⟨gb313, 0, none⟩ = some (.int .i64 t315) := (blk_cell BK313.out 0).trans rfl
     have hcz32_1 : w22.cell? ⟨gb313, 1, none⟩ = some (.slice Ao15 t316.length co15) := (blk_cell BK313.out 1).trans rfl
     have hfz32_0 := blk_frozen BK313.out 0
     have hfz32_1 := blk_frozen BK313.out 1
     go_wp2_with (first | ((with_reducible refine gate_callee (f := 10) rfl ?_); refine goesL_ (some 25) rfl rfl Try.func10 (by kernel_rfl) rfl #[.agg #[.int .i64 t315, .slice Ao15 t316.length co15]] rfl (by (try simp only [List.map_toArray, List.map_cons, List.map_nil]); first | done | rfl | (simp only [List.length_drop, List.length_take]; rfl)) ?_; (with_reducible refine (downpourref03_Right.calls k t315 _ _ t316 false _ ?side1 ?side2 A23.out).mono ?_); (case side1 => repeat (first | exact (Kd.N_reads' HO318.out).2.2 | (with_reducible refine Kd.C_alloc ?_ _) | (with_reducible refine Kd.C_drewN ?_ _) | (with_reducible refine Kd.C_drew ?_))); (case side2 => exact (Kd.N_reads' HO318.out).2.1); rintro e w33 ⟨rfl, hb⟩; refine ⟨_, rfl, ?_⟩; have n0_ := am (Kd.N_below (pn HO318) hb); have n1_ := bb BK313 hb; have n2_ := bb BK314 hb; have n3_ := am (below_step (pb HB) hb); clear HO318 BK313 BK314 HB; have HO318 := n0_; have BK313 := n1_; have BK314 := n2_; have HB := n3_; clear n0_ n1_ n2_ n3_; (try clear hb); (try clear hb2); (try clear hk); (try clear hi)))
     go_meet
     case rel => exact ⟨_, (true), (by first | rfl | (simp; done) | (simp [*]; done)), H', ⟨by first | omega | exact Nat.le_refl _⟩, ⟨by (with_reducible repeat (first | apply Kd.N_alloc | apply Kd.N_drewN | apply Kd.N_drew)); exact HO318.out⟩, ⟨by (with_reducible repeat (first | refine blk_drewN ?_ _ | refine blk_drew ?_ | refine blk_alloc ?_ _)); exact BK313.out⟩, ⟨by (with_reducible repeat (first | refine blk_drewN ?_ _ | refine blk_drew ?_ | refine blk_alloc ?_ _)); exact BK314.out⟩, ⟨pb HB⟩⟩
   case rest =>
    clear HC8
    try clear c1
    try clear c2
    try clear p2
    try clear c3
    try clear c5
    try clear c5b0
    try clear c5b1
    try clear c6
    try clear c6b0
    try clear c6b1
    try clear c7
    try clear c10
    try clear c17
    try clear c19
    try clear c24
    try clear c26
    try clear c31
    try clear hcz20_0
    try clear hcz20_1
    try clear hcz21_0
    try clear hcz21_1
    try clear hcz27_0
    try clear hcz27_1
    try clear hcz29_0
    try clear hcz29_1
    try clear hcz32_0
    try clear hcz32_1
    try clear hfz20_0
    try clear hfz20_1
    try clear hfz21_0
    try clear hfz21_1
    try clear hfz27_0
    try clear hfz27_1
    try clear hfz29_0
    try clear hfz29_1
    try clear hfz32_0
    try clear hfz32_1
    obtain ⟨kq, x23_7, rfl, HA, HJ7, HO_314001, BK313, BK314, HB⟩ := hcut
    cases kq with
    | zero => exact absurd HA.out (by simp [downpourlaw04_ReduceSpans.j0])
    | succ kj7 =>
     have H := HA.out
     clear HA
     simp only [downpourlaw04_ReduceSpans.j0] at H
     by_cases c34 : x23_7 = true
     ·
      subst c34
      have H1 : ((downpourlaw04_alive.f kj7).bind fun t324 => (if t324 = true then (if t321 = 1 then (some (!t320)) else (none)) else (none))) = some r := by rw [if_pos rfl] at H; exact H
      clear H
      have H := H1
      clear H1
      replace H := Option.bind_eq_some_iff.mp H
      obtain ⟨t324, A350, H⟩ := H
      replace H : (if t324 = true then (if t321 = 1 then (some (!t320)) else (none)) else (none)) = some r := H
      have A35 := Aside0.mk A350
      clear A350
      by_cases c36 : t324 = true
      ·
       subst c36
       have H1 : (if t321 = 1 then (some (!t320)) else (none)) = some r := by rw [if_pos rfl] at H; exact H
       clear H
       have H := H1
       clear H1
       by_cases c37 : t321 = 1
       ·
        rw [if_pos c37] at H
        have c37b0 : (t321 == 1) = true := beq_iff_eq.mpr c37
        have c37b1 : (t321 != 1) = false := bne_eq_false_iff_eq.mpr c37
        clear c37
        obtain rfl := Option.some.inj H
        go_wp2_with (first | ((with_reducible refine gate_callee (f := 11) rfl ?_); refine goesL_ (some 32) rfl rfl Try.func11 (by kernel_rfl) rfl #[] rfl (by (try simp only [List.map_toArray, List.map_cons, List.map_nil]); first | done | rfl | (simp only [List.length_drop, List.length_take]; rfl)) ?_; (with_reducible refine (downpourlaw04_alive.calls kj7  true _ A35.out).mono ?_); rintro e w38 ⟨rfl, hb⟩; refine ⟨_, rfl, ?_⟩; have n0_ := am (Kd.N_below (pn HO_314001) hb); have n1_ := bb BK313 hb; have n2_ := bb BK314 hb; have n3_ := am (below_step (pb HB) hb); clear HO_314001 BK313 BK314 HB; have HO_314001 := n0_; have BK313 := n1_; have BK314 := n2_; have HB := n3_; clear n0_ n1_ n2_ n3_; (try clear hb); (try clear hb2); (try clear hk); (try clear hi)))
        go_ret
        exact ⟨by first | rfl | (simp [errW_none, errW_some] <;> rfl) | (simp only [← hji4]; first | rfl | (simp [errW_none, errW_some] <;> rfl)) | (simp [*, errW_none, errW_some] <;> rfl), pb HB⟩
       ·
        rw [if_neg c37] at H
        exact absurd H (by simp)
      ·
       replace c36 := Bool.eq_false_iff.mpr c36
       subst c36
       have H1 : (none) = some r := by rw [if_neg (show ¬ (false = true) by decide)] at H; exact H
       clear H
       have H := H1
       clear H1
       exact absurd H (by simp)
     ·
      replace c34 := Bool.eq_false_iff.mpr c34
      subst c34
      have H1 : (if a1_0 = t315 then ((downpourlaw04_alive.f kj7).bind fun t325 => (if t325 = true then (if t321 = 0 then ((downpourref04_Spans.f kj7 t315 t316 a1_0 yji4).bind fun t326 => (some (t320 == t326))) else (none)) else (none))) else ((downpourlaw04_alive.f kj7).bind fun t327 => (if t327 = true then (if t321 = 2 then (some (!t320)) else (none)) else (none)))) = some r := by rw [if_neg (show ¬ (false = true) by decide)] at H; exact H
      clear H
      have H := H1
      clear H1
      by_cases c39 : a1_0 = t315
      ·
       rw [if_pos c39] at H
       have c39b0 : (a1_0 == t315) = true := beq_iff_eq.mpr c39
       have c39b1 : (a1_0 != t315) = false := bne_eq_false_iff_eq.mpr c39
       clear c39
       replace H := Option.bind_eq_some_iff.mp H
       obtain ⟨t325, A400, H⟩ := H
       replace H : (if t325 = true then (if t321 = 0 then ((downpourref04_Spans.f kj7 t315 t316 a1_0 yji4).bind fun t326 => (some (t320 == t326))) else (none)) else (none)) = some r := H
       have A40 := Aside0.mk A400
       clear A400
       by_cases c41 : t325 = true
       ·
        subst c41
        have H1 : (if t321 = 0 then ((downpourref04_Spans.f kj7 t315 t316 a1_0 yji4).bind fun t326 => (some (t320 == t326))) else (none)) = some r := by rw [if_pos rfl] at H; exact H
        clear H
        have H := H1
        clear H1
        by_cases c42 : t321 = 0
        ·
         rw [if_pos c42] at H
         have c42b0 : (t321 == 0) = true := beq_iff_eq.mpr c42
         have c42b1 : (t321 != 0) = false := bne_eq_false_iff_eq.mpr c42
         clear c42
         replace H := Option.bind_eq_some_iff.mp H
         obtain ⟨t326, A430, H⟩ := H
         replace H : (some (t320 == t326)) = some r := H
         have A43 := Aside0.mk A430
         clear A430
         obtain rfl := Option.some.inj H
         have hnb44 := NB314_313.out
         have hnc44 := NB313_314.out
         have hcz45_0 : wc.cell? ⟨gb314, 0, none⟩ = some (.int .i64 a1_0) := (blk_cell BK314.out 0).trans rfl
         have hcz45_1 : wc.cell? ⟨gb314, 1, none⟩ = some (.slice A1_1 yji4.length c1_1) := (blk_cell BK314.out 1).trans rfl
         have hfz45_0 := blk_frozen BK314.out 0
         have hfz45_1 := blk_frozen BK314.out 1
         have hcz46_0 : wc.cell? ⟨gb313, 0, none⟩ = some (.int .i64 t315) := (blk_cell BK313.out 0).trans rfl
         have hcz46_1 : wc.cell? ⟨gb313, 1, none⟩ = some (.slice Ao15 t316.length co15) := (blk_cell BK313.out 1).trans rfl
         have hfz46_0 := blk_frozen BK313.out 0
         have hfz46_1 := blk_frozen BK313.out 1
         go_wp2_with (first | ((with_reducible refine gate_callee (f := 11) rfl ?_); refine goesL_ (some 56) rfl rfl Try.func11 (by kernel_rfl) rfl #[] rfl (by (try simp only [List.map_toArray, List.map_cons, List.map_nil]); first | done | rfl | (simp only [List.length_drop, List.length_take]; rfl)) ?_; (with_reducible refine (downpourlaw04_alive.calls kj7  true _ A40.out).mono ?_); rintro e w47 ⟨rfl, hb⟩; refine ⟨_, rfl, ?_⟩; have n0_ := am (Kd.N_below (pn HO_314001) hb); have n1_ := bb BK313 hb; have n2_ := bb BK314 hb; have n3_ := am (below_step (pb HB) hb); clear HO_314001 BK313 BK314 HB; have HO_314001 := n0_; have BK313 := n1_; have BK314 := n2_; have HB := n3_; clear n0_ n1_ n2_ n3_; (try clear hb); (try clear hb2); (try clear hk); (try clear hi); have hcz48_0 : w47.cell? ⟨gb313, 0, none⟩ = some (.int .i64 t315) := (blk_cell BK313.out 0).trans rfl; have hcz48_1 : w47.cell? ⟨gb313, 1, none⟩ = some (.slice Ao15 t316.length co15) := (blk_cell BK313.out 1).trans rfl; have hfz48_0 := blk_frozen BK313.out 0; have hfz48_1 := blk_frozen BK313.out 1; have hcz49_0 : w47.cell? ⟨gb314, 0, none⟩ = some (.int .i64 a1_0) := (blk_cell BK314.out 0).trans rfl; have hcz49_1 : w47.cell? ⟨gb314, 1, none⟩ = some (.slice A1_1 yji4.length c1_1) := (blk_cell BK314.out 1).trans rfl; have hfz49_0 := blk_frozen BK314.out 0; have hfz49_1 := blk_frozen BK314.out 1) | (go_at_call 19; (with_reducible refine (downpourref04_Spans.calls kj7 t315 _ _ t316 a1_0 _ _ yji4 t326 _ ?side1 ?side2 ?side3 ?side4 A43.out).mono ?_); (case side1 => repeat (first | exact (Kd.N_reads' HO_314001.out).2.2 | (with_reducible refine Kd.C_alloc ?_ _) | (with_reducible refine Kd.C_drewN ?_ _) | (with_reducible refine Kd.C_drew ?_))); (case side2 => exact (Kd.N_reads' HO_314001.out).2.1); (case side3 => repeat (first | exact (Kd.C_below HR319.out HB.out) | (with_reducible refine Kd.C_alloc ?_ _) | (with_reducible refine Kd.C_drewN ?_ _) | (with_reducible refine Kd.C_drew ?_))); (case side4 => exact HC319.out); rintro e w50 ⟨rfl, hb⟩; have n0_ := am (Kd.N_below (pn HO_314001) hb); have n1_ := bb BK313 hb; have n2_ := bb BK314 hb; have n3_ := am (below_step (pb HB) hb); clear HO_314001 BK313 BK314 HB; have HO_314001 := n0_; have BK313 := n1_; have BK314 := n2_; have HB := n3_; clear n0_ n1_ n2_ n3_; (try clear hb); (try clear hb2); (try clear hk); (try clear hi)))
         go_ret
         exact ⟨by first | rfl | (simp [errW_none, errW_some] <;> rfl) | (simp only [← hji4]; first | rfl | (simp [errW_none, errW_some] <;> rfl)) | (simp [*, errW_none, errW_some] <;> rfl), pb HB⟩
        ·
         rw [if_neg c42] at H
         exact absurd H (by simp)
       ·
        replace c41 := Bool.eq_false_iff.mpr c41
        subst c41
        have H1 : (none) = some r := by rw [if_neg (show ¬ (false = true) by decide)] at H; exact H
        clear H
        have H := H1
        clear H1
        exact absurd H (by simp)
      ·
       rw [if_neg c39] at H
       have c39b0 : (a1_0 == t315) = false := beq_eq_false_iff_ne.mpr c39
       have c39b1 : (a1_0 != t315) = true := bne_iff_ne.mpr c39
       replace H := Option.bind_eq_some_iff.mp H
       obtain ⟨t327, A510, H⟩ := H
       replace H : (if t327 = true then (if t321 = 2 then (some (!t320)) else (none)) else (none)) = some r := H
       have A51 := Aside0.mk A510
       clear A510
       by_cases c52 : t327 = true
       ·
        subst c52
        have H1 : (if t321 = 2 then (some (!t320)) else (none)) = some r := by rw [if_pos rfl] at H; exact H
        clear H
        have H := H1
        clear H1
        by_cases c53 : t321 = 2
        ·
         rw [if_pos c53] at H
         have c53b0 : (t321 == 2) = true := beq_iff_eq.mpr c53
         have c53b1 : (t321 != 2) = false := bne_eq_false_iff_eq.mpr c53
         clear c53
         obtain rfl := Option.some.inj H
         have hnb54 := NB314_313.out
         have hnc54 := NB313_314.out
         have hcz55_0 : wc.cell? ⟨gb314, 0, none⟩ = some (.int .i64 a1_0) := (blk_cell BK314.out 0).trans rfl
         have hcz55_1 : wc.cell? ⟨gb314, 1, none⟩ = some (.slice A1_1 yji4.length c1_1) := (blk_cell BK314.out 1).trans rfl
         have hfz55_0 := blk_frozen BK314.out 0
         have hfz55_1 := blk_frozen BK314.out 1
         have hcz56_0 : wc.cell? ⟨gb313, 0, none⟩ = some (.int .i64 t315) := (blk_cell BK313.out 0).trans rfl
         have hcz56_1 : wc.cell? ⟨gb313, 1, none⟩ = some (.slice Ao15 t316.length co15) := (blk_cell BK313.out 1).trans rfl
         have hfz56_0 := blk_frozen BK313.out 0
         have hfz56_1 := blk_frozen BK313.out 1
         go_wp2_with (first | ((with_reducible refine gate_callee (f := 11) rfl ?_); refine goesL_ (some 47) rfl rfl Try.func11 (by kernel_rfl) rfl #[] rfl (by (try simp only [List.map_toArray, List.map_cons, List.map_nil]); first | done | rfl | (simp only [List.length_drop, List.length_take]; rfl)) ?_; (with_reducible refine (downpourlaw04_alive.calls kj7  true _ A51.out).mono ?_); rintro e w57 ⟨rfl, hb⟩; refine ⟨_, rfl, ?_⟩; have n0_ := am (Kd.N_below (pn HO_314001) hb); have n1_ := bb BK313 hb; have n2_ := bb BK314 hb; have n3_ := am (below_step (pb HB) hb); clear HO_314001 BK313 BK314 HB; have HO_314001 := n0_; have BK313 := n1_; have BK314 := n2_; have HB := n3_; clear n0_ n1_ n2_ n3_; (try clear hb); (try clear hb2); (try clear hk); (try clear hi)))
         go_ret
         exact ⟨by first | rfl | (simp [errW_none, errW_some] <;> rfl) | (simp only [← hji4]; first | rfl | (simp [errW_none, errW_some] <;> rfl)) | (simp [*, errW_none, errW_some] <;> rfl), pb HB⟩
        ·
         rw [if_neg c53] at H
         exact absurd H (by simp)
       ·
        replace c52 := Bool.eq_false_iff.mpr c52
        subst c52
        have H1 : (none) = some r := by rw [if_neg (show ¬ (false = true) by decide)] at H; exact H
        clear H
        have H := H1
        clear H1
        exact absurd H (by simp)
  ·
   rw [if_neg c6] at H
   exact absurd H (by simp)
 ·
  rw [if_neg c5] at H
  exact absurd H (by simp)

end Go.Proofs.Ytfcedhejbnoinaa.PC
