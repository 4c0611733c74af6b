-- PRINTED by print.py (a twelfth state) out of the translation. Not trusted: Lean checks it.
import Derived.Test.YtfcedhejbnoinaaDoorPBx0
import Derived.Test.YtfcedhejbnoinaaDoorPBx1
import Derived.Test.YtfcedhejbnoinaaDoorPBx2
import Derived.Test.YtfcedhejbnoinaaDoorPBx3
namespace Go.Proofs.YtfcedhejbnoinaaDoor.PB
open Go.RowKit Go.Proofs.YtfcedhejbnoinaaDoorW.PrintWords Go.Proofs.YtfcedhejbnoinaaDoorW.PrintLast Go.Proofs.YtfcedhejbnoinaaDoorW.PrintMore
open Bool renaming true → T, false → F
open List renaming setIfInBounds_toArray → q1, set_cons_zero → q2, set_cons_succ → q3
attribute [local go_sem] run_store_func max2_int min2_int max_two min_two max_three min_three max_four min_four   -- for this text's walks alone
set_option linter.unusedVariables false
set_option linter.unusedSimpArgs false

/-! ### downpourlaw02_BlockPicks: function 3 -/
def downpourlaw02_BlockPicks.j0 : Nat → Int → List ByteArray → ByteArray → Int → Bool → Int → List Int → Option (Bool)
 | 0, _, _, _, _, _, _, _ => none
 | k + 1, x0, x1, x7, x8, x51, x160000, x160001 => if x51 = true then ((downpourlaw02_alive.f k).bind fun t169 => (if t169 = true then (if x8 = 1 then (some (x7.toList == ([] : List UInt8))) else (none)) else (none))) else ((downpourlaw02_alive.f k).bind fun t170 => (if t170 = true then (if x8 = 0 then ((downpourref02_Bits.f k x160000 x160001).bind fun t171 => ((downpourref02_Sum.f k x0 x1 t171).bind fun t174 => (some (x7.toList == t174.toList)))) else (none)) else (none)))
def downpourlaw02_BlockPicks.f (k : Nat) (a0 : Int) (l1 : List ByteArray) (a2_0 : Int) (l2_1 : List Int) : Option (Bool) := (downpourlaw02_few.f k l1).bind fun t160 => (if 0 ≤ (mn (l2_1.length : Int) 10) then (if (mn (l2_1.length : Int) 10) ≤ (l2_1.length : Int) then ((block_Pick.f k a0 t160 a2_0 (l2_1.take ((mn (l2_1.length : Int) 10) : Int).toNat)).bind fun bt164 => ((downpourref02_Why.f k a0 t160).bind fun t166 => (if t166 = 0 then ((downpourref01_Right.f k a2_0 (l2_1.take ((mn (l2_1.length : Int) 10) : Int).toNat)).bind fun t168 => (if t168 = true then (downpourlaw02_BlockPicks.j0 k a0 t160 bt164.1 bt164.2 (a2_0 != (t160.length : Int)) a2_0 (l2_1.take ((mn (l2_1.length : Int) 10) : Int).toNat)) else (downpourlaw02_BlockPicks.j0 k a0 t160 bt164.1 bt164.2 true a2_0 (l2_1.take ((mn (l2_1.length : Int) 10) : Int).toNat)))) else ((downpourlaw02_alive.f k).bind fun t167 => (if t167 = true then (if bt164.2 = t166 then (some (bt164.1.toList == ([] : List UInt8))) else (none)) else (none)))))) else (none)) else (none))
theorem downpourlaw02_BlockPicks.mono_l : ∀ k, (∀ y0 y1 y2 y3 y4 y5 y6, LeO (downpourlaw02_BlockPicks.j0 k y0 y1 y2 y3 y4 y5 y6) (downpourlaw02_BlockPicks.j0 (k + 1) y0 y1 y2 y3 y4 y5 y6))
 | 0 => fun _ _ _ _ _ _ _ r h => by simp [downpourlaw02_BlockPicks.j0] at h
 | k + 1 => by
  have ih0 := downpourlaw02_BlockPicks.mono_l k
  ·
   intro y0 y1 y2 y3 y4 y5 y6
   unfold downpourlaw02_BlockPicks.j0
   repeat' first
   | (with_reducible exact ih0 _ _ _ _ _ _ _)
   | (with_reducible exact block_Pick.mono _ _ _ _ _)
   | (with_reducible exact downpourlaw02_alive.mono _)
   | (with_reducible exact downpourlaw02_few.mono _ _)
   | (with_reducible exact downpourref01_Right.mono _ _ _)
   | (with_reducible exact downpourref02_Bits.mono _ _ _)
   | (with_reducible exact downpourref02_Sum.mono _ _ _ _)
   | (with_reducible exact downpourref02_Why.mono _ _ _)
   | (with_reducible exact LeO.refl _)
   | (with_reducible exact LeO.none _)
   | (with_reducible refine LeO.ite ?_ ?_)
   | (with_reducible refine LeO.bind ?_ (fun _ => ?_))
   | exact ih0 _ _ _ _ _ _ _
   | exact block_Pick.mono _ _ _ _ _
   | exact downpourlaw02_alive.mono _
   | exact downpourlaw02_few.mono _ _
   | exact downpourref01_Right.mono _ _ _
   | exact downpourref02_Bits.mono _ _ _
   | exact downpourref02_Sum.mono _ _ _ _
   | exact downpourref02_Why.mono _ _ _
   | exact LeO.none _
   | refine LeO.ite ?_ ?_
   | refine LeO.bind ?_ (fun _ => ?_)
theorem downpourlaw02_BlockPicks.mono : ∀ a0 a1 a2 a3 k, LeO (downpourlaw02_BlockPicks.f k a0 a1 a2 a3) (downpourlaw02_BlockPicks.f (k + 1) a0 a1 a2 a3) := by
 intro a0 a1 a2 a3 k
 have ih0 := downpourlaw02_BlockPicks.mono_l k
 unfold downpourlaw02_BlockPicks.f
 repeat' first
   | (with_reducible exact ih0 _ _ _ _ _ _ _)
   | (with_reducible exact block_Pick.mono _ _ _ _ _)
   | (with_reducible exact downpourlaw02_alive.mono _)
   | (with_reducible exact downpourlaw02_few.mono _ _)
   | (with_reducible exact downpourref01_Right.mono _ _ _)
   | (with_reducible exact downpourref02_Bits.mono _ _ _)
   | (with_reducible exact downpourref02_Sum.mono _ _ _ _)
   | (with_reducible exact downpourref02_Why.mono _ _ _)
   | (with_reducible exact LeO.refl _)
   | (with_reducible exact LeO.none _)
   | (with_reducible refine LeO.ite ?_ ?_)
   | (with_reducible refine LeO.bind ?_ (fun _ => ?_))
   | exact ih0 _ _ _ _ _ _ _
   | exact block_Pick.mono _ _ _ _ _
   | exact downpourlaw02_alive.mono _
   | exact downpourlaw02_few.mono _ _
   | exact downpourref01_Right.mono _ _ _
   | exact downpourref02_Bits.mono _ _ _
   | exact downpourref02_Sum.mono _ _ _ _
   | exact downpourref02_Why.mono _ _ _
   | exact LeO.none _
   | refine LeO.ite ?_ ?_
   | refine LeO.bind ?_ (fun _ => ?_)
def downpourlaw02_BlockPicks.T1 : Bool × List (List Nat × List Nat) := (true, [([], []), ([0], [0]), ([], []), ([2], [2]), ([], []), ([4], [4]), ([5], [5]), ([6], [6]), ([3, 7], [3, 7]), ([1, 1, 0, 1], [0, 1]), ([0, 1, 2, 3, 4, 5, 6, 7, 8, 9], []), ([10, 8, 9, 0, 1, 2, 3, 4, 5, 6, 7, 8, 9], [8, 10])])
def downpourlaw02_BlockPicks.B1 : List Nat := [0, 1, 0, 4, 0, 16, 48, 112, 252, 3, 1023, 2047]
theorem downpourlaw02_BlockPicks.tab1 : rtab .any (opsOf Tryd.f3 1) = downpourlaw02_BlockPicks.T1 := by kernel_rfl
theorem downpourlaw02_BlockPicks.bits1 : waitsOk downpourlaw02_BlockPicks.T1.2 downpourlaw02_BlockPicks.B1 = true := by kernel_rfl
set_option maxHeartbeats 8000000 in
set_option maxRecDepth 100000 in
theorem downpourlaw02_BlockPicks.calls (k : Nat) (a0 : Int) (A1 : Option Addr) (c1 : Nat) (l1 : List ByteArray) (a2_0 : Int) (A2_1 : Option Addr) (c2_1 : Nat) (l2_1 : List Int) (r : Bool) (w : World) (hT_ : TabOk w) (hr1 : Kd.C Kd.string w A1 l1.length l1) (hc1 : l1.length ≤ c1) (hr2_1 : Kd.C (Kd.int .u64) w A2_1 l2_1.length l2_1) (hc2_1 : l2_1.length ≤ c2_1) (h : downpourlaw02_BlockPicks.f k a0 l1 a2_0 l2_1 = some r) :
  Calls Tryd.prog 3 #[.int .i64 a0, .slice A1 l1.length c1, .agg #[.int .i64 a2_0, .slice A2_1 l2_1.length c2_1]] w fun e w' => e = .returned (.bool r) ∧ Below w.heap.size w w' := by
 have hu25 := Tryd.underlying25
 have HR1 := Aside0.mk hr1
 have HC1 := Aside0.mk hc1
 clear hr1 hc1
 have HR2_1 := Aside0.mk hr2_1
 have HC2_1 := Aside0.mk hc2_1
 clear hr2_1 hc2_1
 have HT := Aside0.mk hT_
 clear hT_
 have HB := am (Below.refl w.heap.size w)
 have H : ((downpourlaw02_few.f k l1).bind fun t160 => (if 0 ≤ (mn (l2_1.length : Int) 10) then (if (mn (l2_1.length : Int) 10) ≤ (l2_1.length : Int) then ((block_Pick.f k a0 t160 a2_0 (l2_1.take ((mn (l2_1.length : Int) 10) : Int).toNat)).bind fun bt164 => ((downpourref02_Why.f k a0 t160).bind fun t166 => (if t166 = 0 then ((downpourref01_Right.f k a2_0 (l2_1.take ((mn (l2_1.length : Int) 10) : Int).toNat)).bind fun t168 => (if t168 = true then (downpourlaw02_BlockPicks.j0 k a0 t160 bt164.1 bt164.2 (a2_0 != (t160.length : Int)) a2_0 (l2_1.take ((mn (l2_1.length : Int) 10) : Int).toNat)) else (downpourlaw02_BlockPicks.j0 k a0 t160 bt164.1 bt164.2 true a2_0 (l2_1.take ((mn (l2_1.length : Int) 10) : Int).toNat)))) else ((downpourlaw02_alive.f k).bind fun t167 => (if t167 = true then (if bt164.2 = t166 then (some (bt164.1.toList == ([] : List UInt8))) else (none)) else (none)))))) else (none)) else (none))) = some r := h
 clear h
 replace H := Option.bind_eq_some_iff.mp H
 obtain ⟨t160, A40, H⟩ := H
 replace H : (if 0 ≤ (mn (l2_1.length : Int) 10) then (if (mn (l2_1.length : Int) 10) ≤ (l2_1.length : Int) then ((block_Pick.f k a0 t160 a2_0 (l2_1.take ((mn (l2_1.length : Int) 10) : Int).toNat)).bind fun bt164 => ((downpourref02_Why.f k a0 t160).bind fun t166 => (if t166 = 0 then ((downpourref01_Right.f k a2_0 (l2_1.take ((mn (l2_1.length : Int) 10) : Int).toNat)).bind fun t168 => (if t168 = true then (downpourlaw02_BlockPicks.j0 k a0 t160 bt164.1 bt164.2 (a2_0 != (t160.length : Int)) a2_0 (l2_1.take ((mn (l2_1.length : Int) 10) : Int).toNat)) else (downpourlaw02_BlockPicks.j0 k a0 t160 bt164.1 bt164.2 true a2_0 (l2_1.take ((mn (l2_1.length : Int) 10) : Int).toNat)))) else ((downpourlaw02_alive.f k).bind fun t167 => (if t167 = true then (if bt164.2 = t166 then (some (bt164.1.toList == ([] : List UInt8))) else (none)) else (none)))))) else (none)) else (none)) = some r := H
 have A4 := Aside0.mk A40
 clear A40
 obtain ⟨ji5, hji5⟩ : ∃ j_ : Int, (mn (l2_1.length : Int) 10) = j_ := ⟨_, rfl⟩
 obtain ⟨yji5, hyji5⟩ : ∃ y_, (l2_1.take ((ji5) : Int).toNat) = y_ := ⟨_, rfl⟩
 replace H : (if 0 ≤ (ji5) then (if (ji5) ≤ (l2_1.length : Int) then ((block_Pick.f k a0 t160 a2_0 yji5).bind fun bt164 => ((downpourref02_Why.f k a0 t160).bind fun t166 => (if t166 = 0 then ((downpourref01_Right.f k a2_0 yji5).bind fun t168 => (if t168 = true then (downpourlaw02_BlockPicks.j0 k a0 t160 bt164.1 bt164.2 (a2_0 != (t160.length : Int)) a2_0 yji5) else (downpourlaw02_BlockPicks.j0 k a0 t160 bt164.1 bt164.2 true a2_0 yji5))) else ((downpourlaw02_alive.f k).bind fun t167 => (if t167 = true then (if bt164.2 = t166 then (some (bt164.1.toList == ([] : List UInt8))) else (none)) else (none)))))) else (none)) else (none)) = some r := by (try rw [← hyji5]); first | (rw [hji5] at H; exact H) | (simp only [hji5] at H ⊢; exact H)
 (try rw [hji5] at A4)
 (try (have hji5h : ji5 ≤ 10 := by (rw [← hji5]; unfold mn; (repeat' split) <;> omega)))
 (try (have hji5g : ji5 ≤ 64 := by omega))
 (try (have hji5l : 0 ≤ ji5 := by (rw [← hji5]; unfold mn; (repeat' split) <;> omega)))
 (try (have hji5m : 0 ≤ ji5 := by omega))
 have hji5_ : (if 10 < (l2_1.length : Int) then 10 else (l2_1.length : Int)) = ji5 := hji5
 by_cases c6 : 0 ≤ (ji5)
 ·
  rw [if_pos c6] at H
  have c6b0 := eq_true c6
  have c6b1 : decide (0 ≤ (ji5)) = true := decide_eq_true c6
  clear c6
  by_cases c7 : (ji5) ≤ (l2_1.length : Int)
  ·
   rw [if_pos c7] at H
   have c7b0 := eq_true c7
   have c7b1 : decide ((ji5) ≤ (l2_1.length : Int)) = true := decide_eq_true c7
   clear c7
   replace H := Option.bind_eq_some_iff.mp H
   obtain ⟨⟨t164, t165⟩, A80, H⟩ := H
   replace H : ((downpourref02_Why.f k a0 t160).bind fun t166 => (if t166 = 0 then ((downpourref01_Right.f k a2_0 yji5).bind fun t168 => (if t168 = true then (downpourlaw02_BlockPicks.j0 k a0 t160 t164 t165 (a2_0 != (t160.length : Int)) a2_0 yji5) else (downpourlaw02_BlockPicks.j0 k a0 t160 t164 t165 true a2_0 yji5))) else ((downpourlaw02_alive.f k).bind fun t167 => (if t167 = true then (if t165 = t166 then (some (t164.toList == ([] : List UInt8))) else (none)) else (none))))) = some r := H
   have A8 := Aside0.mk A80
   clear A80
   replace H := Option.bind_eq_some_iff.mp H
   obtain ⟨t166, A90, H⟩ := H
   replace H : (if t166 = 0 then ((downpourref01_Right.f k a2_0 yji5).bind fun t168 => (if t168 = true then (downpourlaw02_BlockPicks.j0 k a0 t160 t164 t165 (a2_0 != (t160.length : Int)) a2_0 yji5) else (downpourlaw02_BlockPicks.j0 k a0 t160 t164 t165 true a2_0 yji5))) else ((downpourlaw02_alive.f k).bind fun t167 => (if t167 = true then (if t165 = t166 then (some (t164.toList == ([] : List UInt8))) else (none)) else (none)))) = some r := H
   have A9 := Aside0.mk A90
   clear A90
   by_cases c10 : t166 = 0
   ·
    rw [if_pos c10] at H
    have c10b0 : (t166 == 0) = true := beq_iff_eq.mpr c10
    have c10b1 : (t166 != 0) = false := bne_eq_false_iff_eq.mpr c10
    clear c10
    have HC11 := Aside0.mk H
    clear H
    go_enter Tryd.func3, Tryd.ntmps3
    try go_wp2_with (first | ((with_reducible refine gate_dst (N := 5) rfl ?_); (try (refine gate_guard (by rfl) ?_; dsimp only)); refine box_event ?hg (N := 5) ?hd (cs := #[.int .i64 a2_0, .slice A2_1 l2_1.length c2_1]) (t := 25) ?hr ?_; (case hd => rfl); (case hg => rfl); (case hr => first | (go_simp; done) | (go_simp; rfl)); intro gb159 hg w12 hbox hb; have n0_ := am (below_step (pb HB) hb); have n1_ := am (hbox); have n2_ := am ((by rw [hg]; exact (below_size (pb HB)) : w.heap.size ≤ gb159)); have n3_ := am ((by rw [hg]; exact (below_size (pb HB)) : w.heap.size ≤ gb159)); clear HB; have HB := n0_; have BK159 := n1_; have GW159 := n2_; have GE159 := n3_; clear n0_ n1_ n2_ n3_ hb hbox hg))
    have n0_ := am (blk_drew BK159.out)
    have n1_ := am (below_drew1 HB.out)
    clear BK159
    clear HB
    have BK159 := n0_
    have HB := n1_
    clear n0_ n1_
    obtain ⟨i014, hi014, _, hsz14, _⟩ := info_parts info90
    obtain ⟨hcut14, hA14, hC14⟩ := print_take_of (P := Tryd.prog) (Value.int .u64) 0 23 90 .i64 Tryd.underlying23 hi014 hsz14 A2_1 c2_1 l2_1 (ji5) (of_decide_eq_true (by first | (with_reducible assumption) | assumption)) (of_decide_eq_true (by first | (with_reducible assumption) | assumption)) HC2_1.out
    (try simp only [hyji5] at hcut14 hA14 hC14)
    have HR163 := am (Kd.C_of_reads (h1 := fun _ => rfl) (hA14 _ (Kd.reads_of_C HR2_1.out)))
    have HC163 := Aside0.mk hC14
    clear hA14 hC14 hi014 hsz14
    refine start_ (n := 12) (S := fun w' => w'.cell? ⟨gb159, 0, none⟩ = some (.int .i64 a2_0) ∧ w'.cell? ⟨gb159, 1, none⟩ = some (.slice A2_1 l2_1.length c2_1)) (ds := [11]) #[F, F, F, F, F, F, F, F, F, F, F, F] (by kernel_rfl) rfl rfl ⟨(blk_cell BK159.out 0).trans rfl, (blk_cell BK159.out 1).trans rfl⟩ (fun hHeld => ?_); refine with_tabW downpourlaw02_BlockPicks.tab1 downpourlaw02_BlockPicks.bits1 (fun HT_ HW_ => ?_)
    generalize w12.drew = w13 at BK159 HB HR163 hHeld ⊢
    refine pure_ (i := 0) (N := some 10) (v := ?_) (a' := ?_) #[T, F, F, F, F, F, F, F, F, F, F, F] rfl rfl (any_of HT_.out (by kernel_rfl)) (fun _ _ _ h => h) (Or.inl ⟨by rfl, ?_⟩) ?_ ?_
    rotate_left
    ·
     intro w'
     go_simp
     with_reducible rfl
    rotate_left
    ·
     simp only [Act.put, q1, q2, q3, i64_w, i32_w]
     rfl
    refine pure_ (i := 2) (N := some 12) (v := ?_) (a' := ?_) #[T, F, T, F, F, F, F, F, F, F, F, F] rfl rfl (any_of HT_.out (by kernel_rfl)) (fun _ _ _ h => h) (Or.inl ⟨by rfl, ?_⟩) ?_ ?_
    rotate_left
    ·
     intro w'
     go_simp
     with_reducible rfl
    rotate_left
    ·
     simp only [Act.put, q1, q2, q3, i64_w, i32_w]
     rfl
    refine pure_ (i := 4) (N := some 14) (v := ?_) (a' := ?_) #[T, F, T, F, T, F, F, F, F, F, F, F] rfl rfl (any_of HT_.out (by kernel_rfl)) (fun _ _ _ h => h) (Or.inl ⟨by rfl, ?_⟩) ?_ ?_
    rotate_left
    ·
     intro w'
     go_simp
     with_reducible rfl
    rotate_left
    ·
     simp only [Act.put, q1, q2, q3, i64_w, i32_w]
     rfl
    refine take_ (i := 3) (N := some 13) (v := ?_) (a' := ?_) #[T, F, T, T, T, F, F, F, F, F, F, F] rfl rfl (take_ofW HT_.out HW_.out (by kernel_rfl)) (fun _ _ _ h => h) (Or.inl ⟨by rfl, ?_⟩) hHeld ?_ ?_
    rotate_left
    ·
     rintro w' ⟨s0, s1⟩
     go_simp
     with_reducible rfl
    rotate_left
    ·
     simp only [Act.put, q1, q2, q3, i64_w, i32_w]
     rfl
    refine take_ (i := 5) (N := some 15) (v := ?_) (a' := ?_) #[T, F, T, T, T, T, F, F, F, F, F, F] rfl rfl (take_ofW HT_.out HW_.out (by kernel_rfl)) (fun _ _ _ h => h) (Or.inl ⟨by rfl, ?_⟩) hHeld ?_ ?_
    rotate_left
    ·
     rintro w' ⟨s0, s1⟩
     go_simp
     with_reducible rfl
    rotate_left
    ·
     simp only [Act.put, q1, q2, q3, i64_w, i32_w]
     rfl
    refine pure_ (i := 6) (N := some 16) (v := ?_) (a' := ?_) #[T, F, T, T, T, T, T, F, F, F, F, F] rfl rfl (any_of HT_.out (by kernel_rfl)) (fun _ _ _ h => h) (Or.inl ⟨by rfl, ?_⟩) ?_ ?_
    rotate_left
    ·
     intro w'
     go_simp
     with_reducible rfl
    rotate_left
    ·
     simp only [Act.put, q1, q2, q3, i64_w, i32_w]
     rfl
    refine pure_ (i := 7) (N := some 17) (v := ?_) (a' := ?_) #[T, F, T, T, T, T, T, T, F, F, F, F] rfl rfl (any_of HT_.out (by kernel_rfl)) (fun _ _ _ h => h) (Or.inl ⟨by rfl, ?_⟩) ?_ ?_
    rotate_left
    ·
     intro w'
     go_simp
     with_reducible rfl
    rotate_left
    ·
     simp only [Act.put, q1, q2, q3, i64_w, i32_w]
     rfl
    refine pure_ (i := 8) (N := some 18) (v := ?_) (a' := ?_) #[T, F, T, T, T, T, T, T, T, F, F, F] rfl rfl (any_of HT_.out (by kernel_rfl)) (fun _ _ _ h => h) (Or.inl ⟨by rfl, ?_⟩) ?_ ?_
    rotate_left
    ·
     intro w'
     go_simp
     with_reducible rfl
    rotate_left
    ·
     simp only [Act.put, q1, q2, q3, i64_w, i32_w]
     rfl
    refine one_ (i := 1) (N := some 11) #[T, T, T, T, T, T, T, T, T, F, F, F] rfl rfl (one_of HT_.out (by kernel_rfl)) (by decide) (fun K hK => ?_)
    refine goes_ Tryd.func11 (by kernel_rfl) rfl #[.slice A1 l1.length c1] (by rfl) rfl rfl (by (try simp only [List.map_toArray, List.map_cons, List.map_nil]); first | done | rfl | (simp only [List.length_drop, List.length_take]; rfl)) ?_
    with_reducible refine (downpourlaw02_few.calls k _ _ l1 t160 _ ?side1 ?side2 A4.out).mono ?_
    (case side1 => repeat (first | exact (Kd.C_below HR1.out HB.out) | (with_reducible refine Kd.C_alloc ?_ _) | (with_reducible refine Kd.C_drewN ?_ _) | (with_reducible refine Kd.C_drew ?_)))
    (case side2 => exact HC1.out)
    rintro e w15 ⟨v161, rfl, ho0, hb⟩
    refine ⟨_, rfl, ?_⟩
    have n0_ := am (Kd.R_lower ho0 (below_size (pb HB)))
    have n1_ := bb BK159 hb
    have n2_ := am (below_step (pb HB) hb)
    clear BK159
    clear HB
    have HO162 := n0_
    have BK159 := n1_
    have HB := n2_
    clear n0_ n1_ n2_
    (try clear hb)
    (try clear hb2)
    (try clear hk)
    (try clear hi)
    (try clear ho0)
    refine hK.out _ _ ⟨(blk_cell BK159.out 0).trans rfl, (blk_cell BK159.out 1).trans rfl⟩ (fun hHeld => ?_)
    clear hK K
    refine norm_ (a' := ?_) ?_ ?_
    rotate_left
    ·
     show Act.put _ (some 11) _ = _
     simp only [Act.put, q1, q2, q3, i64_w, i32_w]
     rfl
    refine pure_ (i := 9) (N := some 1) (v := ?_) (a' := ?_) #[T, T, T, T, T, T, T, T, T, T, F, F] rfl rfl (any_of HT_.out (by kernel_rfl)) (fun _ _ _ h => h) (Or.inl ⟨by rfl, ?_⟩) ?_ ?_
    rotate_left
    ·
     intro w'
     go_simp
     with_reducible rfl
    rotate_left
    ·
     simp only [Act.put, q1, q2, q3, i64_w, i32_w]
     rfl
    refine pure_ (i := 10) (N := some 19) (v := ?_) (a' := ?_) #[T, T, T, T, T, T, T, T, T, T, T, F] rfl rfl (any_of HT_.out (by kernel_rfl)) (fun _ _ _ h => h) (Or.inl ⟨by rfl, ?_⟩) ?_ ?_
    rotate_left
    ·
     intro w'
     go_simp
     with_reducible rfl
    rotate_left
    ·
     simp only [Act.put, q1, q2, q3, i64_w, i32_w]
     rfl
    refine last_ (i := 11) (N := none) #[T, T, T, T, T, T, T, T, T, T, T, T] rfl rfl (one_of HT_.out (by kernel_rfl)) (by decide) (fun K hK => ?_)
    have hs16 : w15.cell? ⟨gb159, 1, none⟩ = some (.slice A2_1 l2_1.length c2_1) := (blk_cell BK159.out 1).trans rfl
    have hfs16 := blk_frozen BK159.out 1
    refine skip_ (w1 := ?_) (by rfl) rfl ?_ ?_
    rotate_left
    ·
     go_simp
     rfl
    refine hK.out _ _ ?_
    clear hK K
    refine done_ (done_of HT_.out (by kernel_rfl)) ?_
    have hcz17_0 : w15.cell? ⟨gb159, 0, none⟩ = some (.int .i64 a2_0) := (blk_cell BK159.out 0).trans rfl
    have hcz17_1 : w15.cell? ⟨gb159, 1, none⟩ = some (.slice A2_1 l2_1.length c2_1) := (blk_cell BK159.out 1).trans rfl
    have hfz17_0 := blk_frozen BK159.out 0
    have hfz17_1 := blk_frozen BK159.out 1
    obtain ⟨Ao18, co18, eo18⟩ := Kd.R_slice HO162.out
    subst eo18
    go_upto_region 6 with (first | ((with_reducible refine gate_callee (f := 12) rfl ?_); refine goesL_ (some 24) rfl rfl Tryd.func12 (by kernel_rfl) rfl #[.int .i64 a0, .slice Ao18 t160.length co18, .agg #[.int .i64 a2_0, .slice A2_1 yji5.length c2_1]] rfl (by (try simp only [List.map_toArray, List.map_cons, List.map_nil]); first | done | (rw [show yji5.length = (ji5).toNat from (by rw [List.length_take]; have h_ : ((ji5) : Int) ≤ (l2_1.length : Int) := of_decide_eq_true (by first | (with_reducible assumption) | assumption); omega)] <;> rfl) | (simp only [hji5]; rfl) | rfl | (simp only [List.length_drop, List.length_take]; rfl)) ?_; (with_reducible refine (block_Pick.calls k a0 _ _ t160 a2_0 _ _ yji5 t164 t165 _ ?side5 ?side1 ?side2 ?side3 ?side4 A8.out).mono ?_); (case side1 => refine (Kd.R_reads' (e := 9) (base := w.heap.size) (ok := fun k_ => True) (n := t160.length) (c := co18) ?_).2.2; exact (by (with_reducible repeat (first | apply Kd.R_alloc | apply Kd.R_drewN | apply Kd.R_drew)); exact (Kd.R_mono (Kd.R_far (p := ⟨gb159, 1, none⟩) (Kd.R_types HO162.out BK159.out (by decide)) (fun _ hk => hk.2) (.slice A2_1 yji5.length c2_1)) (fun _ h_ => h_.1)))); (case side2 => exact (Kd.R_reads' HO162.out).2.1); (case side3 => exact Kd.C_below HR163.out (pb HB)); (case side4 => exact HC163.out); (case side5 => exact TabOk.below HT.out (pb HB)); rintro e w19 ⟨rfl, hb⟩; refine ⟨_, rfl, ?_⟩; have n0_ := am (Kd.R_below (by (with_reducible repeat (first | apply Kd.R_alloc | apply Kd.R_drewN | apply Kd.R_drew)); exact (Kd.R_mono (Kd.R_far (p := ⟨gb159, 1, none⟩) (Kd.R_types HO162.out BK159.out (by decide)) (fun _ hk => hk.2) (.slice A2_1 yji5.length c2_1)) (fun _ h_ => h_.1))) hb); have n1_ := am (blk_below (g := gb159) (o := .cells #[.int .i64 a2_0, .slice A2_1 yji5.length c2_1] 25 (0, 0)) (by (with_reducible repeat (first | refine blk_drewN ?_ _ | refine blk_drew ?_ | refine blk_alloc ?_ _)); refine blk_put (cs := #[.int .i64 a2_0, .slice A2_1 l2_1.length c2_1]) ?_ 1 _ rfl; (with_reducible repeat (first | refine blk_drewN ?_ _ | refine blk_drew ?_ | refine blk_alloc ?_ _)); exact BK159.out) hb); have n2_ := am (below_step (pb HB) hb); clear HO162 BK159 HB; have HO162 := n0_; have BK159 := n1_; have HB := n2_; clear n0_ n1_ n2_; (try clear hb); (try clear hb2); (try clear hk); (try clear hi)) | ((with_reducible refine gate_callee (f := 13) rfl ?_); refine goesL_ (some 29) rfl rfl Tryd.func13 (by kernel_rfl) rfl #[.int .i64 a0, .slice Ao18 t160.length co18] rfl (by (try simp only [List.map_toArray, List.map_cons, List.map_nil]); first | done | rfl | (simp only [List.length_drop, List.length_take]; rfl)) ?_; (with_reducible refine (downpourref02_Why.calls k a0 _ _ t160 t166 _ ?side1 ?side2 A9.out).mono ?_); (case side1 => repeat (first | exact (Kd.R_reads' HO162.out).2.2 | (with_reducible refine Kd.C_alloc ?_ _) | (with_reducible refine Kd.C_drewN ?_ _) | (with_reducible refine Kd.C_drew ?_))); (case side2 => exact (Kd.R_reads' HO162.out).2.1); rintro e w' ⟨rfl, ⟨nd, rfl⟩⟩; refine ⟨_, rfl, ?_⟩))
    (try simp only [Act.put, q1, q2, q3])
    go_cut [51] (fun v51 wc => ∃ (kq : Nat) (x51_10 : Bool), v51 = .bool x51_10 ∧ Aside0 (downpourlaw02_BlockPicks.j0 kq a0 t160 t164 t165 x51_10 a2_0 yji5 = some r) ∧ Aside0 (kq ≤ k) ∧ Aside0 (Kd.R Kd.string 9 wc w.heap.size (fun _ => True) (.slice Ao18 t160.length co18) t160) ∧ Aside0 (wc.heap[gb159]? = some (.cells #[.int .i64 a2_0, (.slice A2_1 yji5.length c2_1)] 25 (0, 0))) ∧ Aside0 (Below w.heap.size w wc))
    case first =>
     have H := HC11.out
     clear HC11
     replace H := Option.bind_eq_some_iff.mp H
     obtain ⟨t168, A200, H⟩ := H
     replace H : (if t168 = true then (downpourlaw02_BlockPicks.j0 k a0 t160 t164 t165 (a2_0 != (t160.length : Int)) a2_0 yji5) else (downpourlaw02_BlockPicks.j0 k a0 t160 t164 t165 true a2_0 yji5)) = some r := H
     have A20 := Aside0.mk A200
     clear A200
     by_cases c21 : t168 = true
     ·
      subst c21
      have H1 : (downpourlaw02_BlockPicks.j0 k a0 t160 t164 t165 (a2_0 != (t160.length : Int)) a2_0 yji5) = some r := by rw [if_pos rfl] at H; exact H
      clear H
      have H := H1
      clear H1
      have H' := Aside0.mk H
      clear H
      have hcz22_0 : w19.cell? ⟨gb159, 0, none⟩ = some (.int .i64 a2_0) := (blk_cell BK159.out 0).trans rfl
      have hcz22_1 : w19.cell? ⟨gb159, 1, none⟩ = some (.slice A2_1 yji5.length c2_1) := (blk_cell BK159.out 1).trans rfl
      have hfz22_0 := blk_frozen BK159.out 0
      have hfz22_1 := blk_frozen BK159.out 1
      go_wp2_with (first | ((with_reducible refine gate_callee (f := 15) rfl ?_); refine goesL_ (some 43) rfl rfl Tryd.func15 (by kernel_rfl) rfl #[.agg #[.int .i64 a2_0, .slice A2_1 yji5.length c2_1]] rfl (by (try simp only [List.map_toArray, List.map_cons, List.map_nil]); first | done | (rw [show yji5.length = (ji5).toNat from (by rw [List.length_take]; have h_ : ((ji5) : Int) ≤ (l2_1.length : Int) := of_decide_eq_true (by first | (with_reducible assumption) | assumption); omega)] <;> rfl) | (simp only [hji5]; rfl) | rfl | (simp only [List.length_drop, List.length_take]; rfl)) ?_; (with_reducible refine (downpourref01_Right.calls k a2_0 _ _ yji5 true _ ?side1 ?side2 A20.out).mono ?_); (case side1 => repeat (first | exact (Kd.C_below HR163.out HB.out) | (with_reducible refine Kd.C_alloc ?_ _) | (with_reducible refine Kd.C_drewN ?_ _) | (with_reducible refine Kd.C_drew ?_))); (case side2 => exact HC163.out); rintro e w23 ⟨rfl, hb⟩; refine ⟨_, rfl, ?_⟩; have n0_ := am (Kd.R_below (pr HO162) hb); have n1_ := bb BK159 hb; have n2_ := am (below_step (pb HB) hb); clear HO162 BK159 HB; have HO162 := n0_; have BK159 := n1_; have HB := n2_; clear n0_ n1_ n2_; (try clear hb); (try clear hb2); (try clear hk); (try clear hi); have hcz24_0 : w23.cell? ⟨gb159, 0, none⟩ = some (.int .i64 a2_0) := (blk_cell BK159.out 0).trans rfl; have hcz24_1 : w23.cell? ⟨gb159, 1, none⟩ = some (.slice A2_1 yji5.length c2_1) := (blk_cell BK159.out 1).trans rfl; have hfz24_0 := blk_frozen BK159.out 0; have hfz24_1 := blk_frozen BK159.out 1))
      go_meet
      case rel => exact ⟨_, ((a2_0 != (t160.length : Int))), (by first | rfl | (simp; done) | (simp [*]; done)), H', ⟨by first | omega | exact Nat.le_refl _⟩, ⟨by (with_reducible repeat (first | apply Kd.R_alloc | apply Kd.R_drewN | apply Kd.R_drew)); exact HO162.out⟩, ⟨by (with_reducible repeat (first | refine blk_drewN ?_ _ | refine blk_drew ?_ | refine blk_alloc ?_ _)); exact BK159.out⟩, ⟨pb HB⟩⟩
     ·
      replace c21 := Bool.eq_false_iff.mpr c21
      subst c21
      have H1 : (downpourlaw02_BlockPicks.j0 k a0 t160 t164 t165 true a2_0 yji5) = some r := by rw [if_neg (show ¬ (false = true) by decide)] at H; exact H
      clear H
      have H := H1
      clear H1
      have H' := Aside0.mk H
      clear H
      have hcz25_0 : w19.cell? ⟨gb159, 0, none⟩ = some (.int .i64 a2_0) := (blk_cell BK159.out 0).trans rfl
      have hcz25_1 : w19.cell? ⟨gb159, 1, none⟩ = some (.slice A2_1 yji5.length c2_1) := (blk_cell BK159.out 1).trans rfl
      have hfz25_0 := blk_frozen BK159.out 0
      have hfz25_1 := blk_frozen BK159.out 1
      go_wp2_with (first | ((with_reducible refine gate_callee (f := 15) rfl ?_); refine goesL_ (some 43) rfl rfl Tryd.func15 (by kernel_rfl) rfl #[.agg #[.int .i64 a2_0, .slice A2_1 yji5.length c2_1]] rfl (by (try simp only [List.map_toArray, List.map_cons, List.map_nil]); first | done | (rw [show yji5.length = (ji5).toNat from (by rw [List.length_take]; have h_ : ((ji5) : Int) ≤ (l2_1.length : Int) := of_decide_eq_true (by first | (with_reducible assumption) | assumption); omega)] <;> rfl) | (simp only [hji5]; rfl) | rfl | (simp only [List.length_drop, List.length_take]; rfl)) ?_; (with_reducible refine (downpourref01_Right.calls k a2_0 _ _ yji5 false _ ?side1 ?side2 A20.out).mono ?_); (case side1 => repeat (first | exact (Kd.C_below HR163.out HB.out) | (with_reducible refine Kd.C_alloc ?_ _) | (with_reducible refine Kd.C_drewN ?_ _) | (with_reducible refine Kd.C_drew ?_))); (case side2 => exact HC163.out); rintro e w26 ⟨rfl, hb⟩; refine ⟨_, rfl, ?_⟩; have n0_ := am (Kd.R_below (pr HO162) hb); have n1_ := bb BK159 hb; have n2_ := am (below_step (pb HB) hb); clear HO162 BK159 HB; have HO162 := n0_; have BK159 := n1_; have HB := n2_; clear n0_ n1_ n2_; (try clear hb); (try clear hb2); (try clear hk); (try clear hi)))
      go_meet
      case rel => exact ⟨_, (true), (by first | rfl | (simp; done) | (simp [*]; done)), H', ⟨by first | omega | exact Nat.le_refl _⟩, ⟨by (with_reducible repeat (first | apply Kd.R_alloc | apply Kd.R_drewN | apply Kd.R_drew)); exact HO162.out⟩, ⟨by (with_reducible repeat (first | refine blk_drewN ?_ _ | refine blk_drew ?_ | refine blk_alloc ?_ _)); exact BK159.out⟩, ⟨pb HB⟩⟩
    case rest =>
     clear HC11
     try clear c1
     try clear c2
     try clear p2
     try clear c3
     try clear c6
     try clear c6b0
     try clear c6b1
     try clear c7
     try clear c7b0
     try clear c7b1
     try clear c10
     try clear c10b0
     try clear c10b1
     try clear c11
     try clear c12
     try clear c13
     try clear c15
     try clear c21
     try clear hcz17_0
     try clear hcz17_1
     try clear hcz22_0
     try clear hcz22_1
     try clear hcz24_0
     try clear hcz24_1
     try clear hcz25_0
     try clear hcz25_1
     try clear hfz17_0
     try clear hfz17_1
     try clear hfz22_0
     try clear hfz22_1
     try clear hfz24_0
     try clear hfz24_1
     try clear hfz25_0
     try clear hfz25_1
     obtain ⟨kq, x51_10, rfl, HA, HJ10, HO_1, BK159, HB⟩ := hcut
     cases kq with
     | zero => exact absurd HA.out (by simp [downpourlaw02_BlockPicks.j0])
     | succ kj10 =>
      have H := HA.out
      clear HA
      simp only [downpourlaw02_BlockPicks.j0] at H
      by_cases c27 : x51_10 = true
      ·
       subst c27
       have H1 : ((downpourlaw02_alive.f kj10).bind fun t169 => (if t169 = true then (if t165 = 1 then (some (t164.toList == ([] : List UInt8))) else (none)) else (none))) = some r := by rw [if_pos rfl] at H; exact H
       clear H
       have H := H1
       clear H1
       replace H := Option.bind_eq_some_iff.mp H
       obtain ⟨t169, A280, H⟩ := H
       replace H : (if t169 = true then (if t165 = 1 then (some (t164.toList == ([] : List UInt8))) else (none)) else (none)) = some r := H
       have A28 := Aside0.mk A280
       clear A280
       by_cases c29 : t169 = true
       ·
        subst c29
        have H1 : (if t165 = 1 then (some (t164.toList == ([] : List UInt8))) else (none)) = some r := by rw [if_pos rfl] at H; exact H
        clear H
        have H := H1
        clear H1
        by_cases c30 : t165 = 1
        ·
         rw [if_pos c30] at H
         have c30b0 : (t165 == 1) = true := beq_iff_eq.mpr c30
         have c30b1 : (t165 != 1) = false := bne_eq_false_iff_eq.mpr c30
         clear c30
         obtain rfl := Option.some.inj H
         go_wp2_with (first | ((with_reducible refine gate_callee (f := 14) rfl ?_); refine goesL_ (some 52) rfl rfl Tryd.func14 (by kernel_rfl) rfl #[] rfl (by (try simp only [List.map_toArray, List.map_cons, List.map_nil]); first | done | rfl | (simp only [List.length_drop, List.length_take]; rfl)) ?_; (with_reducible refine (downpourlaw02_alive.calls kj10  true _ A28.out).mono ?_); rintro e w31 ⟨rfl, hb⟩; refine ⟨_, rfl, ?_⟩; have n0_ := am (Kd.R_below (pr HO_1) hb); have n1_ := bb BK159 hb; have n2_ := am (below_step (pb HB) hb); clear HO_1 BK159 HB; have HO_1 := n0_; have BK159 := n1_; have HB := n2_; clear n0_ n1_ n2_; (try clear hb); (try clear hb2); (try clear hk); (try clear hi)))
         go_ret
         exact ⟨by first | rfl | (simp [errW_none, errW_some] <;> rfl) | (simp only [← hji5]; first | rfl | (simp [errW_none, errW_some] <;> rfl)) | (simp [*, errW_none, errW_some] <;> rfl), pb HB⟩
        ·
         rw [if_neg c30] at H
         exact absurd H (by simp)
       ·
        replace c29 := Bool.eq_false_iff.mpr c29
        subst c29
        have H1 : (none) = some r := by rw [if_neg (show ¬ (false = true) by decide)] at H; exact H
        clear H
        have H := H1
        clear H1
        exact absurd H (by simp)
      ·
       replace c27 := Bool.eq_false_iff.mpr c27
       subst c27
       have H1 : ((downpourlaw02_alive.f kj10).bind fun t170 => (if t170 = true then (if t165 = 0 then ((downpourref02_Bits.f kj10 a2_0 yji5).bind fun t171 => ((downpourref02_Sum.f kj10 a0 t160 t171).bind fun t174 => (some (t164.toList == t174.toList)))) else (none)) else (none))) = some r := by rw [if_neg (show ¬ (false = true) by decide)] at H; exact H
       clear H
       have H := H1
       clear H1
       replace H := Option.bind_eq_some_iff.mp H
       obtain ⟨t170, A320, H⟩ := H
       replace H : (if t170 = true then (if t165 = 0 then ((downpourref02_Bits.f kj10 a2_0 yji5).bind fun t171 => ((downpourref02_Sum.f kj10 a0 t160 t171).bind fun t174 => (some (t164.toList == t174.toList)))) else (none)) else (none)) = some r := H
       have A32 := Aside0.mk A320
       clear A320
       by_cases c33 : t170 = true
       ·
        subst c33
        have H1 : (if t165 = 0 then ((downpourref02_Bits.f kj10 a2_0 yji5).bind fun t171 => ((downpourref02_Sum.f kj10 a0 t160 t171).bind fun t174 => (some (t164.toList == t174.toList)))) else (none)) = some r := by rw [if_pos rfl] at H; exact H
        clear H
        have H := H1
        clear H1
        by_cases c34 : t165 = 0
        ·
         rw [if_pos c34] at H
         have c34b0 : (t165 == 0) = true := beq_iff_eq.mpr c34
         have c34b1 : (t165 != 0) = false := bne_eq_false_iff_eq.mpr c34
         clear c34
         replace H := Option.bind_eq_some_iff.mp H
         obtain ⟨t171, A350, H⟩ := H
         replace H : ((downpourref02_Sum.f kj10 a0 t160 t171).bind fun t174 => (some (t164.toList == t174.toList))) = some r := H
         have A35 := Aside0.mk A350
         clear A350
         replace H := Option.bind_eq_some_iff.mp H
         obtain ⟨t174, A360, H⟩ := H
         replace H : (some (t164.toList == t174.toList)) = some r := H
         have A36 := Aside0.mk A360
         clear A360
         obtain rfl := Option.some.inj H
         go_wp2_with (first | ((with_reducible refine gate_callee (f := 14) rfl ?_); refine goesL_ (some 61) rfl rfl Tryd.func14 (by kernel_rfl) rfl #[] rfl (by (try simp only [List.map_toArray, List.map_cons, List.map_nil]); first | done | rfl | (simp only [List.length_drop, List.length_take]; rfl)) ?_; (with_reducible refine (downpourlaw02_alive.calls kj10  true _ A32.out).mono ?_); rintro e w37 ⟨rfl, hb⟩; refine ⟨_, rfl, ?_⟩; have n0_ := am (Kd.R_below (pr HO_1) hb); have n1_ := bb BK159 hb; have n2_ := am (below_step (pb HB) hb); clear HO_1 BK159 HB; have HO_1 := n0_; have BK159 := n1_; have HB := n2_; clear n0_ n1_ n2_; (try clear hb); (try clear hb2); (try clear hk); (try clear hi); have hcz38_0 : w37.cell? ⟨gb159, 0, none⟩ = some (.int .i64 a2_0) := (blk_cell BK159.out 0).trans rfl; have hcz38_1 : w37.cell? ⟨gb159, 1, none⟩ = some (.slice A2_1 yji5.length c2_1) := (blk_cell BK159.out 1).trans rfl; have hfz38_0 := blk_frozen BK159.out 0; have hfz38_1 := blk_frozen BK159.out 1) | (go_at_call 17; (with_reducible refine (downpourref02_Bits.calls kj10 a2_0 _ _ yji5 t171 _ ?side1 ?side2 A35.out).mono ?_); (case side1 => repeat (first | exact (Kd.C_below HR163.out HB.out) | (with_reducible refine Kd.C_alloc ?_ _) | (with_reducible refine Kd.C_drewN ?_ _) | (with_reducible refine Kd.C_drew ?_))); (case side2 => exact HC163.out); rintro e w39 ⟨v172, rfl, ho0, hb⟩; have n0_ := am (Kd.R_below (pr HO_1) hb); have n1_ := am (Kd.R_lower ho0 (below_size (pb HB))); have n2_ := bb BK159 hb; have n3_ := am (below_step (pb HB) hb); clear HO_1 BK159 HB; have HO_1 := n0_; have HO173 := n1_; have BK159 := n2_; have HB := n3_; clear n0_ n1_ n2_ n3_; (try clear hb); (try clear hb2); (try clear hk); (try clear hi); (try clear ho0); obtain ⟨Ao40, co40, eo40⟩ := Kd.R_slice HO173.out; subst eo40) | (go_at_call 16; (with_reducible refine (downpourref02_Sum.calls kj10 a0 _ _ t160 _ _ t171 t174 _ ?side1 ?side2 ?side3 ?side4 A36.out).mono ?_); (case side1 => repeat (first | exact (Kd.R_reads' HO_1.out).2.2 | (with_reducible refine Kd.C_alloc ?_ _) | (with_reducible refine Kd.C_drewN ?_ _) | (with_reducible refine Kd.C_drew ?_))); (case side2 => exact (Kd.R_reads' HO_1.out).2.1); (case side3 => repeat (first | exact (Kd.R_reads' HO173.out).2.2 | (with_reducible refine Kd.C_alloc ?_ _) | (with_reducible refine Kd.C_drewN ?_ _) | (with_reducible refine Kd.C_drew ?_))); (case side4 => exact (Kd.R_reads' HO173.out).2.1); rintro e w41 ⟨rfl, hb⟩; have n0_ := am (Kd.R_below (pr HO_1) hb); have n1_ := am (Kd.R_below (pr HO173) hb); have n2_ := bb BK159 hb; have n3_ := am (below_step (pb HB) hb); clear HO_1 HO173 BK159 HB; have HO_1 := n0_; have HO173 := n1_; have BK159 := n2_; have HB := n3_; clear n0_ n1_ n2_ n3_; (try clear hb); (try clear hb2); (try clear hk); (try clear hi)))
         go_ret
         exact ⟨by first | rfl | (simp [errW_none, errW_some] <;> rfl) | (simp only [← hji5]; first | rfl | (simp [errW_none, errW_some] <;> rfl)) | (simp [*, errW_none, errW_some] <;> rfl), pb HB⟩
        ·
         rw [if_neg c34] at H
         exact absurd H (by simp)
       ·
        replace c33 := Bool.eq_false_iff.mpr c33
        subst c33
        have H1 : (none) = some r := by rw [if_neg (show ¬ (false = true) by decide)] at H; exact H
        clear H
        have H := H1
        clear H1
        exact absurd H (by simp)
   ·
    rw [if_neg c10] at H
    have c10b0 : (t166 == 0) = false := beq_eq_false_iff_ne.mpr c10
    have c10b1 : (t166 != 0) = true := bne_iff_ne.mpr c10
    replace H := Option.bind_eq_some_iff.mp H
    obtain ⟨t167, A420, H⟩ := H
    replace H : (if t167 = true then (if t165 = t166 then (some (t164.toList == ([] : List UInt8))) else (none)) else (none)) = some r := H
    have A42 := Aside0.mk A420
    clear A420
    by_cases c43 : t167 = true
    ·
     subst c43
     have H1 : (if t165 = t166 then (some (t164.toList == ([] : List UInt8))) else (none)) = some r := by rw [if_pos rfl] at H; exact H
     clear H
     have H := H1
     clear H1
     by_cases c44 : t165 = t166
     ·
      rw [if_pos c44] at H
      have c44b0 : (t165 == t166) = true := beq_iff_eq.mpr c44
      have c44b1 : (t165 != t166) = false := bne_eq_false_iff_eq.mpr c44
      clear c44
      obtain rfl := Option.some.inj H
      go_enter Tryd.func3, Tryd.ntmps3
      try go_wp2_with (first | ((with_reducible refine gate_dst (N := 5) rfl ?_); (try (refine gate_guard (by rfl) ?_; dsimp only)); refine box_event ?hg (N := 5) ?hd (cs := #[.int .i64 a2_0, .slice A2_1 l2_1.length c2_1]) (t := 25) ?hr ?_; (case hd => rfl); (case hg => rfl); (case hr => first | (go_simp; done) | (go_simp; rfl)); intro gb159 hg w45 hbox hb; have n0_ := am (below_step (pb HB) hb); have n1_ := am (hbox); have n2_ := am ((by rw [hg]; exact (below_size (pb HB)) : w.heap.size ≤ gb159)); have n3_ := am ((by rw [hg]; exact (below_size (pb HB)) : w.heap.size ≤ gb159)); clear HB; have HB := n0_; have BK159 := n1_; have GW159 := n2_; have GE159 := n3_; clear n0_ n1_ n2_ n3_ hb hbox hg))
      have n0_ := am (blk_drew BK159.out)
      have n1_ := am (below_drew1 HB.out)
      clear BK159
      clear HB
      have BK159 := n0_
      have HB := n1_
      clear n0_ n1_
      obtain ⟨i047, hi047, _, hsz47, _⟩ := info_parts info90
      obtain ⟨hcut47, hA47, hC47⟩ := print_take_of (P := Tryd.prog) (Value.int .u64) 0 23 90 .i64 Tryd.underlying23 hi047 hsz47 A2_1 c2_1 l2_1 (ji5) (of_decide_eq_true (by first | (with_reducible assumption) | assumption)) (of_decide_eq_true (by first | (with_reducible assumption) | assumption)) HC2_1.out
      (try simp only [hyji5] at hcut47 hA47 hC47)
      have HR163 := am (Kd.C_of_reads (h1 := fun _ => rfl) (hA47 _ (Kd.reads_of_C HR2_1.out)))
      have HC163 := Aside0.mk hC47
      clear hA47 hC47 hi047 hsz47
      refine start_ (n := 12) (S := fun w' => w'.cell? ⟨gb159, 0, none⟩ = some (.int .i64 a2_0) ∧ w'.cell? ⟨gb159, 1, none⟩ = some (.slice A2_1 l2_1.length c2_1)) (ds := [11]) #[F, F, F, F, F, F, F, F, F, F, F, F] (by kernel_rfl) rfl rfl ⟨(blk_cell BK159.out 0).trans rfl, (blk_cell BK159.out 1).trans rfl⟩ (fun hHeld => ?_); refine with_tabW downpourlaw02_BlockPicks.tab1 downpourlaw02_BlockPicks.bits1 (fun HT_ HW_ => ?_)
      generalize w45.drew = w46 at BK159 HB HR163 hHeld ⊢
      refine pure_ (i := 0) (N := some 10) (v := ?_) (a' := ?_) #[T, F, F, F, F, F, F, F, F, F, F, F] rfl rfl (any_of HT_.out (by kernel_rfl)) (fun _ _ _ h => h) (Or.inl ⟨by rfl, ?_⟩) ?_ ?_
      rotate_left
      ·
       intro w'
       go_simp
       with_reducible rfl
      rotate_left
      ·
       simp only [Act.put, q1, q2, q3, i64_w, i32_w]
       rfl
      refine pure_ (i := 2) (N := some 12) (v := ?_) (a' := ?_) #[T, F, T, F, F, F, F, F, F, F, F, F] rfl rfl (any_of HT_.out (by kernel_rfl)) (fun _ _ _ h => h) (Or.inl ⟨by rfl, ?_⟩) ?_ ?_
      rotate_left
      ·
       intro w'
       go_simp
       with_reducible rfl
      rotate_left
      ·
       simp only [Act.put, q1, q2, q3, i64_w, i32_w]
       rfl
      refine pure_ (i := 4) (N := some 14) (v := ?_) (a' := ?_) #[T, F, T, F, T, F, F, F, F, F, F, F] rfl rfl (any_of HT_.out (by kernel_rfl)) (fun _ _ _ h => h) (Or.inl ⟨by rfl, ?_⟩) ?_ ?_
      rotate_left
      ·
       intro w'
       go_simp
       with_reducible rfl
      rotate_left
      ·
       simp only [Act.put, q1, q2, q3, i64_w, i32_w]
       rfl
      refine take_ (i := 3) (N := some 13) (v := ?_) (a' := ?_) #[T, F, T, T, T, F, F, F, F, F, F, F] rfl rfl (take_ofW HT_.out HW_.out (by kernel_rfl)) (fun _ _ _ h => h) (Or.inl ⟨by rfl, ?_⟩) hHeld ?_ ?_
      rotate_left
      ·
       rintro w' ⟨s0, s1⟩
       go_simp
       with_reducible rfl
      rotate_left
      ·
       simp only [Act.put, q1, q2, q3, i64_w, i32_w]
       rfl
      refine take_ (i := 5) (N := some 15) (v := ?_) (a' := ?_) #[T, F, T, T, T, T, F, F, F, F, F, F] rfl rfl (take_ofW HT_.out HW_.out (by kernel_rfl)) (fun _ _ _ h => h) (Or.inl ⟨by rfl, ?_⟩) hHeld ?_ ?_
      rotate_left
      ·
       rintro w' ⟨s0, s1⟩
       go_simp
       with_reducible rfl
      rotate_left
      ·
       simp only [Act.put, q1, q2, q3, i64_w, i32_w]
       rfl
      refine pure_ (i := 6) (N := some 16) (v := ?_) (a' := ?_) #[T, F, T, T, T, T, T, F, F, F, F, F] rfl rfl (any_of HT_.out (by kernel_rfl)) (fun _ _ _ h => h) (Or.inl ⟨by rfl, ?_⟩) ?_ ?_
      rotate_left
      ·
       intro w'
       go_simp
       with_reducible rfl
      rotate_left
      ·
       simp only [Act.put, q1, q2, q3, i64_w, i32_w]
       rfl
      refine pure_ (i := 7) (N := some 17) (v := ?_) (a' := ?_) #[T, F, T, T, T, T, T, T, F, F, F, F] rfl rfl (any_of HT_.out (by kernel_rfl)) (fun _ _ _ h => h) (Or.inl ⟨by rfl, ?_⟩) ?_ ?_
      rotate_left
      ·
       intro w'
       go_simp
       with_reducible rfl
      rotate_left
      ·
       simp only [Act.put, q1, q2, q3, i64_w, i32_w]
       rfl
      refine pure_ (i := 8) (N := some 18) (v := ?_) (a' := ?_) #[T, F, T, T, T, T, T, T, T, F, F, F] rfl rfl (any_of HT_.out (by kernel_rfl)) (fun _ _ _ h => h) (Or.inl ⟨by rfl, ?_⟩) ?_ ?_
      rotate_left
      ·
       intro w'
       go_simp
       with_reducible rfl
      rotate_left
      ·
       simp only [Act.put, q1, q2, q3, i64_w, i32_w]
       rfl
      refine one_ (i := 1) (N := some 11) #[T, T, T, T, T, T, T, T, T, F, F, F] rfl rfl (one_of HT_.out (by kernel_rfl)) (by decide) (fun K hK => ?_)
      refine goes_ Tryd.func11 (by kernel_rfl) rfl #[.slice A1 l1.length c1] (by rfl) rfl rfl (by (try simp only [List.map_toArray, List.map_cons, List.map_nil]); first | done | rfl | (simp only [List.length_drop, List.length_take]; rfl)) ?_
      with_reducible refine (downpourlaw02_few.calls k _ _ l1 t160 _ ?side1 ?side2 A4.out).mono ?_
      (case side1 => repeat (first | exact (Kd.C_below HR1.out HB.out) | (with_reducible refine Kd.C_alloc ?_ _) | (with_reducible refine Kd.C_drewN ?_ _) | (with_reducible refine Kd.C_drew ?_)))
      (case side2 => exact HC1.out)
      rintro e w48 ⟨v161, rfl, ho0, hb⟩
      refine ⟨_, rfl, ?_⟩
      have n0_ := am (Kd.R_lower ho0 (below_size (pb HB)))
      have n1_ := bb BK159 hb
      have n2_ := am (below_step (pb HB) hb)
      clear BK159
      clear HB
      have HO162 := n0_
      have BK159 := n1_
      have HB := n2_
      clear n0_ n1_ n2_
      (try clear hb)
      (try clear hb2)
      (try clear hk)
      (try clear hi)
      (try clear ho0)
      refine hK.out _ _ ⟨(blk_cell BK159.out 0).trans rfl, (blk_cell BK159.out 1).trans rfl⟩ (fun hHeld => ?_)
      clear hK K
      refine norm_ (a' := ?_) ?_ ?_
      rotate_left
      ·
       show Act.put _ (some 11) _ = _
       simp only [Act.put, q1, q2, q3, i64_w, i32_w]
       rfl
      refine pure_ (i := 9) (N := some 1) (v := ?_) (a' := ?_) #[T, T, T, T, T, T, T, T, T, T, F, F] rfl rfl (any_of HT_.out (by kernel_rfl)) (fun _ _ _ h => h) (Or.inl ⟨by rfl, ?_⟩) ?_ ?_
      rotate_left
      ·
       intro w'
       go_simp
       with_reducible rfl
      rotate_left
      ·
       simp only [Act.put, q1, q2, q3, i64_w, i32_w]
       rfl
      refine pure_ (i := 10) (N := some 19) (v := ?_) (a' := ?_) #[T, T, T, T, T, T, T, T, T, T, T, F] rfl rfl (any_of HT_.out (by kernel_rfl)) (fun _ _ _ h => h) (Or.inl ⟨by rfl, ?_⟩) ?_ ?_
      rotate_left
      ·
       intro w'
       go_simp
       with_reducible rfl
      rotate_left
      ·
       simp only [Act.put, q1, q2, q3, i64_w, i32_w]
       rfl
      refine last_ (i := 11) (N := none) #[T, T, T, T, T, T, T, T, T, T, T, T] rfl rfl (one_of HT_.out (by kernel_rfl)) (by decide) (fun K hK => ?_)
      have hs49 : w48.cell? ⟨gb159, 1, none⟩ = some (.slice A2_1 l2_1.length c2_1) := (blk_cell BK159.out 1).trans rfl
      have hfs49 := blk_frozen BK159.out 1
      refine skip_ (w1 := ?_) (by rfl) rfl ?_ ?_
      rotate_left
      ·
       go_simp
       rfl
      refine hK.out _ _ ?_
      clear hK K
      refine done_ (done_of HT_.out (by kernel_rfl)) ?_
      have hcz50_0 : w48.cell? ⟨gb159, 0, none⟩ = some (.int .i64 a2_0) := (blk_cell BK159.out 0).trans rfl
      have hcz50_1 : w48.cell? ⟨gb159, 1, none⟩ = some (.slice A2_1 l2_1.length c2_1) := (blk_cell BK159.out 1).trans rfl
      have hfz50_0 := blk_frozen BK159.out 0
      have hfz50_1 := blk_frozen BK159.out 1
      obtain ⟨Ao51, co51, eo51⟩ := Kd.R_slice HO162.out
      subst eo51
      try go_wp2_with (first | ((with_reducible refine gate_callee (f := 12) rfl ?_); refine goesL_ (some 24) rfl rfl Tryd.func12 (by kernel_rfl) rfl #[.int .i64 a0, .slice Ao51 t160.length co51, .agg #[.int .i64 a2_0, .slice A2_1 yji5.length c2_1]] rfl (by (try simp only [List.map_toArray, List.map_cons, List.map_nil]); first | done | (rw [show yji5.length = (ji5).toNat from (by rw [List.length_take]; have h_ : ((ji5) : Int) ≤ (l2_1.length : Int) := of_decide_eq_true (by first | (with_reducible assumption) | assumption); omega)] <;> rfl) | (simp only [hji5]; rfl) | rfl | (simp only [List.length_drop, List.length_take]; rfl)) ?_; (with_reducible refine (block_Pick.calls k a0 _ _ t160 a2_0 _ _ yji5 t164 t165 _ ?side5 ?side1 ?side2 ?side3 ?side4 A8.out).mono ?_); (case side1 => refine (Kd.R_reads' (e := 9) (base := w.heap.size) (ok := fun k_ => True) (n := t160.length) (c := co51) ?_).2.2; exact (by (with_reducible repeat (first | apply Kd.R_alloc | apply Kd.R_drewN | apply Kd.R_drew)); exact (Kd.R_mono (Kd.R_far (p := ⟨gb159, 1, none⟩) (Kd.R_types HO162.out BK159.out (by decide)) (fun _ hk => hk.2) (.slice A2_1 yji5.length c2_1)) (fun _ h_ => h_.1)))); (case side2 => exact (Kd.R_reads' HO162.out).2.1); (case side3 => exact Kd.C_below HR163.out (pb HB)); (case side4 => exact HC163.out); (case side5 => exact TabOk.below HT.out (pb HB)); rintro e w52 ⟨rfl, hb⟩; refine ⟨_, rfl, ?_⟩; have n0_ := am (Kd.R_below (by (with_reducible repeat (first | apply Kd.R_alloc | apply Kd.R_drewN | apply Kd.R_drew)); exact (Kd.R_mono (Kd.R_far (p := ⟨gb159, 1, none⟩) (Kd.R_types HO162.out BK159.out (by decide)) (fun _ hk => hk.2) (.slice A2_1 yji5.length c2_1)) (fun _ h_ => h_.1))) hb); have n1_ := am (blk_below (g := gb159) (o := .cells #[.int .i64 a2_0, .slice A2_1 yji5.length c2_1] 25 (0, 0)) (by (with_reducible repeat (first | refine blk_drewN ?_ _ | refine blk_drew ?_ | refine blk_alloc ?_ _)); refine blk_put (cs := #[.int .i64 a2_0, .slice A2_1 l2_1.length c2_1]) ?_ 1 _ rfl; (with_reducible repeat (first | refine blk_drewN ?_ _ | refine blk_drew ?_ | refine blk_alloc ?_ _)); exact BK159.out) hb); have n2_ := am (below_step (pb HB) hb); clear HO162 BK159 HB; have HO162 := n0_; have BK159 := n1_; have HB := n2_; clear n0_ n1_ n2_; (try clear hb); (try clear hb2); (try clear hk); (try clear hi)) | ((with_reducible refine gate_callee (f := 13) rfl ?_); refine goesL_ (some 29) rfl rfl Tryd.func13 (by kernel_rfl) rfl #[.int .i64 a0, .slice Ao51 t160.length co51] rfl (by (try simp only [List.map_toArray, List.map_cons, List.map_nil]); first | done | rfl | (simp only [List.length_drop, List.length_take]; rfl)) ?_; (with_reducible refine (downpourref02_Why.calls k a0 _ _ t160 t166 _ ?side1 ?side2 A9.out).mono ?_); (case side1 => repeat (first | exact (Kd.R_reads' HO162.out).2.2 | (with_reducible refine Kd.C_alloc ?_ _) | (with_reducible refine Kd.C_drewN ?_ _) | (with_reducible refine Kd.C_drew ?_))); (case side2 => exact (Kd.R_reads' HO162.out).2.1); rintro e w' ⟨rfl, ⟨nd, rfl⟩⟩; refine ⟨_, rfl, ?_⟩) | ((with_reducible refine gate_callee (f := 14) rfl ?_); refine goesL_ (some 32) rfl rfl Tryd.func14 (by kernel_rfl) rfl #[] rfl (by (try simp only [List.map_toArray, List.map_cons, List.map_nil]); first | done | rfl | (simp only [List.length_drop, List.length_take]; rfl)) ?_; (with_reducible refine (downpourlaw02_alive.calls k  true _ A42.out).mono ?_); rintro e w53 ⟨rfl, hb⟩; refine ⟨_, rfl, ?_⟩; have n0_ := am (Kd.R_below (pr HO162) hb); have n1_ := bb BK159 hb; have n2_ := am (below_step (pb HB) hb); clear HO162 BK159 HB; have HO162 := n0_; have BK159 := n1_; have HB := n2_; clear n0_ n1_ n2_; (try clear hb); (try clear hb2); (try clear hk); (try clear hi)))
      go_ret
      exact ⟨by first | rfl | (simp [errW_none, errW_some] <;> rfl) | (simp only [← hji5]; first | rfl | (simp [errW_none, errW_some] <;> rfl)) | (simp [*, errW_none, errW_some] <;> rfl), pb HB⟩
     ·
      rw [if_neg c44] at H
      exact absurd H (by simp)
    ·
     replace c43 := Bool.eq_false_iff.mpr c43
     subst c43
     have H1 : (none) = some r := by rw [if_neg (show ¬ (false = true) by decide)] at H; exact H
     clear H
     have H := H1
     clear H1
     exact absurd H (by simp)
  ·
   rw [if_neg c7] at H
   exact absurd H (by simp)
 ·
  rw [if_neg c6] at H
  exact absurd H (by simp)

end Go.Proofs.YtfcedhejbnoinaaDoor.PB
