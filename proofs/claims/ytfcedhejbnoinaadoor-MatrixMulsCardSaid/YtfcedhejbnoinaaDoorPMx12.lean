-- PRINTED by print.py (a twelfth state) out of the translation. Not trusted: Lean checks it.
import Derived.Test.YtfcedhejbnoinaaDoorPMx0
import Derived.Test.YtfcedhejbnoinaaDoorPMx1
import Derived.Test.YtfcedhejbnoinaaDoorPMx4
import Derived.Test.YtfcedhejbnoinaaDoorPMx5
import Derived.Test.YtfcedhejbnoinaaDoorPMx7
import Derived.Test.YtfcedhejbnoinaaDoorPMx9
import Derived.Test.YtfcedhejbnoinaaDoorPMx10
import Derived.Test.YtfcedhejbnoinaaDoorPMx11
namespace Go.Proofs.YtfcedhejbnoinaaDoor.PM
open Go.RowKit Go.Proofs.YtfcedhejbnoinaaDoorW.PrintWords Go.Proofs.YtfcedhejbnoinaaDoorW.PrintLast Go.Proofs.YtfcedhejbnoinaaDoorW.PrintMore
open Bool renaming true → T, false → F
open List renaming setIfInBounds_toArray → q1, set_cons_zero → q2, set_cons_succ → q3
attribute [local go_sem] run_store_func max2_int min2_int max_two min_two max_three min_three max_four min_four   -- for this text's walks alone
set_option linter.unusedVariables false
set_option linter.unusedSimpArgs false

/-! ### downpourlaw03_MatrixMuls: function 7 -/
mutual
def downpourlaw03_MatrixMuls.j1 : Nat → Int → List ByteArray → List ByteArray → Int → Int → List (S25) → Option (Bool)
 | 0, _, _, _, _, _, _ => none
 | k + 1, x2, x3, x11, x12, x377000, x377001 => (downpourref03_Right.f k x377000 x377001).bind fun t409 => (if t409 = true then ((downpourref02_Why.f k x2 x3).bind fun t410 => (if t410 = 0 then (downpourlaw03_MatrixMuls.j2 k x2 x3 x11 x12 ((x3.length : Int) != x377000) x377000 x377001) else (downpourlaw03_MatrixMuls.j2 k x2 x3 x11 x12 true x377000 x377001))) else (if x12 = 1 then (some ((x11.length : Int) == 0)) else (none)))
def downpourlaw03_MatrixMuls.j2 : Nat → Int → List ByteArray → List ByteArray → Int → Bool → Int → List (S25) → Option (Bool)
 | 0, _, _, _, _, _, _, _ => none
 | k + 1, x2, x3, x11, x12, x88, x377000, x377001 => if x88 = true then (if x12 = 2 then (some ((x11.length : Int) == 0)) else (none)) else (if x12 = 0 then ((downpourref03_Apply.f k x377000 x377001 x2 x3).bind fun t411 => ((downpourref02_Texts.f k x11 t411).bind fun t414 => (some t414))) else (none))
def downpourlaw03_MatrixMuls.j0 : Nat → Int → List ByteArray → Int → List ByteArray → Int → Bool → Int → List (S25) → Int → List (S25) → Int → List (S25) → Option (Bool)
 | 0, _, _, _, _, _, _, _, _, _, _, _, _ => none
 | k + 1, x2, x3, x10, x11, x12, x34, x377000, x377001, x378000, x378001, x395000, x395001 => if x34 = true then (if x10 = 1 then ((downpourref03_Same.f k x395000 x395001 0 ([] : List (S25))).bind fun t402 => (if t402 = true then (downpourlaw03_MatrixMuls.j1 k x2 x3 x11 x12 x377000 x377001) else (none))) else (none)) else (if x377000 = (x378001.length : Int) then (if x10 = 0 then ((downpourref03_Mul.f k x377000 x377001 x378000 x378001).bind fun bt403 => ((downpourref03_Same.f k x395000 x395001 bt403.1 bt403.2).bind fun t407 => (if t407 = true then (downpourlaw03_MatrixMuls.j1 k x2 x3 x11 x12 x377000 x377001) else (none)))) else (none)) else (if x10 = 2 then ((downpourref03_Same.f k x395000 x395001 0 ([] : List (S25))).bind fun t408 => (if t408 = true then (downpourlaw03_MatrixMuls.j1 k x2 x3 x11 x12 x377000 x377001) else (none))) else (none)))
end
def downpourlaw03_MatrixMuls.f (k : Nat) (a0_0 : Int) (l0_1 : List (S25)) (a1_0 : Int) (l1_1 : List (S25)) (a2 : Int) (l3 : List ByteArray) : Option (Bool) := (downpourlaw03_few.f k a0_0 l0_1).bind fun bt378 => ((downpourlaw03_few.f k a1_0 l1_1).bind fun bt382 => ((downpourlaw03_blocks.f k l3).bind fun t386 => ((matrix_Mul.f k bt378.1 bt378.2 bt382.1 bt382.2).bind fun bt389 => ((matrix_Apply.f k bt378.1 bt378.2 a2 t386).bind fun bt395 => ((downpourlaw03_alive.f k).bind fun t399 => (if t399 = true then ((downpourref03_Right.f k bt378.1 bt378.2).bind fun t400 => (if t400 = true then ((downpourref03_Right.f k bt382.1 bt382.2).bind fun t401 => (downpourlaw03_MatrixMuls.j0 k a2 t386 bt389.2.2 bt395.1 bt395.2 (!t401) bt378.1 bt378.2 bt382.1 bt382.2 bt389.1 bt389.2.1)) else (downpourlaw03_MatrixMuls.j0 k a2 t386 bt389.2.2 bt395.1 bt395.2 true bt378.1 bt378.2 bt382.1 bt382.2 bt389.1 bt389.2.1))) else (none)))))))
theorem downpourlaw03_MatrixMuls.mono_l : ∀ k, (∀ y0 y1 y2 y3 y4 y5, LeO (downpourlaw03_MatrixMuls.j1 k y0 y1 y2 y3 y4 y5) (downpourlaw03_MatrixMuls.j1 (k + 1) y0 y1 y2 y3 y4 y5)) ∧ (∀ y0 y1 y2 y3 y4 y5 y6, LeO (downpourlaw03_MatrixMuls.j2 k y0 y1 y2 y3 y4 y5 y6) (downpourlaw03_MatrixMuls.j2 (k + 1) y0 y1 y2 y3 y4 y5 y6)) ∧ (∀ y0 y1 y2 y3 y4 y5 y6 y7 y8 y9 y10 y11, LeO (downpourlaw03_MatrixMuls.j0 k y0 y1 y2 y3 y4 y5 y6 y7 y8 y9 y10 y11) (downpourlaw03_MatrixMuls.j0 (k + 1) y0 y1 y2 y3 y4 y5 y6 y7 y8 y9 y10 y11))
 | 0 => ⟨fun _ _ _ _ _ _ r h => by simp [downpourlaw03_MatrixMuls.j1] at h, fun _ _ _ _ _ _ _ r h => by simp [downpourlaw03_MatrixMuls.j2] at h, fun _ _ _ _ _ _ _ _ _ _ _ _ r h => by simp [downpourlaw03_MatrixMuls.j0] at h⟩
 | k + 1 => by
  obtain ⟨ih0, ih1, ih2⟩ := downpourlaw03_MatrixMuls.mono_l k
  refine ⟨?_, ?_, ?_⟩
  ·
   intro y0 y1 y2 y3 y4 y5
   unfold downpourlaw03_MatrixMuls.j1
   repeat' first
   | (with_reducible exact ih0 _ _ _ _ _ _)
   | (with_reducible exact ih1 _ _ _ _ _ _ _)
   | (with_reducible exact ih2 _ _ _ _ _ _ _ _ _ _ _ _)
   | (with_reducible exact downpourlaw03_alive.mono _)
   | (with_reducible exact downpourlaw03_blocks.mono _ _)
   | (with_reducible exact downpourlaw03_few.mono _ _ _)
   | (with_reducible exact downpourref02_Texts.mono _ _ _)
   | (with_reducible exact downpourref02_Why.mono _ _ _)
   | (with_reducible exact downpourref03_Apply.mono _ _ _ _ _)
   | (with_reducible exact downpourref03_Mul.mono _ _ _ _ _)
   | (with_reducible exact downpourref03_Right.mono _ _ _)
   | (with_reducible exact downpourref03_Same.mono _ _ _ _ _)
   | (with_reducible exact matrix_Apply.mono _ _ _ _ _)
   | (with_reducible exact matrix_Mul.mono _ _ _ _ _)
   | (with_reducible exact LeO.refl _)
   | (with_reducible exact LeO.none _)
   | (with_reducible refine LeO.ite ?_ ?_)
   | (with_reducible refine LeO.bind ?_ (fun _ => ?_))
   | exact ih0 _ _ _ _ _ _
   | exact ih1 _ _ _ _ _ _ _
   | exact ih2 _ _ _ _ _ _ _ _ _ _ _ _
   | exact downpourlaw03_alive.mono _
   | exact downpourlaw03_blocks.mono _ _
   | exact downpourlaw03_few.mono _ _ _
   | exact downpourref02_Texts.mono _ _ _
   | exact downpourref02_Why.mono _ _ _
   | exact downpourref03_Apply.mono _ _ _ _ _
   | exact downpourref03_Mul.mono _ _ _ _ _
   | exact downpourref03_Right.mono _ _ _
   | exact downpourref03_Same.mono _ _ _ _ _
   | exact matrix_Apply.mono _ _ _ _ _
   | exact matrix_Mul.mono _ _ _ _ _
   | exact LeO.none _
   | refine LeO.ite ?_ ?_
   | refine LeO.bind ?_ (fun _ => ?_)
  ·
   intro y0 y1 y2 y3 y4 y5 y6
   unfold downpourlaw03_MatrixMuls.j2
   repeat' first
   | (with_reducible exact ih0 _ _ _ _ _ _)
   | (with_reducible exact ih1 _ _ _ _ _ _ _)
   | (with_reducible exact ih2 _ _ _ _ _ _ _ _ _ _ _ _)
   | (with_reducible exact downpourlaw03_alive.mono _)
   | (with_reducible exact downpourlaw03_blocks.mono _ _)
   | (with_reducible exact downpourlaw03_few.mono _ _ _)
   | (with_reducible exact downpourref02_Texts.mono _ _ _)
   | (with_reducible exact downpourref02_Why.mono _ _ _)
   | (with_reducible exact downpourref03_Apply.mono _ _ _ _ _)
   | (with_reducible exact downpourref03_Mul.mono _ _ _ _ _)
   | (with_reducible exact downpourref03_Right.mono _ _ _)
   | (with_reducible exact downpourref03_Same.mono _ _ _ _ _)
   | (with_reducible exact matrix_Apply.mono _ _ _ _ _)
   | (with_reducible exact matrix_Mul.mono _ _ _ _ _)
   | (with_reducible exact LeO.refl _)
   | (with_reducible exact LeO.none _)
   | (with_reducible refine LeO.ite ?_ ?_)
   | (with_reducible refine LeO.bind ?_ (fun _ => ?_))
   | exact ih0 _ _ _ _ _ _
   | exact ih1 _ _ _ _ _ _ _
   | exact ih2 _ _ _ _ _ _ _ _ _ _ _ _
   | exact downpourlaw03_alive.mono _
   | exact downpourlaw03_blocks.mono _ _
   | exact downpourlaw03_few.mono _ _ _
   | exact downpourref02_Texts.mono _ _ _
   | exact downpourref02_Why.mono _ _ _
   | exact downpourref03_Apply.mono _ _ _ _ _
   | exact downpourref03_Mul.mono _ _ _ _ _
   | exact downpourref03_Right.mono _ _ _
   | exact downpourref03_Same.mono _ _ _ _ _
   | exact matrix_Apply.mono _ _ _ _ _
   | exact matrix_Mul.mono _ _ _ _ _
   | exact LeO.none _
   | refine LeO.ite ?_ ?_
   | refine LeO.bind ?_ (fun _ => ?_)
  ·
   intro y0 y1 y2 y3 y4 y5 y6 y7 y8 y9 y10 y11
   unfold downpourlaw03_MatrixMuls.j0
   repeat' first
   | (with_reducible exact ih0 _ _ _ _ _ _)
   | (with_reducible exact ih1 _ _ _ _ _ _ _)
   | (with_reducible exact ih2 _ _ _ _ _ _ _ _ _ _ _ _)
   | (with_reducible exact downpourlaw03_alive.mono _)
   | (with_reducible exact downpourlaw03_blocks.mono _ _)
   | (with_reducible exact downpourlaw03_few.mono _ _ _)
   | (with_reducible exact downpourref02_Texts.mono _ _ _)
   | (with_reducible exact downpourref02_Why.mono _ _ _)
   | (with_reducible exact downpourref03_Apply.mono _ _ _ _ _)
   | (with_reducible exact downpourref03_Mul.mono _ _ _ _ _)
   | (with_reducible exact downpourref03_Right.mono _ _ _)
   | (with_reducible exact downpourref03_Same.mono _ _ _ _ _)
   | (with_reducible exact matrix_Apply.mono _ _ _ _ _)
   | (with_reducible exact matrix_Mul.mono _ _ _ _ _)
   | (with_reducible exact LeO.refl _)
   | (with_reducible exact LeO.none _)
   | (with_reducible refine LeO.ite ?_ ?_)
   | (with_reducible refine LeO.bind ?_ (fun _ => ?_))
   | exact ih0 _ _ _ _ _ _
   | exact ih1 _ _ _ _ _ _ _
   | exact ih2 _ _ _ _ _ _ _ _ _ _ _ _
   | exact downpourlaw03_alive.mono _
   | exact downpourlaw03_blocks.mono _ _
   | exact downpourlaw03_few.mono _ _ _
   | exact downpourref02_Texts.mono _ _ _
   | exact downpourref02_Why.mono _ _ _
   | exact downpourref03_Apply.mono _ _ _ _ _
   | exact downpourref03_Mul.mono _ _ _ _ _
   | exact downpourref03_Right.mono _ _ _
   | exact downpourref03_Same.mono _ _ _ _ _
   | exact matrix_Apply.mono _ _ _ _ _
   | exact matrix_Mul.mono _ _ _ _ _
   | exact LeO.none _
   | refine LeO.ite ?_ ?_
   | refine LeO.bind ?_ (fun _ => ?_)
theorem downpourlaw03_MatrixMuls.mono : ∀ a0 a1 a2 a3 a4 a5 k, LeO (downpourlaw03_MatrixMuls.f k a0 a1 a2 a3 a4 a5) (downpourlaw03_MatrixMuls.f (k + 1) a0 a1 a2 a3 a4 a5) := by
 intro a0 a1 a2 a3 a4 a5 k
 obtain ⟨ih0, ih1, ih2⟩ := downpourlaw03_MatrixMuls.mono_l k
 unfold downpourlaw03_MatrixMuls.f
 repeat' first
   | (with_reducible exact ih0 _ _ _ _ _ _)
   | (with_reducible exact ih1 _ _ _ _ _ _ _)
   | (with_reducible exact ih2 _ _ _ _ _ _ _ _ _ _ _ _)
   | (with_reducible exact downpourlaw03_alive.mono _)
   | (with_reducible exact downpourlaw03_blocks.mono _ _)
   | (with_reducible exact downpourlaw03_few.mono _ _ _)
   | (with_reducible exact downpourref02_Texts.mono _ _ _)
   | (with_reducible exact downpourref02_Why.mono _ _ _)
   | (with_reducible exact downpourref03_Apply.mono _ _ _ _ _)
   | (with_reducible exact downpourref03_Mul.mono _ _ _ _ _)
   | (with_reducible exact downpourref03_Right.mono _ _ _)
   | (with_reducible exact downpourref03_Same.mono _ _ _ _ _)
   | (with_reducible exact matrix_Apply.mono _ _ _ _ _)
   | (with_reducible exact matrix_Mul.mono _ _ _ _ _)
   | (with_reducible exact LeO.refl _)
   | (with_reducible exact LeO.none _)
   | (with_reducible refine LeO.ite ?_ ?_)
   | (with_reducible refine LeO.bind ?_ (fun _ => ?_))
   | exact ih0 _ _ _ _ _ _
   | exact ih1 _ _ _ _ _ _ _
   | exact ih2 _ _ _ _ _ _ _ _ _ _ _ _
   | exact downpourlaw03_alive.mono _
   | exact downpourlaw03_blocks.mono _ _
   | exact downpourlaw03_few.mono _ _ _
   | exact downpourref02_Texts.mono _ _ _
   | exact downpourref02_Why.mono _ _ _
   | exact downpourref03_Apply.mono _ _ _ _ _
   | exact downpourref03_Mul.mono _ _ _ _ _
   | exact downpourref03_Right.mono _ _ _
   | exact downpourref03_Same.mono _ _ _ _ _
   | exact matrix_Apply.mono _ _ _ _ _
   | exact matrix_Mul.mono _ _ _ _ _
   | exact LeO.none _
   | refine LeO.ite ?_ ?_
   | refine LeO.bind ?_ (fun _ => ?_)
def downpourlaw03_MatrixMuls.T1 : Bool × List (List Nat × List Nat) := (true, [([], []), ([0], [0]), ([], []), ([2, 1], [2]), ([], []), ([4, 3], [4]), ([1, 5, 0, 1], [1]), ([3, 6, 0, 1, 2, 3, 6], [3]), ([5, 7, 0, 1, 2, 3, 4, 5, 6, 7], [4, 5])])
def downpourlaw03_MatrixMuls.B1 : List Nat := [0, 1, 0, 7, 0, 31, 63, 127, 255]
theorem downpourlaw03_MatrixMuls.tab1 : rtab .any (opsOf Tryd.f7 1) = downpourlaw03_MatrixMuls.T1 := by kernel_rfl
theorem downpourlaw03_MatrixMuls.bits1 : waitsOk downpourlaw03_MatrixMuls.T1.2 downpourlaw03_MatrixMuls.B1 = true := by kernel_rfl
def downpourlaw03_MatrixMuls.T12 : Bool × List (List Nat × List Nat) := (true, [([], []), ([0], [0]), ([1], [1]), ([2], [2]), ([2], [2]), ([2], [2]), ([4, 5, 2, 2], [2, 4, 5]), ([3, 6, 6, 2], [2, 3, 6]), ([7, 2], [2, 7]), ([2, 8], [2, 8]), ([9, 7], [9])])
def downpourlaw03_MatrixMuls.B12 : List Nat := [0, 1, 3, 7, 7, 7, 55, 127, 255, 511, 1023]
theorem downpourlaw03_MatrixMuls.tab12 : rtab .any (opsOf Tryd.f7 12) = downpourlaw03_MatrixMuls.T12 := by kernel_rfl
theorem downpourlaw03_MatrixMuls.bits12 : waitsOk downpourlaw03_MatrixMuls.T12.2 downpourlaw03_MatrixMuls.B12 = true := by kernel_rfl
set_option maxHeartbeats 8000000 in
set_option maxRecDepth 100000 in
theorem downpourlaw03_MatrixMuls.calls (k : Nat) (a0_0 : Int) (A0_1 : Option Addr) (c0_1 : Nat) (l0_1 : List (S25)) (a1_0 : Int) (A1_1 : Option Addr) (c1_1 : Nat) (l1_1 : List (S25)) (a2 : Int) (A3 : Option Addr) (c3 : Nat) (l3 : List ByteArray) (r : Bool) (w : World) (hT_ : TabOk w) (hr0_1 : Kd.C k25 w A0_1 l0_1.length l0_1) (hc0_1 : l0_1.length ≤ c0_1) (hr1_1 : Kd.C k25 w A1_1 l1_1.length l1_1) (hc1_1 : l1_1.length ≤ c1_1) (hr3 : Kd.C Kd.string w A3 l3.length l3) (hc3 : l3.length ≤ c3) (h : downpourlaw03_MatrixMuls.f k a0_0 l0_1 a1_0 l1_1 a2 l3 = some r) :
  Calls Tryd.prog 7 #[.agg #[.int .i64 a0_0, .slice A0_1 l0_1.length c0_1], .agg #[.int .i64 a1_0, .slice A1_1 l1_1.length c1_1], .int .i64 a2, .slice A3 l3.length c3] w fun e w' => e = .returned (.bool r) ∧ Below w.heap.size w w' := by
 have hu55 := Tryd.underlying55
 have HR0_1 := Aside0.mk hr0_1
 have HC0_1 := Aside0.mk hc0_1
 clear hr0_1 hc0_1
 have HR1_1 := Aside0.mk hr1_1
 have HC1_1 := Aside0.mk hc1_1
 clear hr1_1 hc1_1
 have HR3 := Aside0.mk hr3
 have HC3 := Aside0.mk hc3
 clear hr3 hc3
 have HT := Aside0.mk hT_
 clear hT_
 have HB := am (Below.refl w.heap.size w)
 have H : ((downpourlaw03_few.f k a0_0 l0_1).bind fun bt378 => ((downpourlaw03_few.f k a1_0 l1_1).bind fun bt382 => ((downpourlaw03_blocks.f k l3).bind fun t386 => ((matrix_Mul.f k bt378.1 bt378.2 bt382.1 bt382.2).bind fun bt389 => ((matrix_Apply.f k bt378.1 bt378.2 a2 t386).bind fun bt395 => ((downpourlaw03_alive.f k).bind fun t399 => (if t399 = true then ((downpourref03_Right.f k bt378.1 bt378.2).bind fun t400 => (if t400 = true then ((downpourref03_Right.f k bt382.1 bt382.2).bind fun t401 => (downpourlaw03_MatrixMuls.j0 k a2 t386 bt389.2.2 bt395.1 bt395.2 (!t401) bt378.1 bt378.2 bt382.1 bt382.2 bt389.1 bt389.2.1)) else (downpourlaw03_MatrixMuls.j0 k a2 t386 bt389.2.2 bt395.1 bt395.2 true bt378.1 bt378.2 bt382.1 bt382.2 bt389.1 bt389.2.1))) else (none)))))))) = some r := h
 clear h
 replace H := Option.bind_eq_some_iff.mp H
 obtain ⟨⟨t378, t379⟩, A50, H⟩ := H
 replace H : ((downpourlaw03_few.f k a1_0 l1_1).bind fun bt382 => ((downpourlaw03_blocks.f k l3).bind fun t386 => ((matrix_Mul.f k t378 t379 bt382.1 bt382.2).bind fun bt389 => ((matrix_Apply.f k t378 t379 a2 t386).bind fun bt395 => ((downpourlaw03_alive.f k).bind fun t399 => (if t399 = true then ((downpourref03_Right.f k t378 t379).bind fun t400 => (if t400 = true then ((downpourref03_Right.f k bt382.1 bt382.2).bind fun t401 => (downpourlaw03_MatrixMuls.j0 k a2 t386 bt389.2.2 bt395.1 bt395.2 (!t401) t378 t379 bt382.1 bt382.2 bt389.1 bt389.2.1)) else (downpourlaw03_MatrixMuls.j0 k a2 t386 bt389.2.2 bt395.1 bt395.2 true t378 t379 bt382.1 bt382.2 bt389.1 bt389.2.1))) else (none))))))) = some r := H
 have A5 := Aside0.mk A50
 clear A50
 replace H := Option.bind_eq_some_iff.mp H
 obtain ⟨⟨t382, t383⟩, A60, H⟩ := H
 replace H : ((downpourlaw03_blocks.f k l3).bind fun t386 => ((matrix_Mul.f k t378 t379 t382 t383).bind fun bt389 => ((matrix_Apply.f k t378 t379 a2 t386).bind fun bt395 => ((downpourlaw03_alive.f k).bind fun t399 => (if t399 = true then ((downpourref03_Right.f k t378 t379).bind fun t400 => (if t400 = true then ((downpourref03_Right.f k t382 t383).bind fun t401 => (downpourlaw03_MatrixMuls.j0 k a2 t386 bt389.2.2 bt395.1 bt395.2 (!t401) t378 t379 t382 t383 bt389.1 bt389.2.1)) else (downpourlaw03_MatrixMuls.j0 k a2 t386 bt389.2.2 bt395.1 bt395.2 true t378 t379 t382 t383 bt389.1 bt389.2.1))) else (none)))))) = some r := H
 have A6 := Aside0.mk A60
 clear A60
 replace H := Option.bind_eq_some_iff.mp H
 obtain ⟨t386, A70, H⟩ := H
 replace H : ((matrix_Mul.f k t378 t379 t382 t383).bind fun bt389 => ((matrix_Apply.f k t378 t379 a2 t386).bind fun bt395 => ((downpourlaw03_alive.f k).bind fun t399 => (if t399 = true then ((downpourref03_Right.f k t378 t379).bind fun t400 => (if t400 = true then ((downpourref03_Right.f k t382 t383).bind fun t401 => (downpourlaw03_MatrixMuls.j0 k a2 t386 bt389.2.2 bt395.1 bt395.2 (!t401) t378 t379 t382 t383 bt389.1 bt389.2.1)) else (downpourlaw03_MatrixMuls.j0 k a2 t386 bt389.2.2 bt395.1 bt395.2 true t378 t379 t382 t383 bt389.1 bt389.2.1))) else (none))))) = some r := H
 have A7 := Aside0.mk A70
 clear A70
 replace H := Option.bind_eq_some_iff.mp H
 obtain ⟨⟨t389, t390, t393⟩, A80, H⟩ := H
 replace H : ((matrix_Apply.f k t378 t379 a2 t386).bind fun bt395 => ((downpourlaw03_alive.f k).bind fun t399 => (if t399 = true then ((downpourref03_Right.f k t378 t379).bind fun t400 => (if t400 = true then ((downpourref03_Right.f k t382 t383).bind fun t401 => (downpourlaw03_MatrixMuls.j0 k a2 t386 t393 bt395.1 bt395.2 (!t401) t378 t379 t382 t383 t389 t390)) else (downpourlaw03_MatrixMuls.j0 k a2 t386 t393 bt395.1 bt395.2 true t378 t379 t382 t383 t389 t390))) else (none)))) = some r := H
 have A8 := Aside0.mk A80
 clear A80
 replace H := Option.bind_eq_some_iff.mp H
 obtain ⟨⟨t395, t398⟩, A90, H⟩ := H
 replace H : ((downpourlaw03_alive.f k).bind fun t399 => (if t399 = true then ((downpourref03_Right.f k t378 t379).bind fun t400 => (if t400 = true then ((downpourref03_Right.f k t382 t383).bind fun t401 => (downpourlaw03_MatrixMuls.j0 k a2 t386 t393 t395 t398 (!t401) t378 t379 t382 t383 t389 t390)) else (downpourlaw03_MatrixMuls.j0 k a2 t386 t393 t395 t398 true t378 t379 t382 t383 t389 t390))) else (none))) = some r := H
 have A9 := Aside0.mk A90
 clear A90
 replace H := Option.bind_eq_some_iff.mp H
 obtain ⟨t399, A100, H⟩ := H
 replace H : (if t399 = true then ((downpourref03_Right.f k t378 t379).bind fun t400 => (if t400 = true then ((downpourref03_Right.f k t382 t383).bind fun t401 => (downpourlaw03_MatrixMuls.j0 k a2 t386 t393 t395 t398 (!t401) t378 t379 t382 t383 t389 t390)) else (downpourlaw03_MatrixMuls.j0 k a2 t386 t393 t395 t398 true t378 t379 t382 t383 t389 t390))) else (none)) = some r := H
 have A10 := Aside0.mk A100
 clear A100
 by_cases c11 : t399 = true
 ·
  subst c11
  have H1 : ((downpourref03_Right.f k t378 t379).bind fun t400 => (if t400 = true then ((downpourref03_Right.f k t382 t383).bind fun t401 => (downpourlaw03_MatrixMuls.j0 k a2 t386 t393 t395 t398 (!t401) t378 t379 t382 t383 t389 t390)) else (downpourlaw03_MatrixMuls.j0 k a2 t386 t393 t395 t398 true t378 t379 t382 t383 t389 t390))) = some r := by rw [if_pos rfl] at H; exact H
  clear H
  have H := H1
  clear H1
  have HC12 := Aside0.mk H
  clear H
  go_enter Tryd.func7, Tryd.ntmps7
  try go_wp2_with (first | ((with_reducible refine gate_dst (N := 4) rfl ?_); (try (refine gate_guard (by rfl) ?_; dsimp only)); refine box_event ?hg (N := 4) ?hd (cs := #[.int .i64 a0_0, .slice A0_1 l0_1.length c0_1]) (t := 55) ?hr ?_; (case hd => rfl); (case hg => rfl); (case hr => first | (go_simp; done) | (go_simp; rfl)); intro gb376 hg w13 hbox hb; have n0_ := am (below_step (pb HB) hb); have n1_ := am (hbox); have n2_ := am ((by rw [hg]; exact (below_size (pb HB)) : w.heap.size ≤ gb376)); have n3_ := am ((by rw [hg]; exact (below_size (pb HB)) : w.heap.size ≤ gb376)); clear HB; have HB := n0_; have BK376 := n1_; have GW376 := n2_; have GE376 := n3_; clear n0_ n1_ n2_ n3_ hb hbox hg) | ((with_reducible refine gate_dst (N := 5) rfl ?_); (try (refine gate_guard (by rfl) ?_; dsimp only)); refine box_event ?hg (N := 5) ?hd (cs := #[.int .i64 a1_0, .slice A1_1 l1_1.length c1_1]) (t := 55) ?hr ?_; (case hd => rfl); (case hg => rfl); (case hr => first | (go_simp; done) | (go_simp; rfl)); intro gb377 hg w14 hbox hb; have n0_ := bb BK376 hb; have n1_ := am (below_step (pb HB) hb); have n2_ := am (hbox); have n3_ := am ((by rw [hg]; exact (below_size (pb HB)) : w.heap.size ≤ gb377)); have n4_ := am ((by rw [hg]; exact (below_size (pb HB)) : w.heap.size ≤ gb377)); have n5_ := am ((by rw [hg]; exact Nat.ne_of_lt (bl BK376) : gb376 ≠ gb377)); have n6_ := am ((by rw [hg]; exact Nat.ne_of_gt (bl BK376) : gb377 ≠ gb376)); clear BK376 HB; have BK376 := n0_; have HB := n1_; have BK377 := n2_; have GW377 := n3_; have GE377 := n4_; have NB376_377 := n5_; have NB377_376 := n6_; clear n0_ n1_ n2_ n3_ n4_ n5_ n6_ hb hbox hg))
  have n0_ := am (blk_drew BK376.out)
  have n1_ := am (blk_drew BK377.out)
  have n2_ := am (below_drew1 HB.out)
  clear BK376
  clear BK377
  clear HB
  have BK376 := n0_
  have BK377 := n1_
  have HB := n2_
  clear n0_ n1_ n2_
  refine start_ (n := 9) (S := fun w' => w'.cell? ⟨gb376, 0, none⟩ = some (.int .i64 a0_0) ∧ w'.cell? ⟨gb376, 1, none⟩ = some (.slice A0_1 l0_1.length c0_1) ∧ w'.cell? ⟨gb377, 0, none⟩ = some (.int .i64 a1_0) ∧ w'.cell? ⟨gb377, 1, none⟩ = some (.slice A1_1 l1_1.length c1_1)) (ds := [6, 7]) #[F, F, F, F, F, F, F, F, F] (by kernel_rfl) rfl rfl ⟨(blk_cell BK376.out 0).trans rfl, (blk_cell BK376.out 1).trans rfl, (blk_cell BK377.out 0).trans rfl, (blk_cell BK377.out 1).trans rfl⟩ (fun hHeld => ?_); refine with_tabW downpourlaw03_MatrixMuls.tab1 downpourlaw03_MatrixMuls.bits1 (fun HT_ HW_ => ?_)
  generalize w14.drew = w15 at BK376 BK377 HB hHeld ⊢
  refine pure_ (i := 4) (N := some 17) (v := ?_) (a' := ?_) #[F, F, F, F, T, F, F, F, F] rfl rfl (any_of HT_.out (by kernel_rfl)) (fun _ _ _ h => h) (Or.inl ⟨by rfl, ?_⟩) ?_ ?_
  rotate_left
  ·
   intro w'
   go_simp
   with_reducible rfl
  rotate_left
  ·
   simp only [Act.put, q1, q2, q3, i64_w, i32_w]
   rfl
  refine take_ (i := 0) (N := some 13) (v := ?_) (a' := ?_) #[T, F, F, F, T, F, F, F, F] rfl rfl (take_ofW HT_.out HW_.out (by kernel_rfl)) (fun _ _ _ h => h) (Or.inl ⟨by rfl, ?_⟩) hHeld ?_ ?_
  rotate_left
  ·
   rintro w' ⟨s0, s1, s2, s3⟩
   go_simp
   with_reducible rfl
  rotate_left
  ·
   simp only [Act.put, q1, q2, q3, i64_w, i32_w]
   rfl
  refine take_ (i := 2) (N := some 15) (v := ?_) (a' := ?_) #[T, F, T, F, T, F, F, F, F] rfl rfl (take_ofW HT_.out HW_.out (by kernel_rfl)) (fun _ _ _ h => h) (Or.inl ⟨by rfl, ?_⟩) hHeld ?_ ?_
  rotate_left
  ·
   rintro w' ⟨s0, s1, s2, s3⟩
   go_simp
   with_reducible rfl
  rotate_left
  ·
   simp only [Act.put, q1, q2, q3, i64_w, i32_w]
   rfl
  refine one_ (i := 1) (N := some 14) #[T, T, T, F, T, F, F, F, F] rfl rfl (one_of HT_.out (by kernel_rfl)) (by decide) (fun K hK => ?_)
  refine goes_ Tryd.func34 (by kernel_rfl) rfl #[.agg #[.int .i64 a0_0, .slice A0_1 l0_1.length c0_1]] (by rfl) rfl rfl (by (try simp only [List.map_toArray, List.map_cons, List.map_nil]); first | done | rfl | (simp only [List.length_drop, List.length_take]; rfl)) ?_
  with_reducible refine (downpourlaw03_few.calls k a0_0 (fun k_ => k_ < w.heap.size) _ _ l0_1 t378 t379 _ ?side1 A5.out).mono ?_
  (case side1 => exact Kd.V_mk HC0_1.out (Kd.F_below (Kd.C_F k25_heap HR0_1.out) (pb HB)))
  rintro e w16 ⟨v380, rfl, ho0, hb⟩
  refine ⟨_, rfl, ?_⟩
  have n0_ := am (Kd.N_lower (Kd.N_mono (ok' := fun k_ => k_ ≠ gb376 ∧ k_ ≠ gb377) ho0 (fun k_ hk_ => ⟨Or.elim hk_ (fun hs_ => fun e_ => Nat.not_le.2 hs_ (by rw [e_]; exact GW376.out)) (fun hn_ => (Kd.freshB (g := gb376) (o := .cells #[.int .i64 a0_0, .slice A0_1 l0_1.length c0_1] 55 (0, 0)) (pk BK376) k_ hn_)), Or.elim hk_ (fun hs_ => fun e_ => Nat.not_le.2 hs_ (by rw [e_]; exact GW377.out)) (fun hn_ => (Kd.freshB (g := gb377) (o := .cells #[.int .i64 a1_0, .slice A1_1 l1_1.length c1_1] 55 (0, 0)) (pk BK377) k_ hn_))⟩)) (below_size (pb HB)))
  have n1_ := bb BK376 hb
  have n2_ := bb BK377 hb
  have n3_ := am (below_step (pb HB) hb)
  clear BK376
  clear BK377
  clear HB
  have HO381 := n0_
  have BK376 := n1_
  have BK377 := n2_
  have HB := n3_
  clear n0_ n1_ n2_ n3_
  (try clear hb)
  (try clear hb2)
  (try clear hk)
  (try clear hi)
  (try clear ho0)
  refine hK.out _ _ ⟨(blk_cell BK376.out 0).trans rfl, (blk_cell BK376.out 1).trans rfl, (blk_cell BK377.out 0).trans rfl, (blk_cell BK377.out 1).trans rfl⟩ (fun hHeld => ?_)
  clear hK K
  refine norm_ (a' := ?_) ?_ ?_
  rotate_left
  ·
   show Act.put _ (some 14) _ = _
   simp only [Act.put, q1, q2, q3, i64_w, i32_w]
   rfl
  refine one_ (i := 3) (N := some 16) #[T, T, T, T, T, F, F, F, F] rfl rfl (one_of HT_.out (by kernel_rfl)) (by decide) (fun K hK => ?_)
  refine goes_ Tryd.func34 (by kernel_rfl) rfl #[.agg #[.int .i64 a1_0, .slice A1_1 l1_1.length c1_1]] (by rfl) rfl rfl (by (try simp only [List.map_toArray, List.map_cons, List.map_nil]); first | done | rfl | (simp only [List.length_drop, List.length_take]; rfl)) ?_
  with_reducible refine (downpourlaw03_few.calls k a1_0 (fun k_ => k_ < w.heap.size) _ _ l1_1 t382 t383 _ ?side1 A6.out).mono ?_
  (case side1 => exact Kd.V_mk HC1_1.out (Kd.F_below (Kd.C_F k25_heap HR1_1.out) (pb HB)))
  rintro e w17 ⟨v384, rfl, ho0, hb⟩
  refine ⟨_, rfl, ?_⟩
  have n0_ := am (Kd.N_elder' (pn HO381) (by first | exact Kd.N_base ho0 | exact Kd.S_base ho0 | exact Kd.R_base ho0) hb)
  have n1_ := am (Kd.N_lower (Kd.N_mono (ok' := fun k_ => some k_ ≠ (v380 : Value).ownBlock ∧ k_ ≠ gb376 ∧ k_ ≠ gb377) ho0 (fun k_ hk_ => ⟨Or.elim hk_ (fun hs_ => fun e_ => Nat.not_le.2 hs_ (Kd.N_base HO381.out k_ e_.symm)) (fun hn_ => (Kd.fresh' (Kd.N_lt (pn HO381)) k_ hn_)), Or.elim hk_ (fun hs_ => fun e_ => Nat.not_le.2 hs_ (by rw [e_]; exact GW376.out)) (fun hn_ => (Kd.freshB (g := gb376) (o := .cells #[.int .i64 a0_0, .slice A0_1 l0_1.length c0_1] 55 (0, 0)) (pk BK376) k_ hn_)), Or.elim hk_ (fun hs_ => fun e_ => Nat.not_le.2 hs_ (by rw [e_]; exact GW377.out)) (fun hn_ => (Kd.freshB (g := gb377) (o := .cells #[.int .i64 a1_0, .slice A1_1 l1_1.length c1_1] 55 (0, 0)) (pk BK377) k_ hn_))⟩)) (below_size (pb HB)))
  have n2_ := bb BK376 hb
  have n3_ := bb BK377 hb
  have n4_ := am (below_step (pb HB) hb)
  clear HO381
  clear BK376
  clear BK377
  clear HB
  have HO381 := n0_
  have HO385 := n1_
  have BK376 := n2_
  have BK377 := n3_
  have HB := n4_
  clear n0_ n1_ n2_ n3_ n4_
  (try clear hb)
  (try clear hb2)
  (try clear hk)
  (try clear hi)
  (try clear ho0)
  refine hK.out _ _ ⟨(blk_cell BK376.out 0).trans rfl, (blk_cell BK376.out 1).trans rfl, (blk_cell BK377.out 0).trans rfl, (blk_cell BK377.out 1).trans rfl⟩ (fun hHeld => ?_)
  clear hK K
  refine norm_ (a' := ?_) ?_ ?_
  rotate_left
  ·
   show Act.put _ (some 16) _ = _
   simp only [Act.put, q1, q2, q3, i64_w, i32_w]
   rfl
  refine one_ (i := 5) (N := some 18) #[T, T, T, T, T, T, F, F, F] rfl rfl (one_of HT_.out (by kernel_rfl)) (by decide) (fun K hK => ?_)
  refine goes_ Tryd.func35 (by kernel_rfl) rfl #[.slice A3 l3.length c3] (by rfl) rfl rfl (by (try simp only [List.map_toArray, List.map_cons, List.map_nil]); first | done | rfl | (simp only [List.length_drop, List.length_take]; rfl)) ?_
  with_reducible refine (downpourlaw03_blocks.calls k _ _ l3 t386 _ ?side1 ?side2 A7.out).mono ?_
  (case side1 => repeat (first | exact (Kd.C_below HR3.out HB.out) | (with_reducible refine Kd.C_alloc ?_ _) | (with_reducible refine Kd.C_drewN ?_ _) | (with_reducible refine Kd.C_drew ?_)))
  (case side2 => exact HC3.out)
  rintro e w18 ⟨v387, rfl, ho0, hb⟩
  refine ⟨_, rfl, ?_⟩
  have n0_ := am (Kd.N_elder' (pn HO381) (Kd.R_base ho0) hb)
  have n1_ := am (Kd.N_elder' (pn HO385) (Kd.R_base ho0) hb)
  have n2_ := am (Kd.R_lower ho0 (below_size (pb HB)))
  have n3_ := bb BK376 hb
  have n4_ := bb BK377 hb
  have n5_ := am (below_step (pb HB) hb)
  clear HO381
  clear HO385
  clear BK376
  clear BK377
  clear HB
  have HO381 := n0_
  have HO385 := n1_
  have HO388 := n2_
  have BK376 := n3_
  have BK377 := n4_
  have HB := n5_
  clear n0_ n1_ n2_ n3_ n4_ n5_
  (try clear hb)
  (try clear hb2)
  (try clear hk)
  (try clear hi)
  (try clear ho0)
  obtain ⟨Ao20, co20, eo20⟩ := Kd.N_slice HO381.out
  (first | subst eo20 | (injection eo20 with f1_ f2_ f3_; have f4_ := f1_.symm; have f5_ := f3_.symm; clear f1_ f2_ f3_; subst f4_; subst f5_))
  obtain ⟨Ao23, co23, eo23⟩ := Kd.N_slice HO385.out
  (first | subst eo23 | (injection eo23 with f1_ f2_ f3_; have f4_ := f1_.symm; have f5_ := f3_.symm; clear f1_ f2_ f3_; subst f4_; subst f5_))
  refine hK.out _ _ ⟨(blk_cell BK376.out 0).trans rfl, (blk_cell BK376.out 1).trans rfl, (blk_cell BK377.out 0).trans rfl, (blk_cell BK377.out 1).trans rfl⟩ (fun hHeld => ?_)
  clear hK K
  refine norm_ (a' := ?_) ?_ ?_
  rotate_left
  ·
   show Act.put _ (some 18) _ = _
   simp only [Act.put, q1, q2, q3, i64_w, i32_w]
   rfl
  refine last_ (i := 6) (N := none) #[T, T, T, T, T, T, T, F, F] rfl rfl (one_of HT_.out (by kernel_rfl)) (by decide) (fun K hK => ?_)
  have hs19 : w18.cell? ⟨gb376, 0, none⟩ = some (.int .i64 a0_0) := (blk_cell BK376.out 0).trans rfl
  have hfs19 := blk_frozen BK376.out 0
  have hns19_1 := NB377_376.out
  have hms19_1 := NB376_377.out
  have hs21 : w18.cell? ⟨gb376, 1, none⟩ = some (.slice A0_1 l0_1.length c0_1) := (blk_cell BK376.out 1).trans rfl
  have hfs21 := blk_frozen BK376.out 1
  have hns21_1 := NB377_376.out
  have hms21_1 := NB376_377.out
  refine skip_ (w1 := ?_) (by rfl) rfl ?_ ?_
  rotate_left
  ·
   go_simp
   rfl
  refine hK.out _ _ ?_
  clear hK K
  refine last_ (i := 7) (N := none) #[T, T, T, T, T, T, T, T, F] rfl rfl (one_of HT_.out (by kernel_rfl)) (by decide) (fun K hK => ?_)
  have hs22 : w18.cell? ⟨gb377, 0, none⟩ = some (.int .i64 a1_0) := (blk_cell BK377.out 0).trans rfl
  have hfs22 := blk_frozen BK377.out 0
  have hns22_0 := NB376_377.out
  have hms22_0 := NB377_376.out
  have hs24 : w18.cell? ⟨gb377, 1, none⟩ = some (.slice A1_1 l1_1.length c1_1) := (blk_cell BK377.out 1).trans rfl
  have hfs24 := blk_frozen BK377.out 1
  have hns24_0 := NB376_377.out
  have hms24_0 := NB377_376.out
  refine skip_ (w1 := ?_) (by rfl) rfl ?_ ?_
  rotate_left
  ·
   go_simp
   rfl
  refine hK.out _ _ ?_
  clear hK K
  refine pure_ (i := 8) (N := some 3) (v := ?_) (a' := ?_) #[T, T, T, T, T, T, T, T, T] rfl rfl (any_of HT_.out (by kernel_rfl)) (fun _ _ _ h => h) (Or.inl ⟨by rfl, ?_⟩) ?_ ?_
  rotate_left
  ·
   intro w'
   go_simp
   with_reducible rfl
  rotate_left
  ·
   simp only [Act.put, q1, q2, q3, i64_w, i32_w]
   rfl
  refine done_ (done_of HT_.out (by kernel_rfl)) ?_
  have hnb25 := NB376_377.out
  have hnc25 := NB377_376.out
  have hcz26_0 : w18.cell? ⟨gb376, 0, none⟩ = some (.int .i64 a0_0) := (blk_cell BK376.out 0).trans rfl
  have hcz26_1 : w18.cell? ⟨gb376, 1, none⟩ = some (.slice A0_1 l0_1.length c0_1) := (blk_cell BK376.out 1).trans rfl
  have hfz26_0 := blk_frozen BK376.out 0
  have hfz26_1 := blk_frozen BK376.out 1
  have hcz27_0 : w18.cell? ⟨gb377, 0, none⟩ = some (.int .i64 a1_0) := (blk_cell BK377.out 0).trans rfl
  have hcz27_1 : w18.cell? ⟨gb377, 1, none⟩ = some (.slice A1_1 l1_1.length c1_1) := (blk_cell BK377.out 1).trans rfl
  have hfz27_0 := blk_frozen BK377.out 0
  have hfz27_1 := blk_frozen BK377.out 1
  go_upto_block 0 with (first | ((with_reducible refine gate_callee (f := 36) rfl ?_); refine goesL_ (some 22) rfl rfl Tryd.func36 (by kernel_rfl) rfl #[.agg #[.int .i64 t378, .slice Ao20 t379.length co20], .agg #[.int .i64 t382, .slice Ao23 t383.length co23]] rfl (by (try simp only [List.map_toArray, List.map_cons, List.map_nil]); first | done | rfl | (simp only [List.length_drop, List.length_take]; rfl)) ?_; (with_reducible refine (matrix_Mul.calls k t378 _ _ t379 t382 _ _ t383 t389 t390 t393 _ ?side5 ?side1 ?side2 ?side3 ?side4 A8.out).mono ?_); (case side1 => refine (Kd.N_reads' (e := 25) (base := w.heap.size) (ok := fun k_ => (((k_ ≠ gb376 ∧ k_ ≠ gb377) ∧ some k_ ≠ (.slice Ao23 t383.length co23 : Value).ownBlock) ∧ some k_ ≠ (v387 : Value).ownBlock)) (n := t379.length) (c := co20) ?_).2.2; exact (by (with_reducible repeat (first | apply Kd.N_alloc | apply Kd.N_drewN | apply Kd.N_drew)); exact (Kd.N_mono (Kd.N_mono (Kd.N_far (p := ⟨gb377, 1, none⟩) (Kd.N_far (p := ⟨gb377, 0, none⟩) (Kd.N_far (p := ⟨gb376, 1, none⟩) (Kd.N_far (p := ⟨gb376, 0, none⟩) (Kd.N_mono (Kd.N_mono HO381.out (fun k_ hk => (⟨hk, hk.1.1.1⟩ : _ ∧ k_ ≠ gb376))) (fun k_ hk => (⟨hk, hk.1.1.1.2⟩ : _ ∧ k_ ≠ gb377))) (fun _ hk => hk.1.2) (.int .i64 t378)) (fun _ hk => hk.1.2) (.slice Ao20 t379.length co20)) (fun _ hk => hk.2) (.int .i64 t382)) (fun _ hk => hk.2) (.slice Ao23 t383.length co23)) (fun _ h_ => h_.1)) (fun _ h_ => h_.1)))); (case side2 => exact (Kd.N_reads' HO381.out).2.1); (case side3 => refine (Kd.N_reads' (e := 25) (base := w.heap.size) (ok := fun k_ => ((some k_ ≠ (.slice Ao20 t379.length co20 : Value).ownBlock ∧ (k_ ≠ gb376 ∧ k_ ≠ gb377)) ∧ some k_ ≠ (v387 : Value).ownBlock)) (n := t383.length) (c := co23) ?_).2.2; exact (by (with_reducible repeat (first | apply Kd.N_alloc | apply Kd.N_drewN | apply Kd.N_drew)); exact (Kd.N_mono (Kd.N_mono (Kd.N_far (p := ⟨gb377, 1, none⟩) (Kd.N_far (p := ⟨gb377, 0, none⟩) (Kd.N_far (p := ⟨gb376, 1, none⟩) (Kd.N_far (p := ⟨gb376, 0, none⟩) (Kd.N_mono (Kd.N_mono HO385.out (fun k_ hk => (⟨hk, hk.1.2.1⟩ : _ ∧ k_ ≠ gb376))) (fun k_ hk => (⟨hk, hk.1.1.2.2⟩ : _ ∧ k_ ≠ gb377))) (fun _ hk => hk.1.2) (.int .i64 t378)) (fun _ hk => hk.1.2) (.slice Ao20 t379.length co20)) (fun _ hk => hk.2) (.int .i64 t382)) (fun _ hk => hk.2) (.slice Ao23 t383.length co23)) (fun _ h_ => h_.1)) (fun _ h_ => h_.1)))); (case side4 => exact (Kd.N_reads' HO385.out).2.1); (case side5 => exact TabOk.below HT.out (pb HB)); rintro e w28 ⟨v391, rfl, ho0, hb⟩; refine ⟨_, rfl, ?_⟩; have n0_ := am (Kd.N_elder' (by (with_reducible repeat (first | apply Kd.N_alloc | apply Kd.N_drewN | apply Kd.N_drew)); exact (Kd.N_mono (Kd.N_mono (Kd.N_far (p := ⟨gb377, 1, none⟩) (Kd.N_far (p := ⟨gb377, 0, none⟩) (Kd.N_far (p := ⟨gb376, 1, none⟩) (Kd.N_far (p := ⟨gb376, 0, none⟩) (Kd.N_mono (Kd.N_mono HO381.out (fun k_ hk => (⟨hk, hk.1.1.1⟩ : _ ∧ k_ ≠ gb376))) (fun k_ hk => (⟨hk, hk.1.1.1.2⟩ : _ ∧ k_ ≠ gb377))) (fun _ hk => hk.1.2) (.int .i64 t378)) (fun _ hk => hk.1.2) (.slice Ao20 t379.length co20)) (fun _ hk => hk.2) (.int .i64 t382)) (fun _ hk => hk.2) (.slice Ao23 t383.length co23)) (fun _ h_ => h_.1)) (fun _ h_ => h_.1))) (by first | exact Kd.N_base ho0 | exact Kd.S_base ho0 | exact Kd.R_base ho0) hb); have n1_ := am (Kd.N_elder' (by (with_reducible repeat (first | apply Kd.N_alloc | apply Kd.N_drewN | apply Kd.N_drew)); exact (Kd.N_mono (Kd.N_mono (Kd.N_far (p := ⟨gb377, 1, none⟩) (Kd.N_far (p := ⟨gb377, 0, none⟩) (Kd.N_far (p := ⟨gb376, 1, none⟩) (Kd.N_far (p := ⟨gb376, 0, none⟩) (Kd.N_mono (Kd.N_mono HO385.out (fun k_ hk => (⟨hk, hk.1.2.1⟩ : _ ∧ k_ ≠ gb376))) (fun k_ hk => (⟨hk, hk.1.1.2.2⟩ : _ ∧ k_ ≠ gb377))) (fun _ hk => hk.1.2) (.int .i64 t378)) (fun _ hk => hk.1.2) (.slice Ao20 t379.length co20)) (fun _ hk => hk.2) (.int .i64 t382)) (fun _ hk => hk.2) (.slice Ao23 t383.length co23)) (fun _ h_ => h_.1)) (fun _ h_ => h_.1))) (by first | exact Kd.N_base ho0 | exact Kd.S_base ho0 | exact Kd.R_base ho0) hb); have n2_ := am (Kd.R_below (by (with_reducible repeat (first | apply Kd.R_alloc | apply Kd.R_drewN | apply Kd.R_drew)); exact (Kd.R_mono (Kd.R_mono (Kd.R_far (p := ⟨gb377, 1, none⟩) (Kd.R_far (p := ⟨gb377, 0, none⟩) (Kd.R_far (p := ⟨gb376, 1, none⟩) (Kd.R_far (p := ⟨gb376, 0, none⟩) (Kd.R_types (Kd.R_types HO388.out BK376.out (by decide)) BK377.out (by decide)) (fun _ hk => hk.1.2) (.int .i64 t378)) (fun _ hk => hk.1.2) (.slice Ao20 t379.length co20)) (fun _ hk => hk.2) (.int .i64 t382)) (fun _ hk => hk.2) (.slice Ao23 t383.length co23)) (fun _ h_ => h_.1)) (fun _ h_ => h_.1))) hb); have n3_ := am (Kd.N_lower (Kd.N_mono (ok' := fun k_ => some k_ ≠ (.slice Ao20 t379.length co20 : Value).ownBlock ∧ some k_ ≠ (.slice Ao23 t383.length co23 : Value).ownBlock ∧ some k_ ≠ (v387 : Value).ownBlock ∧ k_ ≠ gb376 ∧ k_ ≠ gb377) (Kd.S_N (Kd.S_bound ho0)) (fun k_ hk_ => ⟨(Kd.fresh' (Kd.N_lt (by (with_reducible repeat (first | apply Kd.N_alloc | apply Kd.N_drewN | apply Kd.N_drew)); exact (Kd.N_mono (Kd.N_mono (Kd.N_far (p := ⟨gb377, 1, none⟩) (Kd.N_far (p := ⟨gb377, 0, none⟩) (Kd.N_far (p := ⟨gb376, 1, none⟩) (Kd.N_far (p := ⟨gb376, 0, none⟩) (Kd.N_mono (Kd.N_mono HO381.out (fun k_ hk => (⟨hk, hk.1.1.1⟩ : _ ∧ k_ ≠ gb376))) (fun k_ hk => (⟨hk, hk.1.1.1.2⟩ : _ ∧ k_ ≠ gb377))) (fun _ hk => hk.1.2) (.int .i64 t378)) (fun _ hk => hk.1.2) (.slice Ao20 t379.length co20)) (fun _ hk => hk.2) (.int .i64 t382)) (fun _ hk => hk.2) (.slice Ao23 t383.length co23)) (fun _ h_ => h_.1)) (fun _ h_ => h_.1)))) k_ hk_.2.1), (Kd.fresh' (Kd.N_lt (by (with_reducible repeat (first | apply Kd.N_alloc | apply Kd.N_drewN | apply Kd.N_drew)); exact (Kd.N_mono (Kd.N_mono (Kd.N_far (p := ⟨gb377, 1, none⟩) (Kd.N_far (p := ⟨gb377, 0, none⟩) (Kd.N_far (p := ⟨gb376, 1, none⟩) (Kd.N_far (p := ⟨gb376, 0, none⟩) (Kd.N_mono (Kd.N_mono HO385.out (fun k_ hk => (⟨hk, hk.1.2.1⟩ : _ ∧ k_ ≠ gb376))) (fun k_ hk => (⟨hk, hk.1.1.2.2⟩ : _ ∧ k_ ≠ gb377))) (fun _ hk => hk.1.2) (.int .i64 t378)) (fun _ hk => hk.1.2) (.slice Ao20 t379.length co20)) (fun _ hk => hk.2) (.int .i64 t382)) (fun _ hk => hk.2) (.slice Ao23 t383.length co23)) (fun _ h_ => h_.1)) (fun _ h_ => h_.1)))) k_ hk_.2.1), (Kd.fresh' (Kd.R_lt (by (with_reducible repeat (first | apply Kd.R_alloc | apply Kd.R_drewN | apply Kd.R_drew)); exact (Kd.R_mono (Kd.R_mono (Kd.R_far (p := ⟨gb377, 1, none⟩) (Kd.R_far (p := ⟨gb377, 0, none⟩) (Kd.R_far (p := ⟨gb376, 1, none⟩) (Kd.R_far (p := ⟨gb376, 0, none⟩) (Kd.R_types (Kd.R_types HO388.out BK376.out (by decide)) BK377.out (by decide)) (fun _ hk => hk.1.2) (.int .i64 t378)) (fun _ hk => hk.1.2) (.slice Ao20 t379.length co20)) (fun _ hk => hk.2) (.int .i64 t382)) (fun _ hk => hk.2) (.slice Ao23 t383.length co23)) (fun _ h_ => h_.1)) (fun _ h_ => h_.1)))) k_ hk_.2.1), (Kd.freshB (g := gb376) (o := .cells #[.int .i64 t378, .slice Ao20 t379.length co20] 55 (0, 0)) (by (with_reducible repeat (first | refine blk_drewN ?_ _ | refine blk_drew ?_ | refine blk_alloc ?_ _)); refine blk_far ?_ NB376_377.out _; (with_reducible repeat (first | refine blk_drewN ?_ _ | refine blk_drew ?_ | refine blk_alloc ?_ _)); refine blk_far ?_ NB376_377.out _; (with_reducible repeat (first | refine blk_drewN ?_ _ | refine blk_drew ?_ | refine blk_alloc ?_ _)); refine blk_put (cs := #[.int .i64 t378, .slice A0_1 l0_1.length c0_1]) ?_ 1 _ rfl; (with_reducible repeat (first | refine blk_drewN ?_ _ | refine blk_drew ?_ | refine blk_alloc ?_ _)); refine blk_put (cs := #[.int .i64 a0_0, .slice A0_1 l0_1.length c0_1]) ?_ 0 _ rfl; (with_reducible repeat (first | refine blk_drewN ?_ _ | refine blk_drew ?_ | refine blk_alloc ?_ _)); exact BK376.out) k_ hk_.2.1), (Kd.freshB (g := gb377) (o := .cells #[.int .i64 t382, .slice Ao23 t383.length co23] 55 (0, 0)) (by (with_reducible repeat (first | refine blk_drewN ?_ _ | refine blk_drew ?_ | refine blk_alloc ?_ _)); refine blk_put (cs := #[.int .i64 t382, .slice A1_1 l1_1.length c1_1]) ?_ 1 _ rfl; (with_reducible repeat (first | refine blk_drewN ?_ _ | refine blk_drew ?_ | refine blk_alloc ?_ _)); refine blk_put (cs := #[.int .i64 a1_0, .slice A1_1 l1_1.length c1_1]) ?_ 0 _ rfl; (with_reducible repeat (first | refine blk_drewN ?_ _ | refine blk_drew ?_ | refine blk_alloc ?_ _)); refine blk_far ?_ NB377_376.out _; (with_reducible repeat (first | refine blk_drewN ?_ _ | refine blk_drew ?_ | refine blk_alloc ?_ _)); refine blk_far ?_ NB377_376.out _; (with_reducible repeat (first | refine blk_drewN ?_ _ | refine blk_drew ?_ | refine blk_alloc ?_ _)); exact BK377.out) k_ hk_.2.1)⟩)) (below_size (pb HB))); have n4_ := am (blk_below (g := gb376) (o := .cells #[.int .i64 t378, .slice Ao20 t379.length co20] 55 (0, 0)) (by (with_reducible repeat (first | refine blk_drewN ?_ _ | refine blk_drew ?_ | refine blk_alloc ?_ _)); refine blk_far ?_ NB376_377.out _; (with_reducible repeat (first | refine blk_drewN ?_ _ | refine blk_drew ?_ | refine blk_alloc ?_ _)); refine blk_far ?_ NB376_377.out _; (with_reducible repeat (first | refine blk_drewN ?_ _ | refine blk_drew ?_ | refine blk_alloc ?_ _)); refine blk_put (cs := #[.int .i64 t378, .slice A0_1 l0_1.length c0_1]) ?_ 1 _ rfl; (with_reducible repeat (first | refine blk_drewN ?_ _ | refine blk_drew ?_ | refine blk_alloc ?_ _)); refine blk_put (cs := #[.int .i64 a0_0, .slice A0_1 l0_1.length c0_1]) ?_ 0 _ rfl; (with_reducible repeat (first | refine blk_drewN ?_ _ | refine blk_drew ?_ | refine blk_alloc ?_ _)); exact BK376.out) hb); have n5_ := am (blk_below (g := gb377) (o := .cells #[.int .i64 t382, .slice Ao23 t383.length co23] 55 (0, 0)) (by (with_reducible repeat (first | refine blk_drewN ?_ _ | refine blk_drew ?_ | refine blk_alloc ?_ _)); refine blk_put (cs := #[.int .i64 t382, .slice A1_1 l1_1.length c1_1]) ?_ 1 _ rfl; (with_reducible repeat (first | refine blk_drewN ?_ _ | refine blk_drew ?_ | refine blk_alloc ?_ _)); refine blk_put (cs := #[.int .i64 a1_0, .slice A1_1 l1_1.length c1_1]) ?_ 0 _ rfl; (with_reducible repeat (first | refine blk_drewN ?_ _ | refine blk_drew ?_ | refine blk_alloc ?_ _)); refine blk_far ?_ NB377_376.out _; (with_reducible repeat (first | refine blk_drewN ?_ _ | refine blk_drew ?_ | refine blk_alloc ?_ _)); refine blk_far ?_ NB377_376.out _; (with_reducible repeat (first | refine blk_drewN ?_ _ | refine blk_drew ?_ | refine blk_alloc ?_ _)); exact BK377.out) hb); have n6_ := am (below_step (pb HB) hb); clear HO381 HO385 HO388 BK376 BK377 HB; have HO381 := n0_; have HO385 := n1_; have HO388 := n2_; have HO392 := n3_; have BK376 := n4_; have BK377 := n5_; have HB := n6_; clear n0_ n1_ n2_ n3_ n4_ n5_ n6_; (try clear hb); (try clear hb2); (try clear hk); (try clear hi); (try clear ho0)) | ((with_reducible refine gate_dst (N := 9) rfl ?_); (try (refine gate_guard (by rfl) ?_; dsimp only)); refine box_event ?hg (N := 9) ?hd (cs := #[.int .i64 0, .slice none 0 0]) (t := 55) ?hr ?_; (case hd => rfl); (case hg => rfl); (case hr => first | (go_simp; done) | (go_simp; rfl)); intro gb394 hg w29 hbox hb; have n0_ := am (Kd.N_below (Kd.N_elderB (pn HO381) gb394 (Nat.le_of_eq hg.symm)) hb); have n1_ := am (Kd.N_below (Kd.N_elderB (pn HO385) gb394 (Nat.le_of_eq hg.symm)) hb); have n2_ := am (Kd.R_below (pr HO388) hb); have n3_ := am (Kd.N_below (Kd.N_elderB (pn HO392) gb394 (Nat.le_of_eq hg.symm)) hb); have n4_ := bb BK376 hb; have n5_ := bb BK377 hb; have n6_ := am (below_step (pb HB) hb); have n7_ := am (hbox); have n8_ := am ((by rw [hg]; exact (below_size (pb HB)) : w.heap.size ≤ gb394)); have n9_ := am ((by rw [hg]; exact (below_size (pb HB)) : w.heap.size ≤ gb394)); have n10_ := am ((by rw [hg]; exact Nat.ne_of_lt (bl BK376) : gb376 ≠ gb394)); have n11_ := am ((by rw [hg]; exact Nat.ne_of_gt (bl BK376) : gb394 ≠ gb376)); have n12_ := am ((by rw [hg]; exact Nat.ne_of_lt (bl BK377) : gb377 ≠ gb394)); have n13_ := am ((by rw [hg]; exact Nat.ne_of_gt (bl BK377) : gb394 ≠ gb377)); clear HO381 HO385 HO388 HO392 BK376 BK377 HB; have HO381 := n0_; have HO385 := n1_; have HO388 := n2_; have HO392 := n3_; have BK376 := n4_; have BK377 := n5_; have HB := n6_; have BK394 := n7_; have GW394 := n8_; have GE394 := n9_; have NB376_394 := n10_; have NB394_376 := n11_; have NB377_394 := n12_; have NB394_377 := n13_; clear n0_ n1_ n2_ n3_ n4_ n5_ n6_ n7_ n8_ n9_ n10_ n11_ n12_ n13_ hb hbox hg; have hnb30 := NB394_376.out; have hnc30 := NB376_394.out; have hnb31 := NB394_377.out; have hnc31 := NB377_394.out; have hcz32_0 : w29.cell? ⟨gb394, 0, none⟩ = some (.int .i64 0) := (blk_cell BK394.out 0).trans rfl; have hcz32_1 : w29.cell? ⟨gb394, 1, none⟩ = some (.slice none 0 0) := (blk_cell BK394.out 1).trans rfl; have hfz32_0 := blk_frozen BK394.out 0; have hfz32_1 := blk_frozen BK394.out 1; obtain ⟨Ao33, co33, eo33⟩ := Kd.N_slice HO392.out; subst eo33; have hcz34_0 : w29.cell? ⟨gb376, 0, none⟩ = some (.int .i64 t378) := (blk_cell BK376.out 0).trans rfl; have hcz34_1 : w29.cell? ⟨gb376, 1, none⟩ = some (.slice Ao20 t379.length co20) := (blk_cell BK376.out 1).trans rfl; have hfz34_0 := blk_frozen BK376.out 0; have hfz34_1 := blk_frozen BK376.out 1; obtain ⟨Ao35, co35, eo35⟩ := Kd.R_slice HO388.out; subst eo35) | ((with_reducible refine gate_callee (f := 37) rfl ?_); refine goesL_ (some 29) rfl rfl Tryd.func37 (by kernel_rfl) rfl #[.agg #[.int .i64 t378, .slice Ao20 t379.length co20], .int .i64 a2, .slice Ao35 t386.length co35] rfl (by (try simp only [List.map_toArray, List.map_cons, List.map_nil]); first | done | rfl | (simp only [List.length_drop, List.length_take]; rfl)) ?_; (with_reducible refine (matrix_Apply.calls k t378 _ _ t379 a2 _ _ t386 t395 t398 _ ?side5 ?side1 ?side2 ?side3 ?side4 A9.out).mono ?_); (case side1 => refine (Kd.N_reads' (e := 25) (base := w.heap.size) (ok := fun k_ => (((((k_ ≠ gb376 ∧ k_ ≠ gb377) ∧ some k_ ≠ (.slice Ao23 t383.length co23 : Value).ownBlock) ∧ some k_ ≠ (.slice Ao35 t386.length co35 : Value).ownBlock) ∧ some k_ ≠ (.slice Ao33 t390.length co33 : Value).ownBlock) ∧ k_ ≠ gb394)) (n := t379.length) (c := co20) ?_).2.2; exact (by (with_reducible repeat (first | apply Kd.N_alloc | apply Kd.N_drewN | apply Kd.N_drew)); exact (Kd.N_mono (Kd.N_far (p := ⟨gb394, 1, none⟩) (Kd.N_far (p := ⟨gb394, 0, none⟩) (Kd.N_mono HO381.out (fun k_ hk => (⟨hk, hk.2⟩ : _ ∧ k_ ≠ gb394))) (fun _ hk => hk.2) (.int .i64 t389)) (fun _ hk => hk.2) (.slice Ao33 t390.length co33)) (fun _ h_ => h_.1)))); (case side2 => exact (Kd.N_reads' HO381.out).2.1); (case side3 => refine (Kd.R_reads' (e := 9) (base := w.heap.size) (ok := fun k_ => True) (n := t386.length) (c := co35) ?_).2.2; exact (by (with_reducible repeat (first | apply Kd.R_alloc | apply Kd.R_drewN | apply Kd.R_drew)); exact (Kd.R_mono (Kd.R_far (p := ⟨gb394, 1, none⟩) (Kd.R_far (p := ⟨gb394, 0, none⟩) (Kd.R_types HO388.out BK394.out (by decide)) (fun _ hk => hk.2) (.int .i64 t389)) (fun _ hk => hk.2) (.slice Ao33 t390.length co33)) (fun _ h_ => h_.1)))); (case side4 => exact (Kd.R_reads' HO388.out).2.1); (case side5 => exact TabOk.below HT.out (pb HB)); rintro e w36 ⟨v396, rfl, ho0, hb⟩; refine ⟨_, rfl, ?_⟩; have n0_ := am (Kd.N_elder' (by (with_reducible repeat (first | apply Kd.N_alloc | apply Kd.N_drewN | apply Kd.N_drew)); exact (Kd.N_mono (Kd.N_far (p := ⟨gb394, 1, none⟩) (Kd.N_far (p := ⟨gb394, 0, none⟩) (Kd.N_mono HO381.out (fun k_ hk => (⟨hk, hk.2⟩ : _ ∧ k_ ≠ gb394))) (fun _ hk => hk.2) (.int .i64 t389)) (fun _ hk => hk.2) (.slice Ao33 t390.length co33)) (fun _ h_ => h_.1))) (Kd.R_base ho0) hb); have n1_ := am (Kd.N_elder' (by (with_reducible repeat (first | apply Kd.N_alloc | apply Kd.N_drewN | apply Kd.N_drew)); exact (Kd.N_mono (Kd.N_far (p := ⟨gb394, 1, none⟩) (Kd.N_far (p := ⟨gb394, 0, none⟩) (Kd.N_mono HO385.out (fun k_ hk => (⟨hk, hk.2⟩ : _ ∧ k_ ≠ gb394))) (fun _ hk => hk.2) (.int .i64 t389)) (fun _ hk => hk.2) (.slice Ao33 t390.length co33)) (fun _ h_ => h_.1))) (Kd.R_base ho0) hb); have n2_ := am (Kd.R_elder' (by (with_reducible repeat (first | apply Kd.R_alloc | apply Kd.R_drewN | apply Kd.R_drew)); exact (Kd.R_mono (Kd.R_far (p := ⟨gb394, 1, none⟩) (Kd.R_far (p := ⟨gb394, 0, none⟩) (Kd.R_types HO388.out BK394.out (by decide)) (fun _ hk => hk.2) (.int .i64 t389)) (fun _ hk => hk.2) (.slice Ao33 t390.length co33)) (fun _ h_ => h_.1))) (Kd.R_base ho0) hb); have n3_ := am (Kd.N_elder' (by (with_reducible repeat (first | apply Kd.N_alloc | apply Kd.N_drewN | apply Kd.N_drew)); exact (Kd.N_mono (Kd.N_far (p := ⟨gb394, 1, none⟩) (Kd.N_far (p := ⟨gb394, 0, none⟩) (Kd.N_mono HO392.out (fun k_ hk => (⟨hk, hk.2⟩ : _ ∧ k_ ≠ gb394))) (fun _ hk => hk.2) (.int .i64 t389)) (fun _ hk => hk.2) (.slice Ao33 t390.length co33)) (fun _ h_ => h_.1))) (Kd.R_base ho0) hb); have n4_ := am (Kd.R_lower (Kd.R_new' ho0 (Kd.R_lt (by (with_reducible repeat (first | apply Kd.R_alloc | apply Kd.R_drewN | apply Kd.R_drew)); exact (Kd.R_mono (Kd.R_far (p := ⟨gb394, 1, none⟩) (Kd.R_far (p := ⟨gb394, 0, none⟩) (Kd.R_types HO388.out BK394.out (by decide)) (fun _ hk => hk.2) (.int .i64 t389)) (fun _ hk => hk.2) (.slice Ao33 t390.length co33)) (fun _ h_ => h_.1))))) (below_size (pb HB))); have n5_ := am (blk_below (g := gb376) (o := .cells #[.int .i64 t378, .slice Ao20 t379.length co20] 55 (0, 0)) (by (with_reducible repeat (first | refine blk_drewN ?_ _ | refine blk_drew ?_ | refine blk_alloc ?_ _)); refine blk_far ?_ NB376_394.out _; (with_reducible repeat (first | refine blk_drewN ?_ _ | refine blk_drew ?_ | refine blk_alloc ?_ _)); refine blk_far ?_ NB376_394.out _; (with_reducible repeat (first | refine blk_drewN ?_ _ | refine blk_drew ?_ | refine blk_alloc ?_ _)); exact BK376.out) hb); have n6_ := am (blk_below (g := gb377) (o := .cells #[.int .i64 t382, .slice Ao23 t383.length co23] 55 (0, 0)) (by (with_reducible repeat (first | refine blk_drewN ?_ _ | refine blk_drew ?_ | refine blk_alloc ?_ _)); refine blk_far ?_ NB377_394.out _; (with_reducible repeat (first | refine blk_drewN ?_ _ | refine blk_drew ?_ | refine blk_alloc ?_ _)); refine blk_far ?_ NB377_394.out _; (with_reducible repeat (first | refine blk_drewN ?_ _ | refine blk_drew ?_ | refine blk_alloc ?_ _)); exact BK377.out) hb); have n7_ := am (blk_below (g := gb394) (o := .cells #[.int .i64 t389, .slice Ao33 t390.length co33] 55 (0, 0)) (by (with_reducible repeat (first | refine blk_drewN ?_ _ | refine blk_drew ?_ | refine blk_alloc ?_ _)); refine blk_put (cs := #[.int .i64 t389, .slice none 0 0]) ?_ 1 _ rfl; (with_reducible repeat (first | refine blk_drewN ?_ _ | refine blk_drew ?_ | refine blk_alloc ?_ _)); refine blk_put (cs := #[.int .i64 0, .slice none 0 0]) ?_ 0 _ rfl; (with_reducible repeat (first | refine blk_drewN ?_ _ | refine blk_drew ?_ | refine blk_alloc ?_ _)); exact BK394.out) hb); have n8_ := am (below_step (pb HB) hb); clear HO381 HO385 HO388 HO392 BK376 BK377 BK394 HB; have HO381 := n0_; have HO385 := n1_; have HO388 := n2_; have HO392 := n3_; have HO397 := n4_; have BK376 := n5_; have BK377 := n6_; have BK394 := n7_; have HB := n8_; clear n0_ n1_ n2_ n3_ n4_ n5_ n6_ n7_ n8_; (try clear hb); (try clear hb2); (try clear hk); (try clear hi); (try clear ho0)) | ((with_reducible refine gate_callee (f := 38) rfl ?_); refine goesL_ (some 32) rfl rfl Tryd.func38 (by kernel_rfl) rfl #[] rfl (by (try simp only [List.map_toArray, List.map_cons, List.map_nil]); first | done | rfl | (simp only [List.length_drop, List.length_take]; rfl)) ?_; (with_reducible refine (downpourlaw03_alive.calls k  true _ A10.out).mono ?_); rintro e w37 ⟨rfl, hb⟩; refine ⟨_, rfl, ?_⟩; have n0_ := am (Kd.N_below (pn HO381) hb); have n1_ := am (Kd.N_below (pn HO385) hb); have n2_ := am (Kd.R_below (pr HO388) hb); have n3_ := am (Kd.N_below (pn HO392) hb); have n4_ := am (Kd.R_below (pr HO397) hb); have n5_ := bb BK376 hb; have n6_ := bb BK377 hb; have n7_ := bb BK394 hb; have n8_ := am (below_step (pb HB) hb); clear HO381 HO385 HO388 HO392 HO397 BK376 BK377 BK394 HB; have HO381 := n0_; have HO385 := n1_; have HO388 := n2_; have HO392 := n3_; have HO397 := n4_; have BK376 := n5_; have BK377 := n6_; have BK394 := n7_; have HB := n8_; clear n0_ n1_ n2_ n3_ n4_ n5_ n6_ n7_ n8_; (try clear hb); (try clear hb2); (try clear hk); (try clear hi)))
  (try simp only [Act.put, q1, q2, q3])
  go_cut [] (fun wc => ∃ (kq : Nat), Aside0 (downpourlaw03_MatrixMuls.j1 kq a2 t386 t395 t398 t378 t379 = some r) ∧ Aside0 (kq ≤ k) ∧ Aside0 (Kd.R Kd.string 9 wc w.heap.size (fun k_ => some k_ ≠ (v396 : Value).ownBlock) (.slice Ao35 t386.length co35) t386) ∧ Aside0 (Kd.R Kd.string 9 wc w.heap.size (fun k_ => some k_ ≠ ((.slice Ao35 t386.length co35) : Value).ownBlock) v396 t395) ∧ Aside0 (Kd.N k25 25 wc w.heap.size (fun k_ => some k_ ≠ ((.slice Ao35 t386.length co35) : Value).ownBlock ∧ some k_ ≠ (v396 : Value).ownBlock ∧ some k_ ≠ ((.slice Ao23 t383.length co23) : Value).ownBlock ∧ some k_ ≠ ((.slice Ao33 t390.length co33) : Value).ownBlock ∧ k_ ≠ gb376 ∧ k_ ≠ gb377 ∧ k_ ≠ gb394) (.slice Ao20 t379.length co20) t379) ∧ Aside0 (Kd.N k25 25 wc w.heap.size (fun k_ => some k_ ≠ ((.slice Ao35 t386.length co35) : Value).ownBlock ∧ some k_ ≠ (v396 : Value).ownBlock ∧ some k_ ≠ ((.slice Ao20 t379.length co20) : Value).ownBlock ∧ some k_ ≠ ((.slice Ao33 t390.length co33) : Value).ownBlock ∧ k_ ≠ gb376 ∧ k_ ≠ gb377 ∧ k_ ≠ gb394) (.slice Ao23 t383.length co23) t383) ∧ Aside0 (Kd.N k25 25 wc w.heap.size (fun k_ => some k_ ≠ ((.slice Ao35 t386.length co35) : Value).ownBlock ∧ some k_ ≠ (v396 : Value).ownBlock ∧ some k_ ≠ ((.slice Ao20 t379.length co20) : Value).ownBlock ∧ some k_ ≠ ((.slice Ao23 t383.length co23) : Value).ownBlock ∧ k_ ≠ gb376 ∧ k_ ≠ gb377 ∧ k_ ≠ gb394) (.slice Ao33 t390.length co33) t390) ∧ Aside0 (wc.heap[gb376]? = some (.cells #[.int .i64 t378, (.slice Ao20 t379.length co20)] 55 (0, 0))) ∧ Aside0 (wc.heap[gb377]? = some (.cells #[.int .i64 t382, (.slice Ao23 t383.length co23)] 55 (0, 0))) ∧ Aside0 (wc.heap[gb394]? = some (.cells #[.int .i64 t389, (.slice Ao33 t390.length co33)] 55 (0, 0))) ∧ Aside0 (Below w.heap.size w wc))
  case first =>
   have H := HC12.out
   clear HC12
   have HC38 := Aside0.mk H
   clear H
   go_upto_region 6 with (fail)
   go_cut [34] (fun v34 wc => ∃ (kq : Nat) (x34_37 : Bool), v34 = .bool x34_37 ∧ Aside0 (downpourlaw03_MatrixMuls.j0 kq a2 t386 t393 t395 t398 x34_37 t378 t379 t382 t383 t389 t390 = some r) ∧ Aside0 (kq ≤ k) ∧ Aside0 (Kd.R Kd.string 9 wc w.heap.size (fun k_ => some k_ ≠ (v396 : Value).ownBlock) (.slice Ao35 t386.length co35) t386) ∧ Aside0 (Kd.R Kd.string 9 wc w.heap.size (fun k_ => some k_ ≠ ((.slice Ao35 t386.length co35) : Value).ownBlock) v396 t395) ∧ Aside0 (Kd.N k25 25 wc w.heap.size (fun k_ => some k_ ≠ ((.slice Ao35 t386.length co35) : Value).ownBlock ∧ some k_ ≠ (v396 : Value).ownBlock ∧ some k_ ≠ ((.slice Ao23 t383.length co23) : Value).ownBlock ∧ some k_ ≠ ((.slice Ao33 t390.length co33) : Value).ownBlock ∧ k_ ≠ gb376 ∧ k_ ≠ gb377 ∧ k_ ≠ gb394) (.slice Ao20 t379.length co20) t379) ∧ Aside0 (Kd.N k25 25 wc w.heap.size (fun k_ => some k_ ≠ ((.slice Ao35 t386.length co35) : Value).ownBlock ∧ some k_ ≠ (v396 : Value).ownBlock ∧ some k_ ≠ ((.slice Ao20 t379.length co20) : Value).ownBlock ∧ some k_ ≠ ((.slice Ao33 t390.length co33) : Value).ownBlock ∧ k_ ≠ gb376 ∧ k_ ≠ gb377 ∧ k_ ≠ gb394) (.slice Ao23 t383.length co23) t383) ∧ Aside0 (Kd.N k25 25 wc w.heap.size (fun k_ => some k_ ≠ ((.slice Ao35 t386.length co35) : Value).ownBlock ∧ some k_ ≠ (v396 : Value).ownBlock ∧ some k_ ≠ ((.slice Ao20 t379.length co20) : Value).ownBlock ∧ some k_ ≠ ((.slice Ao23 t383.length co23) : Value).ownBlock ∧ k_ ≠ gb376 ∧ k_ ≠ gb377 ∧ k_ ≠ gb394) (.slice Ao33 t390.length co33) t390) ∧ Aside0 (wc.heap[gb376]? = some (.cells #[.int .i64 t378, (.slice Ao20 t379.length co20)] 55 (0, 0))) ∧ Aside0 (wc.heap[gb377]? = some (.cells #[.int .i64 t382, (.slice Ao23 t383.length co23)] 55 (0, 0))) ∧ Aside0 (wc.heap[gb394]? = some (.cells #[.int .i64 t389, (.slice Ao33 t390.length co33)] 55 (0, 0))) ∧ Aside0 (Below w.heap.size w wc))
   case first =>
    have H := HC38.out
    clear HC38
    replace H := Option.bind_eq_some_iff.mp H
    obtain ⟨t400, A390, H⟩ := H
    replace H : (if t400 = true then ((downpourref03_Right.f k t382 t383).bind fun t401 => (downpourlaw03_MatrixMuls.j0 k a2 t386 t393 t395 t398 (!t401) t378 t379 t382 t383 t389 t390)) else (downpourlaw03_MatrixMuls.j0 k a2 t386 t393 t395 t398 true t378 t379 t382 t383 t389 t390)) = some r := H
    have A39 := Aside0.mk A390
    clear A390
    by_cases c40 : t400 = true
    ·
     subst c40
     have H1 : ((downpourref03_Right.f k t382 t383).bind fun t401 => (downpourlaw03_MatrixMuls.j0 k a2 t386 t393 t395 t398 (!t401) t378 t379 t382 t383 t389 t390)) = some r := by rw [if_pos rfl] at H; exact H
     clear H
     have H := H1
     clear H1
     replace H := Option.bind_eq_some_iff.mp H
     obtain ⟨t401, A410, H⟩ := H
     replace H : (downpourlaw03_MatrixMuls.j0 k a2 t386 t393 t395 t398 (!t401) t378 t379 t382 t383 t389 t390) = some r := H
     have A41 := Aside0.mk A410
     clear A410
     have H' := Aside0.mk H
     clear H
     have hnb42 := NB376_377.out
     have hnc42 := NB377_376.out
     have hnb43 := NB376_394.out
     have hnc43 := NB394_376.out
     have hcz44_0 : w37.cell? ⟨gb376, 0, none⟩ = some (.int .i64 t378) := (blk_cell BK376.out 0).trans rfl
     have hcz44_1 : w37.cell? ⟨gb376, 1, none⟩ = some (.slice Ao20 t379.length co20) := (blk_cell BK376.out 1).trans rfl
     have hfz44_0 := blk_frozen BK376.out 0
     have hfz44_1 := blk_frozen BK376.out 1
     go_wp2_with (first | ((with_reducible refine gate_callee (f := 39) rfl ?_); refine goesL_ (some 36) rfl rfl Tryd.func39 (by kernel_rfl) rfl #[.agg #[.int .i64 t378, .slice Ao20 t379.length co20]] rfl (by (try simp only [List.map_toArray, List.map_cons, List.map_nil]); first | done | rfl | (simp only [List.length_drop, List.length_take]; rfl)) ?_; (with_reducible refine (downpourref03_Right.calls k t378 _ _ t379 true _ ?side1 ?side2 A39.out).mono ?_); (case side1 => repeat (first | exact (Kd.N_reads' HO381.out).2.2 | (with_reducible refine Kd.C_alloc ?_ _) | (with_reducible refine Kd.C_drewN ?_ _) | (with_reducible refine Kd.C_drew ?_))); (case side2 => exact (Kd.N_reads' HO381.out).2.1); rintro e w45 ⟨rfl, hb⟩; refine ⟨_, rfl, ?_⟩; have n0_ := am (Kd.N_below (pn HO381) hb); have n1_ := am (Kd.N_below (pn HO385) hb); have n2_ := am (Kd.R_below (pr HO388) hb); have n3_ := am (Kd.N_below (pn HO392) hb); have n4_ := am (Kd.R_below (pr HO397) hb); have n5_ := bb BK376 hb; have n6_ := bb BK377 hb; have n7_ := bb BK394 hb; have n8_ := am (below_step (pb HB) hb); clear HO381 HO385 HO388 HO392 HO397 BK376 BK377 BK394 HB; have HO381 := n0_; have HO385 := n1_; have HO388 := n2_; have HO392 := n3_; have HO397 := n4_; have BK376 := n5_; have BK377 := n6_; have BK394 := n7_; have HB := n8_; clear n0_ n1_ n2_ n3_ n4_ n5_ n6_ n7_ n8_; (try clear hb); (try clear hb2); (try clear hk); (try clear hi); have hnb46 := NB377_394.out; have hnc46 := NB394_377.out; have hcz47_0 : w45.cell? ⟨gb377, 0, none⟩ = some (.int .i64 t382) := (blk_cell BK377.out 0).trans rfl; have hcz47_1 : w45.cell? ⟨gb377, 1, none⟩ = some (.slice Ao23 t383.length co23) := (blk_cell BK377.out 1).trans rfl; have hfz47_0 := blk_frozen BK377.out 0; have hfz47_1 := blk_frozen BK377.out 1) | (go_at_call 39; (with_reducible refine (downpourref03_Right.calls k t382 _ _ t383 t401 _ ?side1 ?side2 A41.out).mono ?_); (case side1 => repeat (first | exact (Kd.N_reads' HO385.out).2.2 | (with_reducible refine Kd.C_alloc ?_ _) | (with_reducible refine Kd.C_drewN ?_ _) | (with_reducible refine Kd.C_drew ?_))); (case side2 => exact (Kd.N_reads' HO385.out).2.1); rintro e w48 ⟨rfl, hb⟩; have n0_ := am (Kd.N_below (pn HO381) hb); have n1_ := am (Kd.N_below (pn HO385) hb); have n2_ := am (Kd.R_below (pr HO388) hb); have n3_ := am (Kd.N_below (pn HO392) hb); have n4_ := am (Kd.R_below (pr HO397) hb); have n5_ := bb BK376 hb; have n6_ := bb BK377 hb; have n7_ := bb BK394 hb; have n8_ := am (below_step (pb HB) hb); clear HO381 HO385 HO388 HO392 HO397 BK376 BK377 BK394 HB; have HO381 := n0_; have HO385 := n1_; have HO388 := n2_; have HO392 := n3_; have HO397 := n4_; have BK376 := n5_; have BK377 := n6_; have BK394 := n7_; have HB := n8_; clear n0_ n1_ n2_ n3_ n4_ n5_ n6_ n7_ n8_; (try clear hb); (try clear hb2); (try clear hk); (try clear hi)))
     go_meet
     case rel => exact ⟨_, (!t401), (by first | rfl | (simp; done) | (simp [*]; done)), H', ⟨by first | omega | exact Nat.le_refl _⟩, ⟨by (with_reducible repeat (first | apply Kd.R_alloc | apply Kd.R_drewN | apply Kd.R_drew)); exact Kd.R_mono HO388.out (fun _ hk => hk.2)⟩, ⟨by (with_reducible repeat (first | apply Kd.R_alloc | apply Kd.R_drewN | apply Kd.R_drew)); exact Kd.R_mono HO397.out (fun _ hk => hk.2)⟩, ⟨by (with_reducible repeat (first | apply Kd.N_alloc | apply Kd.N_drewN | apply Kd.N_drew)); exact Kd.N_mono HO381.out (fun _ hk => ⟨hk.1.1.1.2, ⟨hk.2, ⟨hk.1.1.1.1.2, ⟨hk.1.1.2, ⟨hk.1.1.1.1.1.1, ⟨hk.1.1.1.1.1.2, hk.1.2⟩⟩⟩⟩⟩⟩)⟩, ⟨by (with_reducible repeat (first | apply Kd.N_alloc | apply Kd.N_drewN | apply Kd.N_drew)); exact Kd.N_mono HO385.out (fun _ hk => ⟨hk.1.1.1.2, ⟨hk.2, ⟨hk.1.1.1.1.1, ⟨hk.1.1.2, ⟨hk.1.1.1.1.2.1, ⟨hk.1.1.1.1.2.2, hk.1.2⟩⟩⟩⟩⟩⟩)⟩, ⟨by (with_reducible repeat (first | apply Kd.N_alloc | apply Kd.N_drewN | apply Kd.N_drew)); exact Kd.N_mono HO392.out (fun _ hk => ⟨hk.1.1.2.2.1, ⟨hk.2, ⟨hk.1.1.1, ⟨hk.1.1.2.1, ⟨hk.1.1.2.2.2.1, ⟨hk.1.1.2.2.2.2, hk.1.2⟩⟩⟩⟩⟩⟩)⟩, ⟨by (with_reducible repeat (first | refine blk_drewN ?_ _ | refine blk_drew ?_ | refine blk_alloc ?_ _)); exact BK376.out⟩, ⟨by (with_reducible repeat (first | refine blk_drewN ?_ _ | refine blk_drew ?_ | refine blk_alloc ?_ _)); exact BK377.out⟩, ⟨by (with_reducible repeat (first | refine blk_drewN ?_ _ | refine blk_drew ?_ | refine blk_alloc ?_ _)); exact BK394.out⟩, ⟨pb HB⟩⟩
    ·
     replace c40 := Bool.eq_false_iff.mpr c40
     subst c40
     have H1 : (downpourlaw03_MatrixMuls.j0 k a2 t386 t393 t395 t398 true t378 t379 t382 t383 t389 t390) = some r := by rw [if_neg (show ¬ (false = true) by decide)] at H; exact H
     clear H
     have H := H1
     clear H1
     have H' := Aside0.mk H
     clear H
     have hnb49 := NB376_377.out
     have hnc49 := NB377_376.out
     have hnb50 := NB376_394.out
     have hnc50 := NB394_376.out
     have hcz51_0 : w37.cell? ⟨gb376, 0, none⟩ = some (.int .i64 t378) := (blk_cell BK376.out 0).trans rfl
     have hcz51_1 : w37.cell? ⟨gb376, 1, none⟩ = some (.slice Ao20 t379.length co20) := (blk_cell BK376.out 1).trans rfl
     have hfz51_0 := blk_frozen BK376.out 0
     have hfz51_1 := blk_frozen BK376.out 1
     go_wp2_with (first | ((with_reducible refine gate_callee (f := 39) rfl ?_); refine goesL_ (some 36) rfl rfl Tryd.func39 (by kernel_rfl) rfl #[.agg #[.int .i64 t378, .slice Ao20 t379.length co20]] rfl (by (try simp only [List.map_toArray, List.map_cons, List.map_nil]); first | done | rfl | (simp only [List.length_drop, List.length_take]; rfl)) ?_; (with_reducible refine (downpourref03_Right.calls k t378 _ _ t379 false _ ?side1 ?side2 A39.out).mono ?_); (case side1 => repeat (first | exact (Kd.N_reads' HO381.out).2.2 | (with_reducible refine Kd.C_alloc ?_ _) | (with_reducible refine Kd.C_drewN ?_ _) | (with_reducible refine Kd.C_drew ?_))); (case side2 => exact (Kd.N_reads' HO381.out).2.1); rintro e w52 ⟨rfl, hb⟩; refine ⟨_, rfl, ?_⟩; have n0_ := am (Kd.N_below (pn HO381) hb); have n1_ := am (Kd.N_below (pn HO385) hb); have n2_ := am (Kd.R_below (pr HO388) hb); have n3_ := am (Kd.N_below (pn HO392) hb); have n4_ := am (Kd.R_below (pr HO397) hb); have n5_ := bb BK376 hb; have n6_ := bb BK377 hb; have n7_ := bb BK394 hb; have n8_ := am (below_step (pb HB) hb); clear HO381 HO385 HO388 HO392 HO397 BK376 BK377 BK394 HB; have HO381 := n0_; have HO385 := n1_; have HO388 := n2_; have HO392 := n3_; have HO397 := n4_; have BK376 := n5_; have BK377 := n6_; have BK394 := n7_; have HB := n8_; clear n0_ n1_ n2_ n3_ n4_ n5_ n6_ n7_ n8_; (try clear hb); (try clear hb2); (try clear hk); (try clear hi)))
     go_meet
     case rel => exact ⟨_, (true), (by first | rfl | (simp; done) | (simp [*]; done)), H', ⟨by first | omega | exact Nat.le_refl _⟩, ⟨by (with_reducible repeat (first | apply Kd.R_alloc | apply Kd.R_drewN | apply Kd.R_drew)); exact Kd.R_mono HO388.out (fun _ hk => hk.2)⟩, ⟨by (with_reducible repeat (first | apply Kd.R_alloc | apply Kd.R_drewN | apply Kd.R_drew)); exact Kd.R_mono HO397.out (fun _ hk => hk.2)⟩, ⟨by (with_reducible repeat (first | apply Kd.N_alloc | apply Kd.N_drewN | apply Kd.N_drew)); exact Kd.N_mono HO381.out (fun _ hk => ⟨hk.1.1.1.2, ⟨hk.2, ⟨hk.1.1.1.1.2, ⟨hk.1.1.2, ⟨hk.1.1.1.1.1.1, ⟨hk.1.1.1.1.1.2, hk.1.2⟩⟩⟩⟩⟩⟩)⟩, ⟨by (with_reducible repeat (first | apply Kd.N_alloc | apply Kd.N_drewN | apply Kd.N_drew)); exact Kd.N_mono HO385.out (fun _ hk => ⟨hk.1.1.1.2, ⟨hk.2, ⟨hk.1.1.1.1.1, ⟨hk.1.1.2, ⟨hk.1.1.1.1.2.1, ⟨hk.1.1.1.1.2.2, hk.1.2⟩⟩⟩⟩⟩⟩)⟩, ⟨by (with_reducible repeat (first | apply Kd.N_alloc | apply Kd.N_drewN | apply Kd.N_drew)); exact Kd.N_mono HO392.out (fun _ hk => ⟨hk.1.1.2.2.1, ⟨hk.2, ⟨hk.1.1.1, ⟨hk.1.1.2.1, ⟨hk.1.1.2.2.2.1, ⟨hk.1.1.2.2.2.2, hk.1.2⟩⟩⟩⟩⟩⟩)⟩, ⟨by (with_reducible repeat (first | refine blk_drewN ?_ _ | refine blk_drew ?_ | refine blk_alloc ?_ _)); exact BK376.out⟩, ⟨by (with_reducible repeat (first | refine blk_drewN ?_ _ | refine blk_drew ?_ | refine blk_alloc ?_ _)); exact BK377.out⟩, ⟨by (with_reducible repeat (first | refine blk_drewN ?_ _ | refine blk_drew ?_ | refine blk_alloc ?_ _)); exact BK394.out⟩, ⟨pb HB⟩⟩
   case rest =>
    clear HC38
    try clear c1
    try clear c2
    try clear p2
    try clear c3
    try clear c4
    try clear c5
    try clear c7
    try clear c11
    try clear c25
    try clear c30
    try clear c31
    try clear c34
    try clear c35
    try clear c36
    try clear c37
    try clear c38
    try clear c39
    try clear c40
    try clear c42
    try clear c43
    try clear c46
    try clear c49
    try clear c50
    try clear hcz26_0
    try clear hcz26_1
    try clear hcz27_0
    try clear hcz27_1
    try clear hcz32_0
    try clear hcz32_1
    try clear hcz34_0
    try clear hcz34_1
    try clear hcz44_0
    try clear hcz44_1
    try clear hcz47_0
    try clear hcz47_1
    try clear hcz51_0
    try clear hcz51_1
    try clear hfz26_0
    try clear hfz26_1
    try clear hfz27_0
    try clear hfz27_1
    try clear hfz32_0
    try clear hfz32_1
    try clear hfz34_0
    try clear hfz34_1
    try clear hfz44_0
    try clear hfz44_1
    try clear hfz47_0
    try clear hfz47_1
    try clear hfz51_0
    try clear hfz51_1
    obtain ⟨kq, x34_37, rfl, HA, HJ37, HO_3, HO_11, HO_377001, HO_378001, HO_395001, BK376, BK377, BK394, HB⟩ := hcut
    cases kq with
    | zero => exact absurd HA.out (by simp [downpourlaw03_MatrixMuls.j0])
    | succ kj37 =>
     have H := HA.out
     clear HA
     simp only [downpourlaw03_MatrixMuls.j0] at H
     by_cases c53 : x34_37 = true
     ·
      subst c53
      have H1 : (if t393 = 1 then ((downpourref03_Same.f kj37 t389 t390 0 ([] : List (S25))).bind fun t402 => (if t402 = true then (downpourlaw03_MatrixMuls.j1 kj37 a2 t386 t395 t398 t378 t379) else (none))) else (none)) = some r := by rw [if_pos rfl] at H; exact H
      clear H
      have H := H1
      clear H1
      by_cases c54 : t393 = 1
      ·
       rw [if_pos c54] at H
       have c54b0 : (t393 == 1) = true := beq_iff_eq.mpr c54
       have c54b1 : (t393 != 1) = false := bne_eq_false_iff_eq.mpr c54
       clear c54
       replace H := Option.bind_eq_some_iff.mp H
       obtain ⟨t402, A550, H⟩ := H
       replace H : (if t402 = true then (downpourlaw03_MatrixMuls.j1 kj37 a2 t386 t395 t398 t378 t379) else (none)) = some r := H
       have A55 := Aside0.mk A550
       clear A550
       by_cases c56 : t402 = true
       ·
        subst c56
        have H1 : (downpourlaw03_MatrixMuls.j1 kj37 a2 t386 t395 t398 t378 t379) = some r := by rw [if_pos rfl] at H; exact H
        clear H
        have H := H1
        clear H1
        have H' := Aside0.mk H
        clear H
        have hnb57 := NB394_376.out
        have hnc57 := NB376_394.out
        have hnb58 := NB394_377.out
        have hnc58 := NB377_394.out
        have hcz59_0 : wc.cell? ⟨gb394, 0, none⟩ = some (.int .i64 t389) := (blk_cell BK394.out 0).trans rfl
        have hcz59_1 : wc.cell? ⟨gb394, 1, none⟩ = some (.slice Ao33 t390.length co33) := (blk_cell BK394.out 1).trans rfl
        have hfz59_0 := blk_frozen BK394.out 0
        have hfz59_1 := blk_frozen BK394.out 1
        go_wp2_with (first | (go_at_call 40; (refine calls_of_args (args' := #[.agg #[.int .i64 t389, .slice Ao33 t390.length co33], .agg #[.int .i64 0, .slice none ([] : List (S25)).length 0]]) (by rfl) ?_; with_reducible refine (downpourref03_Same.calls kj37 t389 _ _ t390 0 _ _ ([] : List (S25)) true _ ?side1 ?side2 ?side3 ?side4 A55.out).mono ?_); (case side1 => repeat (first | exact (Kd.N_reads' HO_395001.out).2.2 | (with_reducible refine Kd.C_alloc ?_ _) | (with_reducible refine Kd.C_drewN ?_ _) | (with_reducible refine Kd.C_drew ?_))); (case side2 => exact (Kd.N_reads' HO_395001.out).2.1); (case side3 => exact Kd.C_nil _ _); (case side4 => exact Nat.le_refl _); rintro e w60 ⟨rfl, hb⟩; have n0_ := am (Kd.R_below (pr HO_3) hb); have n1_ := am (Kd.R_below (pr HO_11) hb); have n2_ := am (Kd.N_below (pn HO_377001) hb); have n3_ := am (Kd.N_below (pn HO_378001) hb); have n4_ := am (Kd.N_below (pn HO_395001) hb); have n5_ := bb BK376 hb; have n6_ := bb BK377 hb; have n7_ := bb BK394 hb; have n8_ := am (below_step (pb HB) hb); clear HO_3 HO_11 HO_377001 HO_378001 HO_395001 BK376 BK377 BK394 HB; have HO_3 := n0_; have HO_11 := n1_; have HO_377001 := n2_; have HO_378001 := n3_; have HO_395001 := n4_; have BK376 := n5_; have BK377 := n6_; have BK394 := n7_; have HB := n8_; clear n0_ n1_ n2_ n3_ n4_ n5_ n6_ n7_ n8_; (try clear hb); (try clear hb2); (try clear hk); (try clear hi)))
        go_meet
        case rel => exact ⟨_, H', ⟨by have := HJ37.out; first | omega | exact Nat.le_refl _⟩, ⟨by (with_reducible repeat (first | apply Kd.R_alloc | apply Kd.R_drewN | apply Kd.R_drew)); exact HO_3.out⟩, ⟨by (with_reducible repeat (first | apply Kd.R_alloc | apply Kd.R_drewN | apply Kd.R_drew)); exact HO_11.out⟩, ⟨by (with_reducible repeat (first | apply Kd.N_alloc | apply Kd.N_drewN | apply Kd.N_drew)); exact HO_377001.out⟩, ⟨by (with_reducible repeat (first | apply Kd.N_alloc | apply Kd.N_drewN | apply Kd.N_drew)); exact HO_378001.out⟩, ⟨by (with_reducible repeat (first | apply Kd.N_alloc | apply Kd.N_drewN | apply Kd.N_drew)); exact HO_395001.out⟩, ⟨by (with_reducible repeat (first | refine blk_drewN ?_ _ | refine blk_drew ?_ | refine blk_alloc ?_ _)); exact BK376.out⟩, ⟨by (with_reducible repeat (first | refine blk_drewN ?_ _ | refine blk_drew ?_ | refine blk_alloc ?_ _)); exact BK377.out⟩, ⟨by (with_reducible repeat (first | refine blk_drewN ?_ _ | refine blk_drew ?_ | refine blk_alloc ?_ _)); exact BK394.out⟩, ⟨pb HB⟩⟩
       ·
        replace c56 := Bool.eq_false_iff.mpr c56
        subst c56
        have H1 : (none) = some r := by rw [if_neg (show ¬ (false = true) by decide)] at H; exact H
        clear H
        have H := H1
        clear H1
        exact absurd H (by simp)
      ·
       rw [if_neg c54] at H
       exact absurd H (by simp)
     ·
      replace c53 := Bool.eq_false_iff.mpr c53
      subst c53
      have H1 : (if t378 = (t383.length : Int) then (if t393 = 0 then ((downpourref03_Mul.f kj37 t378 t379 t382 t383).bind fun bt403 => ((downpourref03_Same.f kj37 t389 t390 bt403.1 bt403.2).bind fun t407 => (if t407 = true then (downpourlaw03_MatrixMuls.j1 kj37 a2 t386 t395 t398 t378 t379) else (none)))) else (none)) else (if t393 = 2 then ((downpourref03_Same.f kj37 t389 t390 0 ([] : List (S25))).bind fun t408 => (if t408 = true then (downpourlaw03_MatrixMuls.j1 kj37 a2 t386 t395 t398 t378 t379) else (none))) else (none))) = some r := by rw [if_neg (show ¬ (false = true) by decide)] at H; exact H
      clear H
      have H := H1
      clear H1
      by_cases c61 : t378 = (t383.length : Int)
      ·
       rw [if_pos c61] at H
       have c61b0 : (t378 == (t383.length : Int)) = true := beq_iff_eq.mpr c61
       have c61b1 : (t378 != (t383.length : Int)) = false := bne_eq_false_iff_eq.mpr c61
       clear c61
       by_cases c62 : t393 = 0
       ·
        rw [if_pos c62] at H
        have c62b0 : (t393 == 0) = true := beq_iff_eq.mpr c62
        have c62b1 : (t393 != 0) = false := bne_eq_false_iff_eq.mpr c62
        clear c62
        replace H := Option.bind_eq_some_iff.mp H
        obtain ⟨⟨t403, t404⟩, A630, H⟩ := H
        replace H : ((downpourref03_Same.f kj37 t389 t390 t403 t404).bind fun t407 => (if t407 = true then (downpourlaw03_MatrixMuls.j1 kj37 a2 t386 t395 t398 t378 t379) else (none))) = some r := H
        have A63 := Aside0.mk A630
        clear A630
        replace H := Option.bind_eq_some_iff.mp H
        obtain ⟨t407, A640, H⟩ := H
        replace H : (if t407 = true then (downpourlaw03_MatrixMuls.j1 kj37 a2 t386 t395 t398 t378 t379) else (none)) = some r := H
        have A64 := Aside0.mk A640
        clear A640
        by_cases c65 : t407 = true
        ·
         subst c65
         have H1 : (downpourlaw03_MatrixMuls.j1 kj37 a2 t386 t395 t398 t378 t379) = some r := by rw [if_pos rfl] at H; exact H
         clear H
         have H := H1
         clear H1
         have H' := Aside0.mk H
         clear H
         have hnb66 := NB376_377.out
         have hnc66 := NB377_376.out
         have hnb67 := NB376_394.out
         have hnc67 := NB394_376.out
         have hcz68_0 : wc.cell? ⟨gb376, 0, none⟩ = some (.int .i64 t378) := (blk_cell BK376.out 0).trans rfl
         have hcz68_1 : wc.cell? ⟨gb376, 1, none⟩ = some (.slice Ao20 t379.length co20) := (blk_cell BK376.out 1).trans rfl
         have hfz68_0 := blk_frozen BK376.out 0
         have hfz68_1 := blk_frozen BK376.out 1
         have hnb69 := NB377_394.out
         have hnc69 := NB394_377.out
         have hcz70_0 : wc.cell? ⟨gb377, 0, none⟩ = some (.int .i64 t382) := (blk_cell BK377.out 0).trans rfl
         have hcz70_1 : wc.cell? ⟨gb377, 1, none⟩ = some (.slice Ao23 t383.length co23) := (blk_cell BK377.out 1).trans rfl
         have hfz70_0 := blk_frozen BK377.out 0
         have hfz70_1 := blk_frozen BK377.out 1
         try go_wp2
         have n0_ := am (Kd.R_drew HO_3.out)
         have n1_ := am (Kd.R_drew HO_11.out)
         have n2_ := am (Kd.N_drew HO_377001.out)
         have n3_ := am (Kd.N_drew HO_378001.out)
         have n4_ := am (Kd.N_drew HO_395001.out)
         have n5_ := am (blk_drew BK376.out)
         have n6_ := am (blk_drew BK377.out)
         have n7_ := am (blk_drew BK394.out)
         have n8_ := am (below_drew1 HB.out)
         clear HO_3
         clear HO_11
         clear HO_377001
         clear HO_378001
         clear HO_395001
         clear BK376
         clear BK377
         clear BK394
         clear HB
         have HO_3 := n0_
         have HO_11 := n1_
         have HO_377001 := n2_
         have HO_378001 := n3_
         have HO_395001 := n4_
         have BK376 := n5_
         have BK377 := n6_
         have BK394 := n7_
         have HB := n8_
         clear n0_ n1_ n2_ n3_ n4_ n5_ n6_ n7_ n8_
         refine start_ (n := 11) (S := fun w' => w'.cell? ⟨gb394, 0, none⟩ = some (.int .i64 t389) ∧ w'.cell? ⟨gb394, 1, none⟩ = some (.slice Ao33 t390.length co33) ∧ w'.cell? ⟨gb376, 0, none⟩ = some (.int .i64 t378) ∧ w'.cell? ⟨gb376, 1, none⟩ = some (.slice Ao20 t379.length co20) ∧ w'.cell? ⟨gb377, 0, none⟩ = some (.int .i64 t382) ∧ w'.cell? ⟨gb377, 1, none⟩ = some (.slice Ao23 t383.length co23)) (ds := []) #[F, F, F, F, F, F, F, F, F, F, F] (by kernel_rfl) rfl rfl ⟨(blk_cell BK394.out 0).trans rfl, (blk_cell BK394.out 1).trans rfl, (blk_cell BK376.out 0).trans rfl, (blk_cell BK376.out 1).trans rfl, (blk_cell BK377.out 0).trans rfl, (blk_cell BK377.out 1).trans rfl⟩ (fun hHeld => ?_); refine with_tabW downpourlaw03_MatrixMuls.tab12 downpourlaw03_MatrixMuls.bits12 (fun HT_ HW_ => ?_)
         generalize wc.drew = w71 at HO_3 HO_11 HO_377001 HO_378001 HO_395001 BK376 BK377 BK394 HB hHeld ⊢
         refine pure_ (i := 0) (N := some 67) (v := ?_) (a' := ?_) #[T, F, F, F, F, F, F, F, F, F, F] rfl rfl (any_of HT_.out (by kernel_rfl)) (fun _ _ _ h => h) (Or.inl ⟨by rfl, ?_⟩) ?_ ?_
         rotate_left
         ·
          intro w'
          go_simp
          with_reducible rfl
         rotate_left
         ·
          simp only [Act.put, q1, q2, q3, i64_w, i32_w]
          rfl
         refine pure_ (i := 1) (N := some 68) (v := ?_) (a' := ?_) #[T, T, F, F, F, F, F, F, F, F, F] rfl rfl (any_of HT_.out (by kernel_rfl)) (fun _ _ _ h => h) (Or.inl ⟨by rfl, ?_⟩) ?_ ?_
         rotate_left
         ·
          intro w'
          go_simp
          with_reducible rfl
         rotate_left
         ·
          simp only [Act.put, q1, q2, q3, i64_w, i32_w]
          rfl
         refine pure_ (i := 2) (N := some 69) (v := ?_) (a' := ?_) #[T, T, T, F, F, F, F, F, F, F, F] rfl rfl (any_of HT_.out (by kernel_rfl)) (fun _ _ _ h => h) (Or.inl ⟨by rfl, ?_⟩) ?_ ?_
         rotate_left
         ·
          intro w'
          go_simp
          with_reducible rfl
         rotate_left
         ·
          simp only [Act.put, q1, q2, q3, i64_w, i32_w]
          rfl
         refine take_ (i := 3) (N := some 70) (v := ?_) (a' := ?_) #[T, T, T, T, F, F, F, F, F, F, F] rfl rfl (take_ofW HT_.out HW_.out (by kernel_rfl)) (fun _ _ _ h => h) (Or.inl ⟨by rfl, ?_⟩) hHeld ?_ ?_
         rotate_left
         ·
          rintro w' ⟨s0, s1, s2, s3, s4, s5⟩
          go_simp
          with_reducible rfl
         rotate_left
         ·
          simp only [Act.put, q1, q2, q3, i64_w, i32_w]
          rfl
         refine take_ (i := 4) (N := some 71) (v := ?_) (a' := ?_) #[T, T, T, T, T, F, F, F, F, F, F] rfl rfl (take_ofW HT_.out HW_.out (by kernel_rfl)) (fun _ _ _ h => h) (Or.inl ⟨by rfl, ?_⟩) hHeld ?_ ?_
         rotate_left
         ·
          rintro w' ⟨s0, s1, s2, s3, s4, s5⟩
          go_simp
          with_reducible rfl
         rotate_left
         ·
          simp only [Act.put, q1, q2, q3, i64_w, i32_w]
          rfl
         refine take_ (i := 5) (N := some 72) (v := ?_) (a' := ?_) #[T, T, T, T, T, T, F, F, F, F, F] rfl rfl (take_ofW HT_.out HW_.out (by kernel_rfl)) (fun _ _ _ h => h) (Or.inl ⟨by rfl, ?_⟩) hHeld ?_ ?_
         rotate_left
         ·
          rintro w' ⟨s0, s1, s2, s3, s4, s5⟩
          go_simp
          with_reducible rfl
         rotate_left
         ·
          simp only [Act.put, q1, q2, q3, i64_w, i32_w]
          rfl
         refine one_ (i := 6) (N := some 73) #[T, T, T, T, T, T, T, F, F, F, F] rfl rfl (one_of HT_.out (by kernel_rfl)) (by decide) (fun K hK => ?_)
         refine goes_ Tryd.func41 (by kernel_rfl) rfl #[.agg #[.int .i64 t378, .slice Ao20 t379.length co20], .agg #[.int .i64 t382, .slice Ao23 t383.length co23]] (by rfl) rfl rfl (by (try simp only [List.map_toArray, List.map_cons, List.map_nil]); first | done | rfl | (simp only [List.length_drop, List.length_take]; rfl)) ?_
         with_reducible refine (downpourref03_Mul.calls kj37 t378 _ _ t379 t382 _ _ t383 t403 t404 _ ?side1 ?side2 ?side3 ?side4 A63.out).mono ?_
         (case side1 => repeat (first | exact (Kd.N_reads' HO_377001.out).2.2 | (with_reducible refine Kd.C_alloc ?_ _) | (with_reducible refine Kd.C_drewN ?_ _) | (with_reducible refine Kd.C_drew ?_)))
         (case side2 => exact (Kd.N_reads' HO_377001.out).2.1)
         (case side3 => repeat (first | exact (Kd.N_reads' HO_378001.out).2.2 | (with_reducible refine Kd.C_alloc ?_ _) | (with_reducible refine Kd.C_drewN ?_ _) | (with_reducible refine Kd.C_drew ?_)))
         (case side4 => exact (Kd.N_reads' HO_378001.out).2.1)
         rintro e w72 ⟨v405, rfl, ho0, hb⟩
         refine ⟨_, rfl, ?_⟩
         have n0_ := am (Kd.R_below (pr HO_3) hb)
         have n1_ := am (Kd.R_below (pr HO_11) hb)
         have n2_ := am (Kd.N_elder' (pn HO_377001) (by first | exact Kd.N_base ho0 | exact Kd.S_base ho0 | exact Kd.R_base ho0) hb)
         have n3_ := am (Kd.N_elder' (pn HO_378001) (by first | exact Kd.N_base ho0 | exact Kd.S_base ho0 | exact Kd.R_base ho0) hb)
         have n4_ := am (Kd.N_elder' (pn HO_395001) (by first | exact Kd.N_base ho0 | exact Kd.S_base ho0 | exact Kd.R_base ho0) hb)
         have n5_ := am (Kd.N_lower (Kd.N_mono (ok' := fun k_ => some k_ ≠ (.slice Ao35 t386.length co35 : Value).ownBlock ∧ some k_ ≠ (v396 : Value).ownBlock ∧ some k_ ≠ (.slice Ao20 t379.length co20 : Value).ownBlock ∧ some k_ ≠ (.slice Ao23 t383.length co23 : Value).ownBlock ∧ some k_ ≠ (.slice Ao33 t390.length co33 : Value).ownBlock ∧ k_ ≠ gb376 ∧ k_ ≠ gb377 ∧ k_ ≠ gb394) (Kd.S_N (Kd.S_bound ho0)) (fun k_ hk_ => ⟨(Kd.fresh' (Kd.R_lt (pr HO_3)) k_ hk_.2.1), (Kd.fresh' (Kd.R_lt (pr HO_11)) k_ hk_.2.1), (Kd.fresh' (Kd.N_lt (pn HO_377001)) k_ hk_.2.1), (Kd.fresh' (Kd.N_lt (pn HO_378001)) k_ hk_.2.1), (Kd.fresh' (Kd.N_lt (pn HO_395001)) k_ hk_.2.1), (Kd.freshB (g := gb376) (o := .cells #[.int .i64 t378, .slice Ao20 t379.length co20] 55 (0, 0)) (pk BK376) k_ hk_.2.1), (Kd.freshB (g := gb377) (o := .cells #[.int .i64 t382, .slice Ao23 t383.length co23] 55 (0, 0)) (pk BK377) k_ hk_.2.1), (Kd.freshB (g := gb394) (o := .cells #[.int .i64 t389, .slice Ao33 t390.length co33] 55 (0, 0)) (pk BK394) k_ hk_.2.1)⟩)) (below_size (pb HB)))
         have n6_ := bb BK376 hb
         have n7_ := bb BK377 hb
         have n8_ := bb BK394 hb
         have n9_ := am (below_step (pb HB) hb)
         clear HO_3
         clear HO_11
         clear HO_377001
         clear HO_378001
         clear HO_395001
         clear BK376
         clear BK377
         clear BK394
         clear HB
         have HO_3 := n0_
         have HO_11 := n1_
         have HO_377001 := n2_
         have HO_378001 := n3_
         have HO_395001 := n4_
         have HO406 := n5_
         have BK376 := n6_
         have BK377 := n7_
         have BK394 := n8_
         have HB := n9_
         clear n0_ n1_ n2_ n3_ n4_ n5_ n6_ n7_ n8_ n9_
         (try clear hb)
         (try clear hb2)
         (try clear hk)
         (try clear hi)
         (try clear ho0)
         obtain ⟨Ao73, co73, eo73⟩ := Kd.N_slice HO406.out
         (first | subst eo73 | (injection eo73 with f1_ f2_ f3_; have f4_ := f1_.symm; have f5_ := f3_.symm; clear f1_ f2_ f3_; subst f4_; subst f5_))
         refine hK.out _ _ ⟨(blk_cell BK394.out 0).trans rfl, (blk_cell BK394.out 1).trans rfl, (blk_cell BK376.out 0).trans rfl, (blk_cell BK376.out 1).trans rfl, (blk_cell BK377.out 0).trans rfl, (blk_cell BK377.out 1).trans rfl⟩ (fun hHeld => ?_)
         clear hK K
         refine norm_ (a' := ?_) ?_ ?_
         rotate_left
         ·
          show Act.put _ (some 73) _ = _
          simp only [Act.put, q1, q2, q3, i64_w, i32_w]
          rfl
         refine one_ (i := 7) (N := some 74) #[T, T, T, T, T, T, T, T, F, F, F] rfl rfl (one_of HT_.out (by kernel_rfl)) (by decide) (fun K hK => ?_)
         refine goes_ Tryd.func40 (by kernel_rfl) rfl #[.agg #[.int .i64 t389, .slice Ao33 t390.length co33], .agg #[.int .i64 t403, .slice Ao73 t404.length co73]] (by rfl) rfl rfl (by (try simp only [List.map_toArray, List.map_cons, List.map_nil]); first | done | rfl | (simp only [List.length_drop, List.length_take]; rfl)) ?_
         with_reducible refine (downpourref03_Same.calls kj37 t389 _ _ t390 t403 _ _ t404 true _ ?side1 ?side2 ?side3 ?side4 A64.out).mono ?_
         (case side1 => repeat (first | exact (Kd.N_reads' HO_395001.out).2.2 | (with_reducible refine Kd.C_alloc ?_ _) | (with_reducible refine Kd.C_drewN ?_ _) | (with_reducible refine Kd.C_drew ?_)))
         (case side2 => exact (Kd.N_reads' HO_395001.out).2.1)
         (case side3 => repeat (first | exact (Kd.N_reads' HO406.out).2.2 | (with_reducible refine Kd.C_alloc ?_ _) | (with_reducible refine Kd.C_drewN ?_ _) | (with_reducible refine Kd.C_drew ?_)))
         (case side4 => exact (Kd.N_reads' HO406.out).2.1)
         rintro e w74 ⟨rfl, hb⟩
         refine ⟨_, rfl, ?_⟩
         have n0_ := am (Kd.R_below (pr HO_3) hb)
         have n1_ := am (Kd.R_below (pr HO_11) hb)
         have n2_ := am (Kd.N_below (pn HO_377001) hb)
         have n3_ := am (Kd.N_below (pn HO_378001) hb)
         have n4_ := am (Kd.N_below (pn HO_395001) hb)
         have n5_ := am (Kd.N_below (pn HO406) hb)
         have n6_ := bb BK376 hb
         have n7_ := bb BK377 hb
         have n8_ := bb BK394 hb
         have n9_ := am (below_step (pb HB) hb)
         clear HO_3
         clear HO_11
         clear HO_377001
         clear HO_378001
         clear HO_395001
         clear HO406
         clear BK376
         clear BK377
         clear BK394
         clear HB
         have HO_3 := n0_
         have HO_11 := n1_
         have HO_377001 := n2_
         have HO_378001 := n3_
         have HO_395001 := n4_
         have HO406 := n5_
         have BK376 := n6_
         have BK377 := n7_
         have BK394 := n8_
         have HB := n9_
         clear n0_ n1_ n2_ n3_ n4_ n5_ n6_ n7_ n8_ n9_
         (try clear hb)
         (try clear hb2)
         (try clear hk)
         (try clear hi)
         refine hK.out _ _ ⟨(blk_cell BK394.out 0).trans rfl, (blk_cell BK394.out 1).trans rfl, (blk_cell BK376.out 0).trans rfl, (blk_cell BK376.out 1).trans rfl, (blk_cell BK377.out 0).trans rfl, (blk_cell BK377.out 1).trans rfl⟩ (fun hHeld => ?_)
         clear hK K
         refine norm_ (a' := ?_) ?_ ?_
         rotate_left
         ·
          show Act.put _ (some 74) _ = _
          simp only [Act.put, q1, q2, q3, i64_w, i32_w]
          rfl
         refine pure_ (i := 8) (N := some 75) (v := ?_) (a' := ?_) #[T, T, T, T, T, T, T, T, T, F, F] rfl rfl (any_of HT_.out (by kernel_rfl)) (fun _ _ _ h => h) (Or.inl ⟨by rfl, ?_⟩) ?_ ?_
         rotate_left
         ·
          intro w'
          go_simp
          with_reducible rfl
         rotate_left
         ·
          simp only [Act.put, q1, q2, q3, i64_w, i32_w]
          rfl
         refine pure_ (i := 9) (N := some 76) (v := ?_) (a' := ?_) #[T, T, T, T, T, T, T, T, T, T, F] rfl rfl (any_of HT_.out (by kernel_rfl)) (fun _ _ _ h => h) (Or.inl ⟨by rfl, ?_⟩) ?_ ?_
         rotate_left
         ·
          intro w'
          go_simp
          with_reducible rfl
         rotate_left
         ·
          simp only [Act.put, q1, q2, q3, i64_w, i32_w]
          rfl
         refine pure_ (i := 10) (N := some 66) (v := ?_) (a' := ?_) #[T, T, T, T, T, T, T, T, T, T, T] rfl rfl (any_of HT_.out (by kernel_rfl)) (fun _ _ _ h => h) (Or.inl ⟨by rfl, ?_⟩) ?_ ?_
         rotate_left
         ·
          intro w'
          go_simp
          with_reducible rfl
         rotate_left
         ·
          simp only [Act.put, q1, q2, q3, i64_w, i32_w]
          rfl
         refine done_ (done_of HT_.out (by kernel_rfl)) ?_
         try go_wp2
         go_meet
         case rel => exact ⟨_, H', ⟨by have := HJ37.out; first | omega | exact Nat.le_refl _⟩, ⟨by (with_reducible repeat (first | apply Kd.R_alloc | apply Kd.R_drewN | apply Kd.R_drew)); exact HO_3.out⟩, ⟨by (with_reducible repeat (first | apply Kd.R_alloc | apply Kd.R_drewN | apply Kd.R_drew)); exact HO_11.out⟩, ⟨by (with_reducible repeat (first | apply Kd.N_alloc | apply Kd.N_drewN | apply Kd.N_drew)); exact Kd.N_mono HO_377001.out (fun _ hk => ⟨hk.1.1, ⟨hk.1.2.1, ⟨hk.1.2.2.1, ⟨hk.1.2.2.2.1, ⟨hk.1.2.2.2.2.1, ⟨hk.1.2.2.2.2.2.1, hk.1.2.2.2.2.2.2⟩⟩⟩⟩⟩⟩)⟩, ⟨by (with_reducible repeat (first | apply Kd.N_alloc | apply Kd.N_drewN | apply Kd.N_drew)); exact Kd.N_mono HO_378001.out (fun _ hk => ⟨hk.1.1, ⟨hk.1.2.1, ⟨hk.1.2.2.1, ⟨hk.1.2.2.2.1, ⟨hk.1.2.2.2.2.1, ⟨hk.1.2.2.2.2.2.1, hk.1.2.2.2.2.2.2⟩⟩⟩⟩⟩⟩)⟩, ⟨by (with_reducible repeat (first | apply Kd.N_alloc | apply Kd.N_drewN | apply Kd.N_drew)); exact Kd.N_mono HO_395001.out (fun _ hk => ⟨hk.1.1, ⟨hk.1.2.1, ⟨hk.1.2.2.1, ⟨hk.1.2.2.2.1, ⟨hk.1.2.2.2.2.1, ⟨hk.1.2.2.2.2.2.1, hk.1.2.2.2.2.2.2⟩⟩⟩⟩⟩⟩)⟩, ⟨by (with_reducible repeat (first | refine blk_drewN ?_ _ | refine blk_drew ?_ | refine blk_alloc ?_ _)); exact BK376.out⟩, ⟨by (with_reducible repeat (first | refine blk_drewN ?_ _ | refine blk_drew ?_ | refine blk_alloc ?_ _)); exact BK377.out⟩, ⟨by (with_reducible repeat (first | refine blk_drewN ?_ _ | refine blk_drew ?_ | refine blk_alloc ?_ _)); exact BK394.out⟩, ⟨pb HB⟩⟩
        ·
         replace c65 := Bool.eq_false_iff.mpr c65
         subst c65
         have H1 : (none) = some r := by rw [if_neg (show ¬ (false = true) by decide)] at H; exact H
         clear H
         have H := H1
         clear H1
         exact absurd H (by simp)
       ·
        rw [if_neg c62] at H
        exact absurd H (by simp)
      ·
       rw [if_neg c61] at H
       have c61b0 : (t378 == (t383.length : Int)) = false := beq_eq_false_iff_ne.mpr c61
       have c61b1 : (t378 != (t383.length : Int)) = true := bne_iff_ne.mpr c61
       by_cases c75 : t393 = 2
       ·
        rw [if_pos c75] at H
        have c75b0 : (t393 == 2) = true := beq_iff_eq.mpr c75
        have c75b1 : (t393 != 2) = false := bne_eq_false_iff_eq.mpr c75
        clear c75
        replace H := Option.bind_eq_some_iff.mp H
        obtain ⟨t408, A760, H⟩ := H
        replace H : (if t408 = true then (downpourlaw03_MatrixMuls.j1 kj37 a2 t386 t395 t398 t378 t379) else (none)) = some r := H
        have A76 := Aside0.mk A760
        clear A760
        by_cases c77 : t408 = true
        ·
         subst c77
         have H1 : (downpourlaw03_MatrixMuls.j1 kj37 a2 t386 t395 t398 t378 t379) = some r := by rw [if_pos rfl] at H; exact H
         clear H
         have H := H1
         clear H1
         have H' := Aside0.mk H
         clear H
         have hnb78 := NB376_377.out
         have hnc78 := NB377_376.out
         have hnb79 := NB376_394.out
         have hnc79 := NB394_376.out
         have hcz80_0 : wc.cell? ⟨gb376, 0, none⟩ = some (.int .i64 t378) := (blk_cell BK376.out 0).trans rfl
         have hcz80_1 : wc.cell? ⟨gb376, 1, none⟩ = some (.slice Ao20 t379.length co20) := (blk_cell BK376.out 1).trans rfl
         have hfz80_0 := blk_frozen BK376.out 0
         have hfz80_1 := blk_frozen BK376.out 1
         have hnb81 := NB377_394.out
         have hnc81 := NB394_377.out
         have hcz82_0 : wc.cell? ⟨gb377, 0, none⟩ = some (.int .i64 t382) := (blk_cell BK377.out 0).trans rfl
         have hcz82_1 : wc.cell? ⟨gb377, 1, none⟩ = some (.slice Ao23 t383.length co23) := (blk_cell BK377.out 1).trans rfl
         have hfz82_0 := blk_frozen BK377.out 0
         have hfz82_1 := blk_frozen BK377.out 1
         have hcz83_0 : wc.cell? ⟨gb394, 0, none⟩ = some (.int .i64 t389) := (blk_cell BK394.out 0).trans rfl
         have hcz83_1 : wc.cell? ⟨gb394, 1, none⟩ = some (.slice Ao33 t390.length co33) := (blk_cell BK394.out 1).trans rfl
         have hfz83_0 := blk_frozen BK394.out 0
         have hfz83_1 := blk_frozen BK394.out 1
         go_wp2_with (first | (go_at_call 40; (refine calls_of_args (args' := #[.agg #[.int .i64 t389, .slice Ao33 t390.length co33], .agg #[.int .i64 0, .slice none ([] : List (S25)).length 0]]) (by rfl) ?_; with_reducible refine (downpourref03_Same.calls kj37 t389 _ _ t390 0 _ _ ([] : List (S25)) true _ ?side1 ?side2 ?side3 ?side4 A76.out).mono ?_); (case side1 => repeat (first | exact (Kd.N_reads' HO_395001.out).2.2 | (with_reducible refine Kd.C_alloc ?_ _) | (with_reducible refine Kd.C_drewN ?_ _) | (with_reducible refine Kd.C_drew ?_))); (case side2 => exact (Kd.N_reads' HO_395001.out).2.1); (case side3 => exact Kd.C_nil _ _); (case side4 => exact Nat.le_refl _); rintro e w84 ⟨rfl, hb⟩; have n0_ := am (Kd.R_below (pr HO_3) hb); have n1_ := am (Kd.R_below (pr HO_11) hb); have n2_ := am (Kd.N_below (pn HO_377001) hb); have n3_ := am (Kd.N_below (pn HO_378001) hb); have n4_ := am (Kd.N_below (pn HO_395001) hb); have n5_ := bb BK376 hb; have n6_ := bb BK377 hb; have n7_ := bb BK394 hb; have n8_ := am (below_step (pb HB) hb); clear HO_3 HO_11 HO_377001 HO_378001 HO_395001 BK376 BK377 BK394 HB; have HO_3 := n0_; have HO_11 := n1_; have HO_377001 := n2_; have HO_378001 := n3_; have HO_395001 := n4_; have BK376 := n5_; have BK377 := n6_; have BK394 := n7_; have HB := n8_; clear n0_ n1_ n2_ n3_ n4_ n5_ n6_ n7_ n8_; (try clear hb); (try clear hb2); (try clear hk); (try clear hi)))
         go_meet
         case rel => exact ⟨_, H', ⟨by have := HJ37.out; first | omega | exact Nat.le_refl _⟩, ⟨by (with_reducible repeat (first | apply Kd.R_alloc | apply Kd.R_drewN | apply Kd.R_drew)); exact HO_3.out⟩, ⟨by (with_reducible repeat (first | apply Kd.R_alloc | apply Kd.R_drewN | apply Kd.R_drew)); exact HO_11.out⟩, ⟨by (with_reducible repeat (first | apply Kd.N_alloc | apply Kd.N_drewN | apply Kd.N_drew)); exact HO_377001.out⟩, ⟨by (with_reducible repeat (first | apply Kd.N_alloc | apply Kd.N_drewN | apply Kd.N_drew)); exact HO_378001.out⟩, ⟨by (with_reducible repeat (first | apply Kd.N_alloc | apply Kd.N_drewN | apply Kd.N_drew)); exact HO_395001.out⟩, ⟨by (with_reducible repeat (first | refine blk_drewN ?_ _ | refine blk_drew ?_ | refine blk_alloc ?_ _)); exact BK376.out⟩, ⟨by (with_reducible repeat (first | refine blk_drewN ?_ _ | refine blk_drew ?_ | refine blk_alloc ?_ _)); exact BK377.out⟩, ⟨by (with_reducible repeat (first | refine blk_drewN ?_ _ | refine blk_drew ?_ | refine blk_alloc ?_ _)); exact BK394.out⟩, ⟨pb HB⟩⟩
        ·
         replace c77 := Bool.eq_false_iff.mpr c77
         subst c77
         have H1 : (none) = some r := by rw [if_neg (show ¬ (false = true) by decide)] at H; exact H
         clear H
         have H := H1
         clear H1
         exact absurd H (by simp)
       ·
        rw [if_neg c75] at H
        exact absurd H (by simp)
  case rest =>
   clear HC12
   try clear c1
   try clear c2
   try clear p2
   try clear c3
   try clear c4
   try clear c5
   try clear c6
   try clear c7
   try clear c8
   try clear c11
   try clear c25
   try clear c30
   try clear c31
   try clear c34
   try clear c35
   try clear c36
   try clear c37
   try clear c38
   try clear c39
   try clear c40
   try clear c41
   try clear c42
   try clear c43
   try clear c46
   try clear c49
   try clear c50
   try clear c53
   try clear c54
   try clear c54b0
   try clear c54b1
   try clear c56
   try clear c57
   try clear c58
   try clear c61
   try clear c61b0
   try clear c61b1
   try clear c62
   try clear c62b0
   try clear c62b1
   try clear c65
   try clear c66
   try clear c67
   try clear c69
   try clear c75
   try clear c75b0
   try clear c75b1
   try clear c77
   try clear c78
   try clear c79
   try clear c81
   try clear hcz26_0
   try clear hcz26_1
   try clear hcz27_0
   try clear hcz27_1
   try clear hcz32_0
   try clear hcz32_1
   try clear hcz34_0
   try clear hcz34_1
   try clear hcz44_0
   try clear hcz44_1
   try clear hcz47_0
   try clear hcz47_1
   try clear hcz51_0
   try clear hcz51_1
   try clear hcz59_0
   try clear hcz59_1
   try clear hcz68_0
   try clear hcz68_1
   try clear hcz70_0
   try clear hcz70_1
   try clear hcz80_0
   try clear hcz80_1
   try clear hcz82_0
   try clear hcz82_1
   try clear hcz83_0
   try clear hcz83_1
   try clear hfz26_0
   try clear hfz26_1
   try clear hfz27_0
   try clear hfz27_1
   try clear hfz32_0
   try clear hfz32_1
   try clear hfz34_0
   try clear hfz34_1
   try clear hfz44_0
   try clear hfz44_1
   try clear hfz47_0
   try clear hfz47_1
   try clear hfz51_0
   try clear hfz51_1
   try clear hfz59_0
   try clear hfz59_1
   try clear hfz68_0
   try clear hfz68_1
   try clear hfz70_0
   try clear hfz70_1
   try clear hfz80_0
   try clear hfz80_1
   try clear hfz82_0
   try clear hfz82_1
   try clear hfz83_0
   try clear hfz83_1
   try clear p2
   obtain ⟨kq, HA, HJ11, HO_3, HO_11, HO_377001, HO_378001, HO_395001, BK376, BK377, BK394, HB⟩ := hcut
   cases kq with
   | zero => exact absurd HA.out (by simp [downpourlaw03_MatrixMuls.j1])
   | succ kj11 =>
    have H := HA.out
    clear HA
    simp only [downpourlaw03_MatrixMuls.j1] at H
    replace H := Option.bind_eq_some_iff.mp H
    obtain ⟨t409, A850, H⟩ := H
    replace H : (if t409 = true then ((downpourref02_Why.f kj11 a2 t386).bind fun t410 => (if t410 = 0 then (downpourlaw03_MatrixMuls.j2 kj11 a2 t386 t395 t398 ((t386.length : Int) != t378) t378 t379) else (downpourlaw03_MatrixMuls.j2 kj11 a2 t386 t395 t398 true t378 t379))) else (if t398 = 1 then (some ((t395.length : Int) == 0)) else (none))) = some r := H
    have A85 := Aside0.mk A850
    clear A850
    by_cases c86 : t409 = true
    ·
     subst c86
     have H1 : ((downpourref02_Why.f kj11 a2 t386).bind fun t410 => (if t410 = 0 then (downpourlaw03_MatrixMuls.j2 kj11 a2 t386 t395 t398 ((t386.length : Int) != t378) t378 t379) else (downpourlaw03_MatrixMuls.j2 kj11 a2 t386 t395 t398 true t378 t379))) = some r := by rw [if_pos rfl] at H; exact H
     clear H
     have H := H1
     clear H1
     have HC87 := Aside0.mk H
     clear H
     have hnb88 := NB376_377.out
     have hnc88 := NB377_376.out
     have hnb89 := NB376_394.out
     have hnc89 := NB394_376.out
     have hcz90_0 : wc.cell? ⟨gb376, 0, none⟩ = some (.int .i64 t378) := (blk_cell BK376.out 0).trans rfl
     have hcz90_1 : wc.cell? ⟨gb376, 1, none⟩ = some (.slice Ao20 t379.length co20) := (blk_cell BK376.out 1).trans rfl
     have hfz90_0 := blk_frozen BK376.out 0
     have hfz90_1 := blk_frozen BK376.out 1
     go_upto_region 16 with (first | ((with_reducible refine gate_callee (f := 39) rfl ?_); refine goesL_ (some 79) rfl rfl Tryd.func39 (by kernel_rfl) rfl #[.agg #[.int .i64 t378, .slice Ao20 t379.length co20]] rfl (by (try simp only [List.map_toArray, List.map_cons, List.map_nil]); first | done | rfl | (simp only [List.length_drop, List.length_take]; rfl)) ?_; (with_reducible refine (downpourref03_Right.calls kj11 t378 _ _ t379 true _ ?side1 ?side2 A85.out).mono ?_); (case side1 => repeat (first | exact (Kd.N_reads' HO_377001.out).2.2 | (with_reducible refine Kd.C_alloc ?_ _) | (with_reducible refine Kd.C_drewN ?_ _) | (with_reducible refine Kd.C_drew ?_))); (case side2 => exact (Kd.N_reads' HO_377001.out).2.1); rintro e w91 ⟨rfl, hb⟩; refine ⟨_, rfl, ?_⟩; have n0_ := am (Kd.R_below (pr HO_3) hb); have n1_ := am (Kd.R_below (pr HO_11) hb); have n2_ := am (Kd.N_below (pn HO_377001) hb); have n3_ := am (Kd.N_below (pn HO_378001) hb); have n4_ := am (Kd.N_below (pn HO_395001) hb); have n5_ := bb BK376 hb; have n6_ := bb BK377 hb; have n7_ := bb BK394 hb; have n8_ := am (below_step (pb HB) hb); clear HO_3 HO_11 HO_377001 HO_378001 HO_395001 BK376 BK377 BK394 HB; have HO_3 := n0_; have HO_11 := n1_; have HO_377001 := n2_; have HO_378001 := n3_; have HO_395001 := n4_; have BK376 := n5_; have BK377 := n6_; have BK394 := n7_; have HB := n8_; clear n0_ n1_ n2_ n3_ n4_ n5_ n6_ n7_ n8_; (try clear hb); (try clear hb2); (try clear hk); (try clear hi)))
     (try simp only [Act.put, q1, q2, q3])
     go_cut [88] (fun v88 wc => ∃ (kq : Nat) (x88_86 : Bool), v88 = .bool x88_86 ∧ Aside0 (downpourlaw03_MatrixMuls.j2 kq a2 t386 t395 t398 x88_86 t378 t379 = some r) ∧ Aside0 (kq ≤ kj11) ∧ Aside0 (Kd.R Kd.string 9 wc w.heap.size (fun k_ => some k_ ≠ (v396 : Value).ownBlock) (.slice Ao35 t386.length co35) t386) ∧ Aside0 (Kd.R Kd.string 9 wc w.heap.size (fun k_ => some k_ ≠ ((.slice Ao35 t386.length co35) : Value).ownBlock) v396 t395) ∧ Aside0 (Kd.N k25 25 wc w.heap.size (fun k_ => some k_ ≠ ((.slice Ao35 t386.length co35) : Value).ownBlock ∧ some k_ ≠ (v396 : Value).ownBlock ∧ some k_ ≠ ((.slice Ao23 t383.length co23) : Value).ownBlock ∧ some k_ ≠ ((.slice Ao33 t390.length co33) : Value).ownBlock ∧ k_ ≠ gb376 ∧ k_ ≠ gb377 ∧ k_ ≠ gb394) (.slice Ao20 t379.length co20) t379) ∧ Aside0 (Kd.N k25 25 wc w.heap.size (fun k_ => some k_ ≠ ((.slice Ao35 t386.length co35) : Value).ownBlock ∧ some k_ ≠ (v396 : Value).ownBlock ∧ some k_ ≠ ((.slice Ao20 t379.length co20) : Value).ownBlock ∧ some k_ ≠ ((.slice Ao33 t390.length co33) : Value).ownBlock ∧ k_ ≠ gb376 ∧ k_ ≠ gb377 ∧ k_ ≠ gb394) (.slice Ao23 t383.length co23) t383) ∧ Aside0 (Kd.N k25 25 wc w.heap.size (fun k_ => some k_ ≠ ((.slice Ao35 t386.length co35) : Value).ownBlock ∧ some k_ ≠ (v396 : Value).ownBlock ∧ some k_ ≠ ((.slice Ao20 t379.length co20) : Value).ownBlock ∧ some k_ ≠ ((.slice Ao23 t383.length co23) : Value).ownBlock ∧ k_ ≠ gb376 ∧ k_ ≠ gb377 ∧ k_ ≠ gb394) (.slice Ao33 t390.length co33) t390) ∧ Aside0 (wc.heap[gb376]? = some (.cells #[.int .i64 t378, (.slice Ao20 t379.length co20)] 55 (0, 0))) ∧ Aside0 (wc.heap[gb377]? = some (.cells #[.int .i64 t382, (.slice Ao23 t383.length co23)] 55 (0, 0))) ∧ Aside0 (wc.heap[gb394]? = some (.cells #[.int .i64 t389, (.slice Ao33 t390.length co33)] 55 (0, 0))) ∧ Aside0 (Below w.heap.size w wc))
     case first =>
      have H := HC87.out
      clear HC87
      replace H := Option.bind_eq_some_iff.mp H
      obtain ⟨t410, A920, H⟩ := H
      replace H : (if t410 = 0 then (downpourlaw03_MatrixMuls.j2 kj11 a2 t386 t395 t398 ((t386.length : Int) != t378) t378 t379) else (downpourlaw03_MatrixMuls.j2 kj11 a2 t386 t395 t398 true t378 t379)) = some r := H
      have A92 := Aside0.mk A920
      clear A920
      by_cases c93 : t410 = 0
      ·
       rw [if_pos c93] at H
       have c93b0 : (t410 == 0) = true := beq_iff_eq.mpr c93
       have c93b1 : (t410 != 0) = false := bne_eq_false_iff_eq.mpr c93
       clear c93
       (first | rw [c93b0] | (simp only [i64_w, i32_w]; rw [c93b0]) | skip)
       have H' := Aside0.mk H
       clear H
       go_wp2_with (first | ((with_reducible refine gate_callee (f := 13) rfl ?_); refine goesL_ (some 91) rfl rfl Tryd.func13 (by kernel_rfl) rfl #[.int .i64 a2, .slice Ao35 t386.length co35] rfl (by (try simp only [List.map_toArray, List.map_cons, List.map_nil]); first | done | rfl | (simp only [List.length_drop, List.length_take]; rfl)) ?_; (with_reducible refine (downpourref02_Why.calls kj11 a2 _ _ t386 t410 _ ?side1 ?side2 A92.out).mono ?_); (case side1 => repeat (first | exact (Kd.R_reads' HO_3.out).2.2 | (with_reducible refine Kd.C_alloc ?_ _) | (with_reducible refine Kd.C_drewN ?_ _) | (with_reducible refine Kd.C_drew ?_))); (case side2 => exact (Kd.R_reads' HO_3.out).2.1); rintro e w' ⟨rfl, ⟨nd, rfl⟩⟩; refine ⟨_, rfl, ?_⟩; have hnb94 := NB376_377.out; have hnc94 := NB377_376.out; have hnb95 := NB376_394.out; have hnc95 := NB394_376.out; have hcz96_0 : w91.cell? ⟨gb376, 0, none⟩ = some (.int .i64 t378) := (blk_cell BK376.out 0).trans rfl; have hcz96_1 : w91.cell? ⟨gb376, 1, none⟩ = some (.slice Ao20 t379.length co20) := (blk_cell BK376.out 1).trans rfl; have hfz96_0 := blk_frozen BK376.out 0; have hfz96_1 := blk_frozen BK376.out 1))
       go_meet
       case rel => exact ⟨_, (((t386.length : Int) != t378)), (by first | rfl | (simp; done) | (simp [*]; done)), H', ⟨by have := HJ11.out; first | omega | exact Nat.le_refl _⟩, ⟨by (with_reducible repeat (first | apply Kd.R_alloc | apply Kd.R_drewN | apply Kd.R_drew)); exact HO_3.out⟩, ⟨by (with_reducible repeat (first | apply Kd.R_alloc | apply Kd.R_drewN | apply Kd.R_drew)); exact HO_11.out⟩, ⟨by (with_reducible repeat (first | apply Kd.N_alloc | apply Kd.N_drewN | apply Kd.N_drew)); exact HO_377001.out⟩, ⟨by (with_reducible repeat (first | apply Kd.N_alloc | apply Kd.N_drewN | apply Kd.N_drew)); exact HO_378001.out⟩, ⟨by (with_reducible repeat (first | apply Kd.N_alloc | apply Kd.N_drewN | apply Kd.N_drew)); exact HO_395001.out⟩, ⟨by (with_reducible repeat (first | refine blk_drewN ?_ _ | refine blk_drew ?_ | refine blk_alloc ?_ _)); exact BK376.out⟩, ⟨by (with_reducible repeat (first | refine blk_drewN ?_ _ | refine blk_drew ?_ | refine blk_alloc ?_ _)); exact BK377.out⟩, ⟨by (with_reducible repeat (first | refine blk_drewN ?_ _ | refine blk_drew ?_ | refine blk_alloc ?_ _)); exact BK394.out⟩, ⟨pb HB⟩⟩
      ·
       rw [if_neg c93] at H
       have c93b0 : (t410 == 0) = false := beq_eq_false_iff_ne.mpr c93
       have c93b1 : (t410 != 0) = true := bne_iff_ne.mpr c93
       (first | rw [c93b0] | (simp only [i64_w, i32_w]; rw [c93b0]) | skip)
       have H' := Aside0.mk H
       clear H
       go_wp2_with (first | ((with_reducible refine gate_callee (f := 13) rfl ?_); refine goesL_ (some 91) rfl rfl Tryd.func13 (by kernel_rfl) rfl #[.int .i64 a2, .slice Ao35 t386.length co35] rfl (by (try simp only [List.map_toArray, List.map_cons, List.map_nil]); first | done | rfl | (simp only [List.length_drop, List.length_take]; rfl)) ?_; (with_reducible refine (downpourref02_Why.calls kj11 a2 _ _ t386 t410 _ ?side1 ?side2 A92.out).mono ?_); (case side1 => repeat (first | exact (Kd.R_reads' HO_3.out).2.2 | (with_reducible refine Kd.C_alloc ?_ _) | (with_reducible refine Kd.C_drewN ?_ _) | (with_reducible refine Kd.C_drew ?_))); (case side2 => exact (Kd.R_reads' HO_3.out).2.1); rintro e w' ⟨rfl, ⟨nd, rfl⟩⟩; refine ⟨_, rfl, ?_⟩))
       go_meet
       case rel => exact ⟨_, (true), (by first | rfl | (simp; done) | (simp [*]; done)), H', ⟨by have := HJ11.out; first | omega | exact Nat.le_refl _⟩, ⟨by (with_reducible repeat (first | apply Kd.R_alloc | apply Kd.R_drewN | apply Kd.R_drew)); exact HO_3.out⟩, ⟨by (with_reducible repeat (first | apply Kd.R_alloc | apply Kd.R_drewN | apply Kd.R_drew)); exact HO_11.out⟩, ⟨by (with_reducible repeat (first | apply Kd.N_alloc | apply Kd.N_drewN | apply Kd.N_drew)); exact HO_377001.out⟩, ⟨by (with_reducible repeat (first | apply Kd.N_alloc | apply Kd.N_drewN | apply Kd.N_drew)); exact HO_378001.out⟩, ⟨by (with_reducible repeat (first | apply Kd.N_alloc | apply Kd.N_drewN | apply Kd.N_drew)); exact HO_395001.out⟩, ⟨by (with_reducible repeat (first | refine blk_drewN ?_ _ | refine blk_drew ?_ | refine blk_alloc ?_ _)); exact BK376.out⟩, ⟨by (with_reducible repeat (first | refine blk_drewN ?_ _ | refine blk_drew ?_ | refine blk_alloc ?_ _)); exact BK377.out⟩, ⟨by (with_reducible repeat (first | refine blk_drewN ?_ _ | refine blk_drew ?_ | refine blk_alloc ?_ _)); exact BK394.out⟩, ⟨pb HB⟩⟩
     case rest =>
      clear HC87
      try clear c1
      try clear c2
      try clear p2
      try clear c3
      try clear c4
      try clear c5
      try clear c6
      try clear c7
      try clear c8
      try clear c9
      try clear c11
      try clear c13
      try clear c25
      try clear c30
      try clear c31
      try clear c34
      try clear c35
      try clear c36
      try clear c37
      try clear c38
      try clear c39
      try clear c40
      try clear c41
      try clear c42
      try clear c43
      try clear c46
      try clear c49
      try clear c50
      try clear c53
      try clear c54
      try clear c54b0
      try clear c54b1
      try clear c56
      try clear c57
      try clear c58
      try clear c61
      try clear c61b0
      try clear c61b1
      try clear c62
      try clear c62b0
      try clear c62b1
      try clear c65
      try clear c66
      try clear c67
      try clear c69
      try clear c75
      try clear c75b0
      try clear c75b1
      try clear c77
      try clear c78
      try clear c79
      try clear c81
      try clear c86
      try clear c88
      try clear c89
      try clear c93
      try clear c93b0
      try clear c93b1
      try clear c94
      try clear c95
      try clear hcz26_0
      try clear hcz26_1
      try clear hcz27_0
      try clear hcz27_1
      try clear hcz32_0
      try clear hcz32_1
      try clear hcz34_0
      try clear hcz34_1
      try clear hcz44_0
      try clear hcz44_1
      try clear hcz47_0
      try clear hcz47_1
      try clear hcz51_0
      try clear hcz51_1
      try clear hcz59_0
      try clear hcz59_1
      try clear hcz68_0
      try clear hcz68_1
      try clear hcz70_0
      try clear hcz70_1
      try clear hcz80_0
      try clear hcz80_1
      try clear hcz82_0
      try clear hcz82_1
      try clear hcz83_0
      try clear hcz83_1
      try clear hcz90_0
      try clear hcz90_1
      try clear hcz96_0
      try clear hcz96_1
      try clear hfz26_0
      try clear hfz26_1
      try clear hfz27_0
      try clear hfz27_1
      try clear hfz32_0
      try clear hfz32_1
      try clear hfz34_0
      try clear hfz34_1
      try clear hfz44_0
      try clear hfz44_1
      try clear hfz47_0
      try clear hfz47_1
      try clear hfz51_0
      try clear hfz51_1
      try clear hfz59_0
      try clear hfz59_1
      try clear hfz68_0
      try clear hfz68_1
      try clear hfz70_0
      try clear hfz70_1
      try clear hfz80_0
      try clear hfz80_1
      try clear hfz82_0
      try clear hfz82_1
      try clear hfz83_0
      try clear hfz83_1
      try clear hfz90_0
      try clear hfz90_1
      try clear hfz96_0
      try clear hfz96_1
      try clear p2
      obtain ⟨kq, x88_86, rfl, HA, HJ86, HO_3, HO_11, HO_377001, HO_378001, HO_395001, BK376, BK377, BK394, HB⟩ := hcut
      cases kq with
      | zero => exact absurd HA.out (by simp [downpourlaw03_MatrixMuls.j2])
      | succ kj86 =>
       have H := HA.out
       clear HA
       simp only [downpourlaw03_MatrixMuls.j2] at H
       by_cases c97 : x88_86 = true
       ·
        subst c97
        have H1 : (if t398 = 2 then (some ((t395.length : Int) == 0)) else (none)) = some r := by rw [if_pos rfl] at H; exact H
        clear H
        have H := H1
        clear H1
        by_cases c98 : t398 = 2
        ·
         rw [if_pos c98] at H
         have c98b0 : (t398 == 2) = true := beq_iff_eq.mpr c98
         have c98b1 : (t398 != 2) = false := bne_eq_false_iff_eq.mpr c98
         clear c98
         obtain rfl := Option.some.inj H
         obtain ⟨Ao99, co99, eo99⟩ := Kd.R_slice HO_11.out
         subst eo99
         go_wp2
         go_ret
         exact ⟨by first | rfl | (simp [errW_none, errW_some] <;> rfl) | (simp [*, errW_none, errW_some] <;> rfl), pb HB⟩
        ·
         rw [if_neg c98] at H
         exact absurd H (by simp)
       ·
        replace c97 := Bool.eq_false_iff.mpr c97
        subst c97
        have H1 : (if t398 = 0 then ((downpourref03_Apply.f kj86 t378 t379 a2 t386).bind fun t411 => ((downpourref02_Texts.f kj86 t395 t411).bind fun t414 => (some t414))) else (none)) = some r := by rw [if_neg (show ¬ (false = true) by decide)] at H; exact H
        clear H
        have H := H1
        clear H1
        by_cases c100 : t398 = 0
        ·
         rw [if_pos c100] at H
         have c100b0 : (t398 == 0) = true := beq_iff_eq.mpr c100
         have c100b1 : (t398 != 0) = false := bne_eq_false_iff_eq.mpr c100
         clear c100
         replace H := Option.bind_eq_some_iff.mp H
         obtain ⟨t411, A1010, H⟩ := H
         replace H : ((downpourref02_Texts.f kj86 t395 t411).bind fun t414 => (some t414)) = some r := H
         have A101 := Aside0.mk A1010
         clear A1010
         replace H := Option.bind_eq_some_iff.mp H
         obtain ⟨t414, A1020, H⟩ := H
         replace H : (some t414) = some r := H
         have A102 := Aside0.mk A1020
         clear A1020
         obtain rfl := Option.some.inj H
         have hnb103 := NB376_377.out
         have hnc103 := NB377_376.out
         have hnb104 := NB376_394.out
         have hnc104 := NB394_376.out
         have hcz105_0 : wc.cell? ⟨gb376, 0, none⟩ = some (.int .i64 t378) := (blk_cell BK376.out 0).trans rfl
         have hcz105_1 : wc.cell? ⟨gb376, 1, none⟩ = some (.slice Ao20 t379.length co20) := (blk_cell BK376.out 1).trans rfl
         have hfz105_0 := blk_frozen BK376.out 0
         have hfz105_1 := blk_frozen BK376.out 1
         go_wp2_with (first | (go_at_call 43; (with_reducible refine (downpourref03_Apply.calls kj86 t378 _ _ t379 a2 _ _ t386 t411 _ ?side1 ?side2 ?side3 ?side4 A101.out).mono ?_); (case side1 => repeat (first | exact (Kd.N_reads' HO_377001.out).2.2 | (with_reducible refine Kd.C_alloc ?_ _) | (with_reducible refine Kd.C_drewN ?_ _) | (with_reducible refine Kd.C_drew ?_))); (case side2 => exact (Kd.N_reads' HO_377001.out).2.1); (case side3 => repeat (first | exact (Kd.R_reads' HO_3.out).2.2 | (with_reducible refine Kd.C_alloc ?_ _) | (with_reducible refine Kd.C_drewN ?_ _) | (with_reducible refine Kd.C_drew ?_))); (case side4 => exact (Kd.R_reads' HO_3.out).2.1); rintro e w106 ⟨v412, rfl, ho0, hb⟩; have n0_ := am (Kd.R_elder' (pr HO_3) (Kd.R_base ho0) hb); have n1_ := am (Kd.R_elder' (pr HO_11) (Kd.R_base ho0) hb); have n2_ := am (Kd.N_elder' (pn HO_377001) (Kd.R_base ho0) hb); have n3_ := am (Kd.N_elder' (pn HO_378001) (Kd.R_base ho0) hb); have n4_ := am (Kd.N_elder' (pn HO_395001) (Kd.R_base ho0) hb); have n5_ := am (Kd.R_lower (Kd.R_new' (Kd.R_new' ho0 (Kd.R_lt (pr HO_3))) (Kd.R_lt (pr HO_11))) (below_size (pb HB))); have n6_ := bb BK376 hb; have n7_ := bb BK377 hb; have n8_ := bb BK394 hb; have n9_ := am (below_step (pb HB) hb); clear HO_3 HO_11 HO_377001 HO_378001 HO_395001 BK376 BK377 BK394 HB; have HO_3 := n0_; have HO_11 := n1_; have HO_377001 := n2_; have HO_378001 := n3_; have HO_395001 := n4_; have HO413 := n5_; have BK376 := n6_; have BK377 := n7_; have BK394 := n8_; have HB := n9_; clear n0_ n1_ n2_ n3_ n4_ n5_ n6_ n7_ n8_ n9_; (try clear hb); (try clear hb2); (try clear hk); (try clear hi); (try clear ho0); obtain ⟨Ao107, co107, eo107⟩ := Kd.R_slice HO_11.out; subst eo107; obtain ⟨Ao108, co108, eo108⟩ := Kd.R_slice HO413.out; subst eo108) | (go_at_call 42; (with_reducible refine (downpourref02_Texts.calls kj86 _ _ t395 _ _ t411 t414 _ ?side1 ?side2 ?side3 ?side4 A102.out).mono ?_); (case side1 => repeat (first | exact (Kd.R_reads' HO_11.out).2.2 | (with_reducible refine Kd.C_alloc ?_ _) | (with_reducible refine Kd.C_drewN ?_ _) | (with_reducible refine Kd.C_drew ?_))); (case side2 => exact (Kd.R_reads' HO_11.out).2.1); (case side3 => repeat (first | exact (Kd.R_reads' HO413.out).2.2 | (with_reducible refine Kd.C_alloc ?_ _) | (with_reducible refine Kd.C_drewN ?_ _) | (with_reducible refine Kd.C_drew ?_))); (case side4 => exact (Kd.R_reads' HO413.out).2.1); rintro e w' ⟨rfl, ⟨nd, rfl⟩⟩))
         go_ret
         exact ⟨by first | rfl | (simp [errW_none, errW_some] <;> rfl) | (simp [*, errW_none, errW_some] <;> rfl), pb HB⟩
        ·
         rw [if_neg c100] at H
         exact absurd H (by simp)
    ·
     replace c86 := Bool.eq_false_iff.mpr c86
     subst c86
     have H1 : (if t398 = 1 then (some ((t395.length : Int) == 0)) else (none)) = some r := by rw [if_neg (show ¬ (false = true) by decide)] at H; exact H
     clear H
     have H := H1
     clear H1
     by_cases c109 : t398 = 1
     ·
      rw [if_pos c109] at H
      have c109b0 : (t398 == 1) = true := beq_iff_eq.mpr c109
      have c109b1 : (t398 != 1) = false := bne_eq_false_iff_eq.mpr c109
      clear c109
      obtain rfl := Option.some.inj H
      have hnb110 := NB376_377.out
      have hnc110 := NB377_376.out
      have hnb111 := NB376_394.out
      have hnc111 := NB394_376.out
      have hcz112_0 : wc.cell? ⟨gb376, 0, none⟩ = some (.int .i64 t378) := (blk_cell BK376.out 0).trans rfl
      have hcz112_1 : wc.cell? ⟨gb376, 1, none⟩ = some (.slice Ao20 t379.length co20) := (blk_cell BK376.out 1).trans rfl
      have hfz112_0 := blk_frozen BK376.out 0
      have hfz112_1 := blk_frozen BK376.out 1
      go_wp2_with (first | ((with_reducible refine gate_callee (f := 39) rfl ?_); refine goesL_ (some 79) rfl rfl Tryd.func39 (by kernel_rfl) rfl #[.agg #[.int .i64 t378, .slice Ao20 t379.length co20]] rfl (by (try simp only [List.map_toArray, List.map_cons, List.map_nil]); first | done | rfl | (simp only [List.length_drop, List.length_take]; rfl)) ?_; (with_reducible refine (downpourref03_Right.calls kj11 t378 _ _ t379 false _ ?side1 ?side2 A85.out).mono ?_); (case side1 => repeat (first | exact (Kd.N_reads' HO_377001.out).2.2 | (with_reducible refine Kd.C_alloc ?_ _) | (with_reducible refine Kd.C_drewN ?_ _) | (with_reducible refine Kd.C_drew ?_))); (case side2 => exact (Kd.N_reads' HO_377001.out).2.1); rintro e w113 ⟨rfl, hb⟩; refine ⟨_, rfl, ?_⟩; have n0_ := am (Kd.R_below (pr HO_3) hb); have n1_ := am (Kd.R_below (pr HO_11) hb); have n2_ := am (Kd.N_below (pn HO_377001) hb); have n3_ := am (Kd.N_below (pn HO_378001) hb); have n4_ := am (Kd.N_below (pn HO_395001) hb); have n5_ := bb BK376 hb; have n6_ := bb BK377 hb; have n7_ := bb BK394 hb; have n8_ := am (below_step (pb HB) hb); clear HO_3 HO_11 HO_377001 HO_378001 HO_395001 BK376 BK377 BK394 HB; have HO_3 := n0_; have HO_11 := n1_; have HO_377001 := n2_; have HO_378001 := n3_; have HO_395001 := n4_; have BK376 := n5_; have BK377 := n6_; have BK394 := n7_; have HB := n8_; clear n0_ n1_ n2_ n3_ n4_ n5_ n6_ n7_ n8_; (try clear hb); (try clear hb2); (try clear hk); (try clear hi); obtain ⟨Ao114, co114, eo114⟩ := Kd.R_slice HO_11.out; subst eo114))
      go_ret
      exact ⟨by first | rfl | (simp [errW_none, errW_some] <;> rfl) | (simp [*, errW_none, errW_some] <;> rfl), pb HB⟩
     ·
      rw [if_neg c109] at H
      exact absurd H (by simp)
 ·
  replace c11 := Bool.eq_false_iff.mpr c11
  subst c11
  have H1 : (none) = some r := by rw [if_neg (show ¬ (false = true) by decide)] at H; exact H
  clear H
  have H := H1
  clear H1
  exact absurd H (by simp)

end Go.Proofs.YtfcedhejbnoinaaDoor.PM
