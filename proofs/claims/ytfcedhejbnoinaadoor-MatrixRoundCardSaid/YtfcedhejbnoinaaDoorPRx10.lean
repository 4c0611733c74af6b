-- PRINTED by print.py (a twelfth state) out of the translation. Not trusted: Lean checks it.
import Derived.Test.YtfcedhejbnoinaaDoorVSqz
import Derived.Test.YtfcedhejbnoinaaDoorPRx0
import Derived.Test.YtfcedhejbnoinaaDoorPRx1
import Derived.Test.YtfcedhejbnoinaaDoorPRx4
import Derived.Test.YtfcedhejbnoinaaDoorPRx5
import Derived.Test.YtfcedhejbnoinaaDoorPRx7
import Derived.Test.YtfcedhejbnoinaaDoorPRx8
import Derived.Test.YtfcedhejbnoinaaDoorPRx9
namespace Go.Proofs.YtfcedhejbnoinaaDoor.PR
open Go.RowKit Go.Proofs.YtfcedhejbnoinaaDoorW.PrintWords Go.Proofs.YtfcedhejbnoinaaDoorW.PrintLast Go.Proofs.YtfcedhejbnoinaaDoorW.PrintMore
open Bool renaming true → T, false → F
open List renaming setIfInBounds_toArray → q1, set_cons_zero → q2, set_cons_succ → q3
attribute [local go_sem] run_store_func max2_int min2_int max_two min_two max_three min_three max_four min_four   -- for this text's walks alone
set_option linter.unusedVariables false
set_option linter.unusedSimpArgs false

/-! ### downpourlaw03_MatrixRound: function 8 -/
mutual
def downpourlaw03_MatrixRound.j0 : Nat → Int → List ByteArray → Bool → Int → List (S25) → Int → List (S25) → Int → List (S25) → Option (Bool)
 | 0, _, _, _, _, _, _, _, _, _ => none
 | k + 1, x2, x3, x92, x353000, x353001, x354000, x354001, x371000, x371001 => if x92 = true then (none) else ((matrix_Mul.f k x353000 x353001 x354000 x354001).bind fun bt394 => (if bt394.2.2 = 0 then ((matrix_Turn.f k x354000 x354001).bind fun bt401 => ((matrix_Turn.f k bt394.1 bt394.2.1).bind fun bt407 => ((matrix_Mul.f k bt401.1 bt401.2.1 x371000 x371001).bind fun bt413 => (if bt401.2.2 = 0 then (if bt407.2.2 = 0 then (if bt413.2.2 = 0 then ((downpourref03_Same.f k bt407.1 bt407.2.1 bt413.1 bt413.2.1).bind fun t419 => (downpourlaw03_MatrixRound.j1 k x2 x3 (!t419) x353000 x353001 x354000 x354001 bt394.1 bt394.2.1)) else (downpourlaw03_MatrixRound.j1 k x2 x3 true x353000 x353001 x354000 x354001 bt394.1 bt394.2.1)) else (downpourlaw03_MatrixRound.j1 k x2 x3 true x353000 x353001 x354000 x354001 bt394.1 bt394.2.1)) else (downpourlaw03_MatrixRound.j1 k x2 x3 true x353000 x353001 x354000 x354001 bt394.1 bt394.2.1))))) else ((downpourref03_Same.f k bt394.1 bt394.2.1 0 ([] : List (S25))).bind fun t400 => (some t400))))
def downpourlaw03_MatrixRound.j1 : Nat → Int → List ByteArray → Bool → Int → List (S25) → Int → List (S25) → Int → List (S25) → Option (Bool)
 | 0, _, _, _, _, _, _, _, _, _ => none
 | k + 1, x2, x3, x135, x353000, x353001, x354000, x354001, x400000, x400001 => if x135 = true then (none) else ((matrix_Apply.f k x354000 x354001 x2 x3).bind fun bt420 => ((matrix_Apply.f k x400000 x400001 x2 x3).bind fun bt424 => (if bt420.2 = 0 then ((matrix_Apply.f k x353000 x353001 x2 bt420.1).bind fun bt428 => (if bt424.2 = 0 then (if bt428.2 = 0 then ((downpourref02_Texts.f k bt424.1 bt428.1).bind fun t432 => (some t432)) else (none)) else (none))) else (if bt424.2 = bt420.2 then (some ((wrap64 ((bt420.1.length : Int) + (bt424.1.length : Int))) == 0)) else (none)))))
end
def downpourlaw03_MatrixRound.f (k : Nat) (a0_0 : Int) (l0_1 : List (S25)) (a1_0 : Int) (l1_1 : List (S25)) (a2 : Int) (l3 : List ByteArray) : Option (Bool) := (downpourlaw03_few.f k a0_0 l0_1).bind fun bt354 => ((downpourlaw03_few.f k a1_0 l1_1).bind fun bt358 => ((downpourlaw03_blocks.f k l3).bind fun t362 => ((matrix_Turn.f k bt354.1 bt354.2).bind fun bt365 => (if bt365.2.2 = 0 then ((matrix_Turn.f k bt365.1 bt365.2.1).bind fun bt373 => ((matrix_One.f k bt354.1).bind fun bt379 => ((matrix_Mul.f k bt354.1 bt354.2 bt379.1 bt379.2.1).bind fun bt385 => (if bt373.2.2 = 0 then (if bt379.2.2 = 0 then (if bt385.2.2 = 0 then ((downpourref03_Same.f k bt373.1 bt373.2.1 bt354.1 bt354.2).bind fun t391 => (if t391 = true then ((downpourref03_Same.f k bt385.1 bt385.2.1 bt354.1 bt354.2).bind fun t392 => (if t392 = true then ((downpourlaw03_alive.f k).bind fun t393 => (downpourlaw03_MatrixRound.j0 k a2 t362 (!t393) bt354.1 bt354.2 bt358.1 bt358.2 bt365.1 bt365.2.1)) else (downpourlaw03_MatrixRound.j0 k a2 t362 true bt354.1 bt354.2 bt358.1 bt358.2 bt365.1 bt365.2.1))) else (downpourlaw03_MatrixRound.j0 k a2 t362 true bt354.1 bt354.2 bt358.1 bt358.2 bt365.1 bt365.2.1))) else (downpourlaw03_MatrixRound.j0 k a2 t362 true bt354.1 bt354.2 bt358.1 bt358.2 bt365.1 bt365.2.1)) else (downpourlaw03_MatrixRound.j0 k a2 t362 true bt354.1 bt354.2 bt358.1 bt358.2 bt365.1 bt365.2.1)) else (downpourlaw03_MatrixRound.j0 k a2 t362 true bt354.1 bt354.2 bt358.1 bt358.2 bt365.1 bt365.2.1))))) else ((downpourlaw03_alive.f k).bind fun t371 => (if t371 = true then ((downpourref03_Same.f k bt365.1 bt365.2.1 0 ([] : List (S25))).bind fun t372 => (some t372)) else (none)))))))
theorem downpourlaw03_MatrixRound.mono_l : ∀ k, (∀ y0 y1 y2 y3 y4 y5 y6 y7 y8, LeO (downpourlaw03_MatrixRound.j0 k y0 y1 y2 y3 y4 y5 y6 y7 y8) (downpourlaw03_MatrixRound.j0 (k + 1) y0 y1 y2 y3 y4 y5 y6 y7 y8)) ∧ (∀ y0 y1 y2 y3 y4 y5 y6 y7 y8, LeO (downpourlaw03_MatrixRound.j1 k y0 y1 y2 y3 y4 y5 y6 y7 y8) (downpourlaw03_MatrixRound.j1 (k + 1) y0 y1 y2 y3 y4 y5 y6 y7 y8))
 | 0 => ⟨fun _ _ _ _ _ _ _ _ _ r h => by simp [downpourlaw03_MatrixRound.j0] at h, fun _ _ _ _ _ _ _ _ _ r h => by simp [downpourlaw03_MatrixRound.j1] at h⟩
 | k + 1 => by
  obtain ⟨ih0, ih1⟩ := downpourlaw03_MatrixRound.mono_l k
  refine ⟨?_, ?_⟩
  ·
   intro y0 y1 y2 y3 y4 y5 y6 y7 y8
   unfold downpourlaw03_MatrixRound.j0
   repeat' first
   | (with_reducible exact ih0 _ _ _ _ _ _ _ _ _)
   | (with_reducible exact ih1 _ _ _ _ _ _ _ _ _)
   | (with_reducible exact downpourlaw03_alive.mono _)
   | (with_reducible exact downpourlaw03_blocks.mono _ _)
   | (with_reducible exact downpourlaw03_few.mono _ _ _)
   | (with_reducible exact downpourref02_Texts.mono _ _ _)
   | (with_reducible exact downpourref03_Same.mono _ _ _ _ _)
   | (with_reducible exact matrix_Apply.mono _ _ _ _ _)
   | (with_reducible exact matrix_Mul.mono _ _ _ _ _)
   | (with_reducible exact matrix_One.mono _ _)
   | (with_reducible exact matrix_Turn.mono _ _ _)
   | (with_reducible exact LeO.refl _)
   | (with_reducible exact LeO.none _)
   | (with_reducible refine LeO.ite ?_ ?_)
   | (with_reducible refine LeO.bind ?_ (fun _ => ?_))
   | exact ih0 _ _ _ _ _ _ _ _ _
   | exact ih1 _ _ _ _ _ _ _ _ _
   | exact downpourlaw03_alive.mono _
   | exact downpourlaw03_blocks.mono _ _
   | exact downpourlaw03_few.mono _ _ _
   | exact downpourref02_Texts.mono _ _ _
   | exact downpourref03_Same.mono _ _ _ _ _
   | exact matrix_Apply.mono _ _ _ _ _
   | exact matrix_Mul.mono _ _ _ _ _
   | exact matrix_One.mono _ _
   | exact matrix_Turn.mono _ _ _
   | exact LeO.none _
   | refine LeO.ite ?_ ?_
   | refine LeO.bind ?_ (fun _ => ?_)
  ·
   intro y0 y1 y2 y3 y4 y5 y6 y7 y8
   unfold downpourlaw03_MatrixRound.j1
   repeat' first
   | (with_reducible exact ih0 _ _ _ _ _ _ _ _ _)
   | (with_reducible exact ih1 _ _ _ _ _ _ _ _ _)
   | (with_reducible exact downpourlaw03_alive.mono _)
   | (with_reducible exact downpourlaw03_blocks.mono _ _)
   | (with_reducible exact downpourlaw03_few.mono _ _ _)
   | (with_reducible exact downpourref02_Texts.mono _ _ _)
   | (with_reducible exact downpourref03_Same.mono _ _ _ _ _)
   | (with_reducible exact matrix_Apply.mono _ _ _ _ _)
   | (with_reducible exact matrix_Mul.mono _ _ _ _ _)
   | (with_reducible exact matrix_One.mono _ _)
   | (with_reducible exact matrix_Turn.mono _ _ _)
   | (with_reducible exact LeO.refl _)
   | (with_reducible exact LeO.none _)
   | (with_reducible refine LeO.ite ?_ ?_)
   | (with_reducible refine LeO.bind ?_ (fun _ => ?_))
   | exact ih0 _ _ _ _ _ _ _ _ _
   | exact ih1 _ _ _ _ _ _ _ _ _
   | exact downpourlaw03_alive.mono _
   | exact downpourlaw03_blocks.mono _ _
   | exact downpourlaw03_few.mono _ _ _
   | exact downpourref02_Texts.mono _ _ _
   | exact downpourref03_Same.mono _ _ _ _ _
   | exact matrix_Apply.mono _ _ _ _ _
   | exact matrix_Mul.mono _ _ _ _ _
   | exact matrix_One.mono _ _
   | exact matrix_Turn.mono _ _ _
   | exact LeO.none _
   | refine LeO.ite ?_ ?_
   | refine LeO.bind ?_ (fun _ => ?_)
theorem downpourlaw03_MatrixRound.mono : ∀ a0 a1 a2 a3 a4 a5 k, LeO (downpourlaw03_MatrixRound.f k a0 a1 a2 a3 a4 a5) (downpourlaw03_MatrixRound.f (k + 1) a0 a1 a2 a3 a4 a5) := by
 intro a0 a1 a2 a3 a4 a5 k
 obtain ⟨ih0, ih1⟩ := downpourlaw03_MatrixRound.mono_l k
 unfold downpourlaw03_MatrixRound.f
 repeat' first
   | (with_reducible exact ih0 _ _ _ _ _ _ _ _ _)
   | (with_reducible exact ih1 _ _ _ _ _ _ _ _ _)
   | (with_reducible exact downpourlaw03_alive.mono _)
   | (with_reducible exact downpourlaw03_blocks.mono _ _)
   | (with_reducible exact downpourlaw03_few.mono _ _ _)
   | (with_reducible exact downpourref02_Texts.mono _ _ _)
   | (with_reducible exact downpourref03_Same.mono _ _ _ _ _)
   | (with_reducible exact matrix_Apply.mono _ _ _ _ _)
   | (with_reducible exact matrix_Mul.mono _ _ _ _ _)
   | (with_reducible exact matrix_One.mono _ _)
   | (with_reducible exact matrix_Turn.mono _ _ _)
   | (with_reducible exact LeO.refl _)
   | (with_reducible exact LeO.none _)
   | (with_reducible refine LeO.ite ?_ ?_)
   | (with_reducible refine LeO.bind ?_ (fun _ => ?_))
   | exact ih0 _ _ _ _ _ _ _ _ _
   | exact ih1 _ _ _ _ _ _ _ _ _
   | exact downpourlaw03_alive.mono _
   | exact downpourlaw03_blocks.mono _ _
   | exact downpourlaw03_few.mono _ _ _
   | exact downpourref02_Texts.mono _ _ _
   | exact downpourref03_Same.mono _ _ _ _ _
   | exact matrix_Apply.mono _ _ _ _ _
   | exact matrix_Mul.mono _ _ _ _ _
   | exact matrix_One.mono _ _
   | exact matrix_Turn.mono _ _ _
   | exact LeO.none _
   | refine LeO.ite ?_ ?_
   | refine LeO.bind ?_ (fun _ => ?_)
def downpourlaw03_MatrixRound.T1 : Bool × List (List Nat × List Nat) := (true, [([], []), ([0], [0]), ([], []), ([2, 1], [2]), ([], []), ([4, 3], [4]), ([1, 5, 0, 1], [1]), ([3, 6, 0, 1, 2, 3, 6], [3]), ([5, 7, 0, 1, 2, 3, 4, 5, 6, 7], [4, 5])])
def downpourlaw03_MatrixRound.B1 : List Nat := [0, 1, 0, 7, 0, 31, 63, 127, 255]
theorem downpourlaw03_MatrixRound.tab1 : rtab .any (opsOf Tryd.f8 1) = downpourlaw03_MatrixRound.T1 := by kernel_rfl
theorem downpourlaw03_MatrixRound.bits1 : waitsOk downpourlaw03_MatrixRound.T1.2 downpourlaw03_MatrixRound.B1 = true := by kernel_rfl
set_option maxHeartbeats 8000000 in
set_option maxRecDepth 100000 in
theorem downpourlaw03_MatrixRound.calls (k : Nat) (a0_0 : Int) (A0_1 : Option Addr) (c0_1 : Nat) (l0_1 : List (S25)) (a1_0 : Int) (A1_1 : Option Addr) (c1_1 : Nat) (l1_1 : List (S25)) (a2 : Int) (A3 : Option Addr) (c3 : Nat) (l3 : List ByteArray) (r : Bool) (w : World) (hT_ : TabOk w) (hr0_1 : Kd.C k25 w A0_1 l0_1.length l0_1) (hc0_1 : l0_1.length ≤ c0_1) (hr1_1 : Kd.C k25 w A1_1 l1_1.length l1_1) (hc1_1 : l1_1.length ≤ c1_1) (hr3 : Kd.C Kd.string w A3 l3.length l3) (hc3 : l3.length ≤ c3) (h : downpourlaw03_MatrixRound.f k a0_0 l0_1 a1_0 l1_1 a2 l3 = some r) :
  Calls Tryd.prog 8 #[.agg #[.int .i64 a0_0, .slice A0_1 l0_1.length c0_1], .agg #[.int .i64 a1_0, .slice A1_1 l1_1.length c1_1], .int .i64 a2, .slice A3 l3.length c3] w fun e w' => e = .returned (.bool r) ∧ Below w.heap.size w w' := by
 have hu55 := Tryd.underlying55
 have HR0_1 := Aside0.mk hr0_1
 have HC0_1 := Aside0.mk hc0_1
 clear hr0_1 hc0_1
 have HR1_1 := Aside0.mk hr1_1
 have HC1_1 := Aside0.mk hc1_1
 clear hr1_1 hc1_1
 have HR3 := Aside0.mk hr3
 have HC3 := Aside0.mk hc3
 clear hr3 hc3
 have HT := Aside0.mk hT_
 clear hT_
 have HB := am (Below.refl w.heap.size w)
 have H : ((downpourlaw03_few.f k a0_0 l0_1).bind fun bt354 => ((downpourlaw03_few.f k a1_0 l1_1).bind fun bt358 => ((downpourlaw03_blocks.f k l3).bind fun t362 => ((matrix_Turn.f k bt354.1 bt354.2).bind fun bt365 => (if bt365.2.2 = 0 then ((matrix_Turn.f k bt365.1 bt365.2.1).bind fun bt373 => ((matrix_One.f k bt354.1).bind fun bt379 => ((matrix_Mul.f k bt354.1 bt354.2 bt379.1 bt379.2.1).bind fun bt385 => (if bt373.2.2 = 0 then (if bt379.2.2 = 0 then (if bt385.2.2 = 0 then ((downpourref03_Same.f k bt373.1 bt373.2.1 bt354.1 bt354.2).bind fun t391 => (if t391 = true then ((downpourref03_Same.f k bt385.1 bt385.2.1 bt354.1 bt354.2).bind fun t392 => (if t392 = true then ((downpourlaw03_alive.f k).bind fun t393 => (downpourlaw03_MatrixRound.j0 k a2 t362 (!t393) bt354.1 bt354.2 bt358.1 bt358.2 bt365.1 bt365.2.1)) else (downpourlaw03_MatrixRound.j0 k a2 t362 true bt354.1 bt354.2 bt358.1 bt358.2 bt365.1 bt365.2.1))) else (downpourlaw03_MatrixRound.j0 k a2 t362 true bt354.1 bt354.2 bt358.1 bt358.2 bt365.1 bt365.2.1))) else (downpourlaw03_MatrixRound.j0 k a2 t362 true bt354.1 bt354.2 bt358.1 bt358.2 bt365.1 bt365.2.1)) else (downpourlaw03_MatrixRound.j0 k a2 t362 true bt354.1 bt354.2 bt358.1 bt358.2 bt365.1 bt365.2.1)) else (downpourlaw03_MatrixRound.j0 k a2 t362 true bt354.1 bt354.2 bt358.1 bt358.2 bt365.1 bt365.2.1))))) else ((downpourlaw03_alive.f k).bind fun t371 => (if t371 = true then ((downpourref03_Same.f k bt365.1 bt365.2.1 0 ([] : List (S25))).bind fun t372 => (some t372)) else (none)))))))) = some r := h
 clear h
 replace H := Option.bind_eq_some_iff.mp H
 obtain ⟨⟨t354, t355⟩, A50, H⟩ := H
 replace H : ((downpourlaw03_few.f k a1_0 l1_1).bind fun bt358 => ((downpourlaw03_blocks.f k l3).bind fun t362 => ((matrix_Turn.f k t354 t355).bind fun bt365 => (if bt365.2.2 = 0 then ((matrix_Turn.f k bt365.1 bt365.2.1).bind fun bt373 => ((matrix_One.f k t354).bind fun bt379 => ((matrix_Mul.f k t354 t355 bt379.1 bt379.2.1).bind fun bt385 => (if bt373.2.2 = 0 then (if bt379.2.2 = 0 then (if bt385.2.2 = 0 then ((downpourref03_Same.f k bt373.1 bt373.2.1 t354 t355).bind fun t391 => (if t391 = true then ((downpourref03_Same.f k bt385.1 bt385.2.1 t354 t355).bind fun t392 => (if t392 = true then ((downpourlaw03_alive.f k).bind fun t393 => (downpourlaw03_MatrixRound.j0 k a2 t362 (!t393) t354 t355 bt358.1 bt358.2 bt365.1 bt365.2.1)) else (downpourlaw03_MatrixRound.j0 k a2 t362 true t354 t355 bt358.1 bt358.2 bt365.1 bt365.2.1))) else (downpourlaw03_MatrixRound.j0 k a2 t362 true t354 t355 bt358.1 bt358.2 bt365.1 bt365.2.1))) else (downpourlaw03_MatrixRound.j0 k a2 t362 true t354 t355 bt358.1 bt358.2 bt365.1 bt365.2.1)) else (downpourlaw03_MatrixRound.j0 k a2 t362 true t354 t355 bt358.1 bt358.2 bt365.1 bt365.2.1)) else (downpourlaw03_MatrixRound.j0 k a2 t362 true t354 t355 bt358.1 bt358.2 bt365.1 bt365.2.1))))) else ((downpourlaw03_alive.f k).bind fun t371 => (if t371 = true then ((downpourref03_Same.f k bt365.1 bt365.2.1 0 ([] : List (S25))).bind fun t372 => (some t372)) else (none))))))) = some r := H
 have A5 := Aside0.mk A50
 clear A50
 replace H := Option.bind_eq_some_iff.mp H
 obtain ⟨⟨t358, t359⟩, A60, H⟩ := H
 replace H : ((downpourlaw03_blocks.f k l3).bind fun t362 => ((matrix_Turn.f k t354 t355).bind fun bt365 => (if bt365.2.2 = 0 then ((matrix_Turn.f k bt365.1 bt365.2.1).bind fun bt373 => ((matrix_One.f k t354).bind fun bt379 => ((matrix_Mul.f k t354 t355 bt379.1 bt379.2.1).bind fun bt385 => (if bt373.2.2 = 0 then (if bt379.2.2 = 0 then (if bt385.2.2 = 0 then ((downpourref03_Same.f k bt373.1 bt373.2.1 t354 t355).bind fun t391 => (if t391 = true then ((downpourref03_Same.f k bt385.1 bt385.2.1 t354 t355).bind fun t392 => (if t392 = true then ((downpourlaw03_alive.f k).bind fun t393 => (downpourlaw03_MatrixRound.j0 k a2 t362 (!t393) t354 t355 t358 t359 bt365.1 bt365.2.1)) else (downpourlaw03_MatrixRound.j0 k a2 t362 true t354 t355 t358 t359 bt365.1 bt365.2.1))) else (downpourlaw03_MatrixRound.j0 k a2 t362 true t354 t355 t358 t359 bt365.1 bt365.2.1))) else (downpourlaw03_MatrixRound.j0 k a2 t362 true t354 t355 t358 t359 bt365.1 bt365.2.1)) else (downpourlaw03_MatrixRound.j0 k a2 t362 true t354 t355 t358 t359 bt365.1 bt365.2.1)) else (downpourlaw03_MatrixRound.j0 k a2 t362 true t354 t355 t358 t359 bt365.1 bt365.2.1))))) else ((downpourlaw03_alive.f k).bind fun t371 => (if t371 = true then ((downpourref03_Same.f k bt365.1 bt365.2.1 0 ([] : List (S25))).bind fun t372 => (some t372)) else (none)))))) = some r := H
 have A6 := Aside0.mk A60
 clear A60
 replace H := Option.bind_eq_some_iff.mp H
 obtain ⟨t362, A70, H⟩ := H
 replace H : ((matrix_Turn.f k t354 t355).bind fun bt365 => (if bt365.2.2 = 0 then ((matrix_Turn.f k bt365.1 bt365.2.1).bind fun bt373 => ((matrix_One.f k t354).bind fun bt379 => ((matrix_Mul.f k t354 t355 bt379.1 bt379.2.1).bind fun bt385 => (if bt373.2.2 = 0 then (if bt379.2.2 = 0 then (if bt385.2.2 = 0 then ((downpourref03_Same.f k bt373.1 bt373.2.1 t354 t355).bind fun t391 => (if t391 = true then ((downpourref03_Same.f k bt385.1 bt385.2.1 t354 t355).bind fun t392 => (if t392 = true then ((downpourlaw03_alive.f k).bind fun t393 => (downpourlaw03_MatrixRound.j0 k a2 t362 (!t393) t354 t355 t358 t359 bt365.1 bt365.2.1)) else (downpourlaw03_MatrixRound.j0 k a2 t362 true t354 t355 t358 t359 bt365.1 bt365.2.1))) else (downpourlaw03_MatrixRound.j0 k a2 t362 true t354 t355 t358 t359 bt365.1 bt365.2.1))) else (downpourlaw03_MatrixRound.j0 k a2 t362 true t354 t355 t358 t359 bt365.1 bt365.2.1)) else (downpourlaw03_MatrixRound.j0 k a2 t362 true t354 t355 t358 t359 bt365.1 bt365.2.1)) else (downpourlaw03_MatrixRound.j0 k a2 t362 true t354 t355 t358 t359 bt365.1 bt365.2.1))))) else ((downpourlaw03_alive.f k).bind fun t371 => (if t371 = true then ((downpourref03_Same.f k bt365.1 bt365.2.1 0 ([] : List (S25))).bind fun t372 => (some t372)) else (none))))) = some r := H
 have A7 := Aside0.mk A70
 clear A70
 replace H := Option.bind_eq_some_iff.mp H
 obtain ⟨⟨t365, t366, t369⟩, A80, H⟩ := H
 replace H : (if t369 = 0 then ((matrix_Turn.f k t365 t366).bind fun bt373 => ((matrix_One.f k t354).bind fun bt379 => ((matrix_Mul.f k t354 t355 bt379.1 bt379.2.1).bind fun bt385 => (if bt373.2.2 = 0 then (if bt379.2.2 = 0 then (if bt385.2.2 = 0 then ((downpourref03_Same.f k bt373.1 bt373.2.1 t354 t355).bind fun t391 => (if t391 = true then ((downpourref03_Same.f k bt385.1 bt385.2.1 t354 t355).bind fun t392 => (if t392 = true then ((downpourlaw03_alive.f k).bind fun t393 => (downpourlaw03_MatrixRound.j0 k a2 t362 (!t393) t354 t355 t358 t359 t365 t366)) else (downpourlaw03_MatrixRound.j0 k a2 t362 true t354 t355 t358 t359 t365 t366))) else (downpourlaw03_MatrixRound.j0 k a2 t362 true t354 t355 t358 t359 t365 t366))) else (downpourlaw03_MatrixRound.j0 k a2 t362 true t354 t355 t358 t359 t365 t366)) else (downpourlaw03_MatrixRound.j0 k a2 t362 true t354 t355 t358 t359 t365 t366)) else (downpourlaw03_MatrixRound.j0 k a2 t362 true t354 t355 t358 t359 t365 t366))))) else ((downpourlaw03_alive.f k).bind fun t371 => (if t371 = true then ((downpourref03_Same.f k t365 t366 0 ([] : List (S25))).bind fun t372 => (some t372)) else (none)))) = some r := H
 have A8 := Aside0.mk A80
 clear A80
 by_cases c9 : t369 = 0
 ·
  rw [if_pos c9] at H
  have c9b0 : (t369 == 0) = true := beq_iff_eq.mpr c9
  have c9b1 : (t369 != 0) = false := bne_eq_false_iff_eq.mpr c9
  clear c9
  replace H := Option.bind_eq_some_iff.mp H
  obtain ⟨⟨t373, t374, t377⟩, A100, H⟩ := H
  replace H : ((matrix_One.f k t354).bind fun bt379 => ((matrix_Mul.f k t354 t355 bt379.1 bt379.2.1).bind fun bt385 => (if t377 = 0 then (if bt379.2.2 = 0 then (if bt385.2.2 = 0 then ((downpourref03_Same.f k t373 t374 t354 t355).bind fun t391 => (if t391 = true then ((downpourref03_Same.f k bt385.1 bt385.2.1 t354 t355).bind fun t392 => (if t392 = true then ((downpourlaw03_alive.f k).bind fun t393 => (downpourlaw03_MatrixRound.j0 k a2 t362 (!t393) t354 t355 t358 t359 t365 t366)) else (downpourlaw03_MatrixRound.j0 k a2 t362 true t354 t355 t358 t359 t365 t366))) else (downpourlaw03_MatrixRound.j0 k a2 t362 true t354 t355 t358 t359 t365 t366))) else (downpourlaw03_MatrixRound.j0 k a2 t362 true t354 t355 t358 t359 t365 t366)) else (downpourlaw03_MatrixRound.j0 k a2 t362 true t354 t355 t358 t359 t365 t366)) else (downpourlaw03_MatrixRound.j0 k a2 t362 true t354 t355 t358 t359 t365 t366)))) = some r := H
  have A10 := Aside0.mk A100
  clear A100
  replace H := Option.bind_eq_some_iff.mp H
  obtain ⟨⟨t379, t380, t383⟩, A110, H⟩ := H
  replace H : ((matrix_Mul.f k t354 t355 t379 t380).bind fun bt385 => (if t377 = 0 then (if t383 = 0 then (if bt385.2.2 = 0 then ((downpourref03_Same.f k t373 t374 t354 t355).bind fun t391 => (if t391 = true then ((downpourref03_Same.f k bt385.1 bt385.2.1 t354 t355).bind fun t392 => (if t392 = true then ((downpourlaw03_alive.f k).bind fun t393 => (downpourlaw03_MatrixRound.j0 k a2 t362 (!t393) t354 t355 t358 t359 t365 t366)) else (downpourlaw03_MatrixRound.j0 k a2 t362 true t354 t355 t358 t359 t365 t366))) else (downpourlaw03_MatrixRound.j0 k a2 t362 true t354 t355 t358 t359 t365 t366))) else (downpourlaw03_MatrixRound.j0 k a2 t362 true t354 t355 t358 t359 t365 t366)) else (downpourlaw03_MatrixRound.j0 k a2 t362 true t354 t355 t358 t359 t365 t366)) else (downpourlaw03_MatrixRound.j0 k a2 t362 true t354 t355 t358 t359 t365 t366))) = some r := H
  have A11 := Aside0.mk A110
  clear A110
  replace H := Option.bind_eq_some_iff.mp H
  obtain ⟨⟨t385, t386, t389⟩, A120, H⟩ := H
  replace H : (if t377 = 0 then (if t383 = 0 then (if t389 = 0 then ((downpourref03_Same.f k t373 t374 t354 t355).bind fun t391 => (if t391 = true then ((downpourref03_Same.f k t385 t386 t354 t355).bind fun t392 => (if t392 = true then ((downpourlaw03_alive.f k).bind fun t393 => (downpourlaw03_MatrixRound.j0 k a2 t362 (!t393) t354 t355 t358 t359 t365 t366)) else (downpourlaw03_MatrixRound.j0 k a2 t362 true t354 t355 t358 t359 t365 t366))) else (downpourlaw03_MatrixRound.j0 k a2 t362 true t354 t355 t358 t359 t365 t366))) else (downpourlaw03_MatrixRound.j0 k a2 t362 true t354 t355 t358 t359 t365 t366)) else (downpourlaw03_MatrixRound.j0 k a2 t362 true t354 t355 t358 t359 t365 t366)) else (downpourlaw03_MatrixRound.j0 k a2 t362 true t354 t355 t358 t359 t365 t366)) = some r := H
  have A12 := Aside0.mk A120
  clear A120
  have HC13 := Aside0.mk H
  clear H
  go_enter Tryd.func8, Tryd.ntmps8
  try go_wp2_with (first | ((with_reducible refine gate_dst (N := 4) rfl ?_); (try (refine gate_guard (by rfl) ?_; dsimp only)); refine box_event ?hg (N := 4) ?hd (cs := #[.int .i64 a0_0, .slice A0_1 l0_1.length c0_1]) (t := 55) ?hr ?_; (case hd => rfl); (case hg => rfl); (case hr => first | (go_simp; done) | (go_simp; rfl)); intro gb352 hg w14 hbox hb; have n0_ := am (below_step (pb HB) hb); have n1_ := am (hbox); have n2_ := am ((by rw [hg]; exact (below_size (pb HB)) : w.heap.size ≤ gb352)); have n3_ := am ((by rw [hg]; exact (below_size (pb HB)) : w.heap.size ≤ gb352)); clear HB; have HB := n0_; have BK352 := n1_; have GW352 := n2_; have GE352 := n3_; clear n0_ n1_ n2_ n3_ hb hbox hg) | ((with_reducible refine gate_dst (N := 5) rfl ?_); (try (refine gate_guard (by rfl) ?_; dsimp only)); refine box_event ?hg (N := 5) ?hd (cs := #[.int .i64 a1_0, .slice A1_1 l1_1.length c1_1]) (t := 55) ?hr ?_; (case hd => rfl); (case hg => rfl); (case hr => first | (go_simp; done) | (go_simp; rfl)); intro gb353 hg w15 hbox hb; have n0_ := bb BK352 hb; have n1_ := am (below_step (pb HB) hb); have n2_ := am (hbox); have n3_ := am ((by rw [hg]; exact (below_size (pb HB)) : w.heap.size ≤ gb353)); have n4_ := am ((by rw [hg]; exact (below_size (pb HB)) : w.heap.size ≤ gb353)); have n5_ := am ((by rw [hg]; exact Nat.ne_of_lt (bl BK352) : gb352 ≠ gb353)); have n6_ := am ((by rw [hg]; exact Nat.ne_of_gt (bl BK352) : gb353 ≠ gb352)); clear BK352 HB; have BK352 := n0_; have HB := n1_; have BK353 := n2_; have GW353 := n3_; have GE353 := n4_; have NB352_353 := n5_; have NB353_352 := n6_; clear n0_ n1_ n2_ n3_ n4_ n5_ n6_ hb hbox hg))
  have n0_ := am (blk_drew BK352.out)
  have n1_ := am (blk_drew BK353.out)
  have n2_ := am (below_drew1 HB.out)
  clear BK352
  clear BK353
  clear HB
  have BK352 := n0_
  have BK353 := n1_
  have HB := n2_
  clear n0_ n1_ n2_
  refine start_ (n := 9) (S := fun w' => w'.cell? ⟨gb352, 0, none⟩ = some (.int .i64 a0_0) ∧ w'.cell? ⟨gb352, 1, none⟩ = some (.slice A0_1 l0_1.length c0_1) ∧ w'.cell? ⟨gb353, 0, none⟩ = some (.int .i64 a1_0) ∧ w'.cell? ⟨gb353, 1, none⟩ = some (.slice A1_1 l1_1.length c1_1)) (ds := [6, 7]) #[F, F, F, F, F, F, F, F, F] (by kernel_rfl) rfl rfl ⟨(blk_cell BK352.out 0).trans rfl, (blk_cell BK352.out 1).trans rfl, (blk_cell BK353.out 0).trans rfl, (blk_cell BK353.out 1).trans rfl⟩ (fun hHeld => ?_); refine with_tabW downpourlaw03_MatrixRound.tab1 downpourlaw03_MatrixRound.bits1 (fun HT_ HW_ => ?_)
  generalize w15.drew = w16 at BK352 BK353 HB hHeld ⊢
  refine pure_ (i := 4) (N := some 35) (v := ?_) (a' := ?_) #[F, F, F, F, T, F, F, F, F] rfl rfl (any_of HT_.out (by kernel_rfl)) (fun _ _ _ h => h) (Or.inl ⟨by rfl, ?_⟩) ?_ ?_
  rotate_left
  ·
   intro w'
   go_simp
   with_reducible rfl
  rotate_left
  ·
   simp only [Act.put, q1, q2, q3, i64_w, i32_w]
   rfl
  refine take_ (i := 0) (N := some 31) (v := ?_) (a' := ?_) #[T, F, F, F, T, F, F, F, F] rfl rfl (take_ofW HT_.out HW_.out (by kernel_rfl)) (fun _ _ _ h => h) (Or.inl ⟨by rfl, ?_⟩) hHeld ?_ ?_
  rotate_left
  ·
   rintro w' ⟨s0, s1, s2, s3⟩
   go_simp
   with_reducible rfl
  rotate_left
  ·
   simp only [Act.put, q1, q2, q3, i64_w, i32_w]
   rfl
  refine take_ (i := 2) (N := some 33) (v := ?_) (a' := ?_) #[T, F, T, F, T, F, F, F, F] rfl rfl (take_ofW HT_.out HW_.out (by kernel_rfl)) (fun _ _ _ h => h) (Or.inl ⟨by rfl, ?_⟩) hHeld ?_ ?_
  rotate_left
  ·
   rintro w' ⟨s0, s1, s2, s3⟩
   go_simp
   with_reducible rfl
  rotate_left
  ·
   simp only [Act.put, q1, q2, q3, i64_w, i32_w]
   rfl
  refine one_ (i := 1) (N := some 32) #[T, T, T, F, T, F, F, F, F] rfl rfl (one_of HT_.out (by kernel_rfl)) (by decide) (fun K hK => ?_)
  refine goes_ Tryd.func34 (by kernel_rfl) rfl #[.agg #[.int .i64 a0_0, .slice A0_1 l0_1.length c0_1]] (by rfl) rfl rfl (by (try simp only [List.map_toArray, List.map_cons, List.map_nil]); first | done | rfl | (simp only [List.length_drop, List.length_take]; rfl)) ?_
  with_reducible refine (downpourlaw03_few.calls k a0_0 (fun k_ => k_ < w.heap.size) _ _ l0_1 t354 t355 _ ?side1 A5.out).mono ?_
  (case side1 => exact Kd.V_mk HC0_1.out (Kd.F_below (Kd.C_F k25_heap HR0_1.out) (pb HB)))
  rintro e w17 ⟨v356, rfl, ho0, hb⟩
  refine ⟨_, rfl, ?_⟩
  have n0_ := am (Kd.N_lower (Kd.N_mono (ok' := fun k_ => k_ ≠ gb352 ∧ k_ ≠ gb353) ho0 (fun k_ hk_ => ⟨Or.elim hk_ (fun hs_ => fun e_ => Nat.not_le.2 hs_ (by rw [e_]; exact GW352.out)) (fun hn_ => (Kd.freshB (g := gb352) (o := .cells #[.int .i64 a0_0, .slice A0_1 l0_1.length c0_1] 55 (0, 0)) (pk BK352) k_ hn_)), Or.elim hk_ (fun hs_ => fun e_ => Nat.not_le.2 hs_ (by rw [e_]; exact GW353.out)) (fun hn_ => (Kd.freshB (g := gb353) (o := .cells #[.int .i64 a1_0, .slice A1_1 l1_1.length c1_1] 55 (0, 0)) (pk BK353) k_ hn_))⟩)) (below_size (pb HB)))
  have n1_ := bb BK352 hb
  have n2_ := bb BK353 hb
  have n3_ := am (below_step (pb HB) hb)
  clear BK352
  clear BK353
  clear HB
  have HO357 := n0_
  have BK352 := n1_
  have BK353 := n2_
  have HB := n3_
  clear n0_ n1_ n2_ n3_
  (try clear hb)
  (try clear hb2)
  (try clear hk)
  (try clear hi)
  (try clear ho0)
  refine hK.out _ _ ⟨(blk_cell BK352.out 0).trans rfl, (blk_cell BK352.out 1).trans rfl, (blk_cell BK353.out 0).trans rfl, (blk_cell BK353.out 1).trans rfl⟩ (fun hHeld => ?_)
  clear hK K
  refine norm_ (a' := ?_) ?_ ?_
  rotate_left
  ·
   show Act.put _ (some 32) _ = _
   simp only [Act.put, q1, q2, q3, i64_w, i32_w]
   rfl
  refine one_ (i := 3) (N := some 34) #[T, T, T, T, T, F, F, F, F] rfl rfl (one_of HT_.out (by kernel_rfl)) (by decide) (fun K hK => ?_)
  refine goes_ Tryd.func34 (by kernel_rfl) rfl #[.agg #[.int .i64 a1_0, .slice A1_1 l1_1.length c1_1]] (by rfl) rfl rfl (by (try simp only [List.map_toArray, List.map_cons, List.map_nil]); first | done | rfl | (simp only [List.length_drop, List.length_take]; rfl)) ?_
  with_reducible refine (downpourlaw03_few.calls k a1_0 (fun k_ => k_ < w.heap.size) _ _ l1_1 t358 t359 _ ?side1 A6.out).mono ?_
  (case side1 => exact Kd.V_mk HC1_1.out (Kd.F_below (Kd.C_F k25_heap HR1_1.out) (pb HB)))
  rintro e w18 ⟨v360, rfl, ho0, hb⟩
  refine ⟨_, rfl, ?_⟩
  have n0_ := am (Kd.N_elder' (pn HO357) (by first | exact Kd.N_base ho0 | exact Kd.S_base ho0 | exact Kd.R_base ho0) hb)
  have n1_ := am (Kd.N_lower (Kd.N_mono (ok' := fun k_ => some k_ ≠ (v356 : Value).ownBlock ∧ k_ ≠ gb352 ∧ k_ ≠ gb353) ho0 (fun k_ hk_ => ⟨Or.elim hk_ (fun hs_ => fun e_ => Nat.not_le.2 hs_ (Kd.N_base HO357.out k_ e_.symm)) (fun hn_ => (Kd.fresh' (Kd.N_lt (pn HO357)) k_ hn_)), Or.elim hk_ (fun hs_ => fun e_ => Nat.not_le.2 hs_ (by rw [e_]; exact GW352.out)) (fun hn_ => (Kd.freshB (g := gb352) (o := .cells #[.int .i64 a0_0, .slice A0_1 l0_1.length c0_1] 55 (0, 0)) (pk BK352) k_ hn_)), Or.elim hk_ (fun hs_ => fun e_ => Nat.not_le.2 hs_ (by rw [e_]; exact GW353.out)) (fun hn_ => (Kd.freshB (g := gb353) (o := .cells #[.int .i64 a1_0, .slice A1_1 l1_1.length c1_1] 55 (0, 0)) (pk BK353) k_ hn_))⟩)) (below_size (pb HB)))
  have n2_ := bb BK352 hb
  have n3_ := bb BK353 hb
  have n4_ := am (below_step (pb HB) hb)
  clear HO357
  clear BK352
  clear BK353
  clear HB
  have HO357 := n0_
  have HO361 := n1_
  have BK352 := n2_
  have BK353 := n3_
  have HB := n4_
  clear n0_ n1_ n2_ n3_ n4_
  (try clear hb)
  (try clear hb2)
  (try clear hk)
  (try clear hi)
  (try clear ho0)
  refine hK.out _ _ ⟨(blk_cell BK352.out 0).trans rfl, (blk_cell BK352.out 1).trans rfl, (blk_cell BK353.out 0).trans rfl, (blk_cell BK353.out 1).trans rfl⟩ (fun hHeld => ?_)
  clear hK K
  refine norm_ (a' := ?_) ?_ ?_
  rotate_left
  ·
   show Act.put _ (some 34) _ = _
   simp only [Act.put, q1, q2, q3, i64_w, i32_w]
   rfl
  refine one_ (i := 5) (N := some 36) #[T, T, T, T, T, T, F, F, F] rfl rfl (one_of HT_.out (by kernel_rfl)) (by decide) (fun K hK => ?_)
  refine goes_ Tryd.func35 (by kernel_rfl) rfl #[.slice A3 l3.length c3] (by rfl) rfl rfl (by (try simp only [List.map_toArray, List.map_cons, List.map_nil]); first | done | rfl | (simp only [List.length_drop, List.length_take]; rfl)) ?_
  with_reducible refine (downpourlaw03_blocks.calls k _ _ l3 t362 _ ?side1 ?side2 A7.out).mono ?_
  (case side1 => repeat (first | exact (Kd.C_below HR3.out HB.out) | (with_reducible refine Kd.C_alloc ?_ _) | (with_reducible refine Kd.C_drewN ?_ _) | (with_reducible refine Kd.C_drew ?_)))
  (case side2 => exact HC3.out)
  rintro e w19 ⟨v363, rfl, ho0, hb⟩
  refine ⟨_, rfl, ?_⟩
  have n0_ := am (Kd.N_elder' (pn HO357) (Kd.R_base ho0) hb)
  have n1_ := am (Kd.N_elder' (pn HO361) (Kd.R_base ho0) hb)
  have n2_ := am (Kd.R_lower ho0 (below_size (pb HB)))
  have n3_ := bb BK352 hb
  have n4_ := bb BK353 hb
  have n5_ := am (below_step (pb HB) hb)
  clear HO357
  clear HO361
  clear BK352
  clear BK353
  clear HB
  have HO357 := n0_
  have HO361 := n1_
  have HO364 := n2_
  have BK352 := n3_
  have BK353 := n4_
  have HB := n5_
  clear n0_ n1_ n2_ n3_ n4_ n5_
  (try clear hb)
  (try clear hb2)
  (try clear hk)
  (try clear hi)
  (try clear ho0)
  obtain ⟨Ao21, co21, eo21⟩ := Kd.N_slice HO357.out
  (first | subst eo21 | (injection eo21 with f1_ f2_ f3_; have f4_ := f1_.symm; have f5_ := f3_.symm; clear f1_ f2_ f3_; subst f4_; subst f5_))
  obtain ⟨Ao24, co24, eo24⟩ := Kd.N_slice HO361.out
  (first | subst eo24 | (injection eo24 with f1_ f2_ f3_; have f4_ := f1_.symm; have f5_ := f3_.symm; clear f1_ f2_ f3_; subst f4_; subst f5_))
  refine hK.out _ _ ⟨(blk_cell BK352.out 0).trans rfl, (blk_cell BK352.out 1).trans rfl, (blk_cell BK353.out 0).trans rfl, (blk_cell BK353.out 1).trans rfl⟩ (fun hHeld => ?_)
  clear hK K
  refine norm_ (a' := ?_) ?_ ?_
  rotate_left
  ·
   show Act.put _ (some 36) _ = _
   simp only [Act.put, q1, q2, q3, i64_w, i32_w]
   rfl
  refine last_ (i := 6) (N := none) #[T, T, T, T, T, T, T, F, F] rfl rfl (one_of HT_.out (by kernel_rfl)) (by decide) (fun K hK => ?_)
  have hs20 : w19.cell? ⟨gb352, 0, none⟩ = some (.int .i64 a0_0) := (blk_cell BK352.out 0).trans rfl
  have hfs20 := blk_frozen BK352.out 0
  have hns20_1 := NB353_352.out
  have hms20_1 := NB352_353.out
  have hs22 : w19.cell? ⟨gb352, 1, none⟩ = some (.slice A0_1 l0_1.length c0_1) := (blk_cell BK352.out 1).trans rfl
  have hfs22 := blk_frozen BK352.out 1
  have hns22_1 := NB353_352.out
  have hms22_1 := NB352_353.out
  refine skip_ (w1 := ?_) (by rfl) rfl ?_ ?_
  rotate_left
  ·
   go_simp
   rfl
  refine hK.out _ _ ?_
  clear hK K
  refine last_ (i := 7) (N := none) #[T, T, T, T, T, T, T, T, F] rfl rfl (one_of HT_.out (by kernel_rfl)) (by decide) (fun K hK => ?_)
  have hs23 : w19.cell? ⟨gb353, 0, none⟩ = some (.int .i64 a1_0) := (blk_cell BK353.out 0).trans rfl
  have hfs23 := blk_frozen BK353.out 0
  have hns23_0 := NB352_353.out
  have hms23_0 := NB353_352.out
  have hs25 : w19.cell? ⟨gb353, 1, none⟩ = some (.slice A1_1 l1_1.length c1_1) := (blk_cell BK353.out 1).trans rfl
  have hfs25 := blk_frozen BK353.out 1
  have hns25_0 := NB352_353.out
  have hms25_0 := NB353_352.out
  refine skip_ (w1 := ?_) (by rfl) rfl ?_ ?_
  rotate_left
  ·
   go_simp
   rfl
  refine hK.out _ _ ?_
  clear hK K
  refine pure_ (i := 8) (N := some 3) (v := ?_) (a' := ?_) #[T, T, T, T, T, T, T, T, T] rfl rfl (any_of HT_.out (by kernel_rfl)) (fun _ _ _ h => h) (Or.inl ⟨by rfl, ?_⟩) ?_ ?_
  rotate_left
  ·
   intro w'
   go_simp
   with_reducible rfl
  rotate_left
  ·
   simp only [Act.put, q1, q2, q3, i64_w, i32_w]
   rfl
  refine done_ (done_of HT_.out (by kernel_rfl)) ?_
  have hnb26 := NB352_353.out
  have hnc26 := NB353_352.out
  have hcz27_0 : w19.cell? ⟨gb352, 0, none⟩ = some (.int .i64 a0_0) := (blk_cell BK352.out 0).trans rfl
  have hcz27_1 : w19.cell? ⟨gb352, 1, none⟩ = some (.slice A0_1 l0_1.length c0_1) := (blk_cell BK352.out 1).trans rfl
  have hfz27_0 := blk_frozen BK352.out 0
  have hfz27_1 := blk_frozen BK352.out 1
  go_upto_region 8 with (first | ((with_reducible refine gate_callee (f := 44) rfl ?_); refine goesL_ (some 39) rfl rfl Tryd.func44 (by kernel_rfl) rfl #[.agg #[.int .i64 t354, .slice Ao21 t355.length co21]] rfl (by (try simp only [List.map_toArray, List.map_cons, List.map_nil]); first | done | rfl | (simp only [List.length_drop, List.length_take]; rfl)) ?_; (with_reducible refine (matrix_Turn.calls k t354 _ _ t355 t365 t366 t369 _ ?side1 ?side2 A8.out).mono ?_); (case side1 => refine (Kd.N_reads' (e := 25) (base := w.heap.size) (ok := fun k_ => (((k_ ≠ gb352 ∧ k_ ≠ gb353) ∧ some k_ ≠ (.slice Ao24 t359.length co24 : Value).ownBlock) ∧ some k_ ≠ (v363 : Value).ownBlock)) (n := t355.length) (c := co21) ?_).2.2; exact (pnx (Kd.N_mono (Kd.N_mono (nf2N (nf2N (Kd.N_mono (Kd.N_mono HO357.out (fun k_ hk => (⟨hk, hk.1.1.1⟩ : _ ∧ k_ ≠ gb352))) (fun k_ hk => (⟨hk, hk.1.1.1.2⟩ : _ ∧ k_ ≠ gb353))) (fun _ hk => hk.1.2) (.int .i64 t354) (.slice Ao21 t355.length co21)) (fun _ hk => hk.2) (.int .i64 t358) (.slice Ao24 t359.length co24)) (fun _ h_ => h_.1)) (fun _ h_ => h_.1)))); (case side2 => exact (Kd.N_reads' HO357.out).2.1); rintro e w28 ⟨v367, rfl, ho0, hb⟩; refine ⟨_, rfl, ?_⟩; have n0_ := am (Kd.N_elder' (pnx (Kd.N_mono (Kd.N_mono (nf2N (nf2N (Kd.N_mono (Kd.N_mono HO357.out (fun k_ hk => (⟨hk, hk.1.1.1⟩ : _ ∧ k_ ≠ gb352))) (fun k_ hk => (⟨hk, hk.1.1.1.2⟩ : _ ∧ k_ ≠ gb353))) (fun _ hk => hk.1.2) (.int .i64 t354) (.slice Ao21 t355.length co21)) (fun _ hk => hk.2) (.int .i64 t358) (.slice Ao24 t359.length co24)) (fun _ h_ => h_.1)) (fun _ h_ => h_.1))) (by first | exact Kd.N_base ho0 | exact Kd.S_base ho0 | exact Kd.R_base ho0) hb); have n1_ := am (Kd.N_elder' (pnx (Kd.N_mono (Kd.N_mono (nf2N (nf2N (Kd.N_mono (Kd.N_mono HO361.out (fun k_ hk => (⟨hk, hk.1.2.1⟩ : _ ∧ k_ ≠ gb352))) (fun k_ hk => (⟨hk, hk.1.1.2.2⟩ : _ ∧ k_ ≠ gb353))) (fun _ hk => hk.1.2) (.int .i64 t354) (.slice Ao21 t355.length co21)) (fun _ hk => hk.2) (.int .i64 t358) (.slice Ao24 t359.length co24)) (fun _ h_ => h_.1)) (fun _ h_ => h_.1))) (by first | exact Kd.N_base ho0 | exact Kd.S_base ho0 | exact Kd.R_base ho0) hb); have n2_ := am (Kd.R_below (by (with_reducible repeat (first | apply Kd.R_alloc | apply Kd.R_drewN | apply Kd.R_drew)); exact (Kd.R_mono (Kd.R_mono (nf2R (nf2R (Kd.R_types (Kd.R_types HO364.out BK352.out (by decide)) BK353.out (by decide)) (fun _ hk => hk.1.2) (.int .i64 t354) (.slice Ao21 t355.length co21)) (fun _ hk => hk.2) (.int .i64 t358) (.slice Ao24 t359.length co24)) (fun _ h_ => h_.1)) (fun _ h_ => h_.1))) hb); have n3_ := am (Kd.N_lower (Kd.N_mono (ok' := fun k_ => some k_ ≠ (.slice Ao21 t355.length co21 : Value).ownBlock ∧ some k_ ≠ (.slice Ao24 t359.length co24 : Value).ownBlock ∧ some k_ ≠ (v363 : Value).ownBlock ∧ k_ ≠ gb352 ∧ k_ ≠ gb353) (Kd.S_N (Kd.S_bound ho0)) (fun k_ hk_ => ⟨(Kd.fresh' (Kd.N_lt (pnx (Kd.N_mono (Kd.N_mono (nf2N (nf2N (Kd.N_mono (Kd.N_mono HO357.out (fun k_ hk => (⟨hk, hk.1.1.1⟩ : _ ∧ k_ ≠ gb352))) (fun k_ hk => (⟨hk, hk.1.1.1.2⟩ : _ ∧ k_ ≠ gb353))) (fun _ hk => hk.1.2) (.int .i64 t354) (.slice Ao21 t355.length co21)) (fun _ hk => hk.2) (.int .i64 t358) (.slice Ao24 t359.length co24)) (fun _ h_ => h_.1)) (fun _ h_ => h_.1)))) k_ hk_.2.1), (Kd.fresh' (Kd.N_lt (pnx (Kd.N_mono (Kd.N_mono (nf2N (nf2N (Kd.N_mono (Kd.N_mono HO361.out (fun k_ hk => (⟨hk, hk.1.2.1⟩ : _ ∧ k_ ≠ gb352))) (fun k_ hk => (⟨hk, hk.1.1.2.2⟩ : _ ∧ k_ ≠ gb353))) (fun _ hk => hk.1.2) (.int .i64 t354) (.slice Ao21 t355.length co21)) (fun _ hk => hk.2) (.int .i64 t358) (.slice Ao24 t359.length co24)) (fun _ h_ => h_.1)) (fun _ h_ => h_.1)))) k_ hk_.2.1), (Kd.fresh' (Kd.R_lt (by (with_reducible repeat (first | apply Kd.R_alloc | apply Kd.R_drewN | apply Kd.R_drew)); exact (Kd.R_mono (Kd.R_mono (nf2R (nf2R (Kd.R_types (Kd.R_types HO364.out BK352.out (by decide)) BK353.out (by decide)) (fun _ hk => hk.1.2) (.int .i64 t354) (.slice Ao21 t355.length co21)) (fun _ hk => hk.2) (.int .i64 t358) (.slice Ao24 t359.length co24)) (fun _ h_ => h_.1)) (fun _ h_ => h_.1)))) k_ hk_.2.1), (Kd.freshB (g := gb352) (o := .cells #[.int .i64 t354, .slice Ao21 t355.length co21] 55 (0, 0)) (by (with_reducible repeat (first | refine blk_drewN ?_ _ | refine blk_drew ?_ | refine blk_alloc ?_ _)); refine blk_far ?_ NB352_353.out _; (with_reducible repeat (first | refine blk_drewN ?_ _ | refine blk_drew ?_ | refine blk_alloc ?_ _)); refine blk_far ?_ NB352_353.out _; (with_reducible repeat (first | refine blk_drewN ?_ _ | refine blk_drew ?_ | refine blk_alloc ?_ _)); refine blk_put (cs := #[.int .i64 t354, .slice A0_1 l0_1.length c0_1]) ?_ 1 _ rfl; (with_reducible repeat (first | refine blk_drewN ?_ _ | refine blk_drew ?_ | refine blk_alloc ?_ _)); refine blk_put (cs := #[.int .i64 a0_0, .slice A0_1 l0_1.length c0_1]) ?_ 0 _ rfl; (with_reducible repeat (first | refine blk_drewN ?_ _ | refine blk_drew ?_ | refine blk_alloc ?_ _)); exact BK352.out) k_ hk_.2.1), (Kd.freshB (g := gb353) (o := .cells #[.int .i64 t358, .slice Ao24 t359.length co24] 55 (0, 0)) (by (with_reducible repeat (first | refine blk_drewN ?_ _ | refine blk_drew ?_ | refine blk_alloc ?_ _)); refine blk_put (cs := #[.int .i64 t358, .slice A1_1 l1_1.length c1_1]) ?_ 1 _ rfl; (with_reducible repeat (first | refine blk_drewN ?_ _ | refine blk_drew ?_ | refine blk_alloc ?_ _)); refine blk_put (cs := #[.int .i64 a1_0, .slice A1_1 l1_1.length c1_1]) ?_ 0 _ rfl; (with_reducible repeat (first | refine blk_drewN ?_ _ | refine blk_drew ?_ | refine blk_alloc ?_ _)); refine blk_far ?_ NB353_352.out _; (with_reducible repeat (first | refine blk_drewN ?_ _ | refine blk_drew ?_ | refine blk_alloc ?_ _)); refine blk_far ?_ NB353_352.out _; (with_reducible repeat (first | refine blk_drewN ?_ _ | refine blk_drew ?_ | refine blk_alloc ?_ _)); exact BK353.out) k_ hk_.2.1)⟩)) (below_size (pb HB))); have n4_ := am (blk_below (g := gb352) (o := .cells #[.int .i64 t354, .slice Ao21 t355.length co21] 55 (0, 0)) (by (with_reducible repeat (first | refine blk_drewN ?_ _ | refine blk_drew ?_ | refine blk_alloc ?_ _)); refine blk_far ?_ NB352_353.out _; (with_reducible repeat (first | refine blk_drewN ?_ _ | refine blk_drew ?_ | refine blk_alloc ?_ _)); refine blk_far ?_ NB352_353.out _; (with_reducible repeat (first | refine blk_drewN ?_ _ | refine blk_drew ?_ | refine blk_alloc ?_ _)); refine blk_put (cs := #[.int .i64 t354, .slice A0_1 l0_1.length c0_1]) ?_ 1 _ rfl; (with_reducible repeat (first | refine blk_drewN ?_ _ | refine blk_drew ?_ | refine blk_alloc ?_ _)); refine blk_put (cs := #[.int .i64 a0_0, .slice A0_1 l0_1.length c0_1]) ?_ 0 _ rfl; (with_reducible repeat (first | refine blk_drewN ?_ _ | refine blk_drew ?_ | refine blk_alloc ?_ _)); exact BK352.out) hb); have n5_ := am (blk_below (g := gb353) (o := .cells #[.int .i64 t358, .slice Ao24 t359.length co24] 55 (0, 0)) (by (with_reducible repeat (first | refine blk_drewN ?_ _ | refine blk_drew ?_ | refine blk_alloc ?_ _)); refine blk_put (cs := #[.int .i64 t358, .slice A1_1 l1_1.length c1_1]) ?_ 1 _ rfl; (with_reducible repeat (first | refine blk_drewN ?_ _ | refine blk_drew ?_ | refine blk_alloc ?_ _)); refine blk_put (cs := #[.int .i64 a1_0, .slice A1_1 l1_1.length c1_1]) ?_ 0 _ rfl; (with_reducible repeat (first | refine blk_drewN ?_ _ | refine blk_drew ?_ | refine blk_alloc ?_ _)); refine blk_far ?_ NB353_352.out _; (with_reducible repeat (first | refine blk_drewN ?_ _ | refine blk_drew ?_ | refine blk_alloc ?_ _)); refine blk_far ?_ NB353_352.out _; (with_reducible repeat (first | refine blk_drewN ?_ _ | refine blk_drew ?_ | refine blk_alloc ?_ _)); exact BK353.out) hb); have n6_ := am (below_step (pb HB) hb); clear HO357 HO361 HO364 BK352 BK353 HB; have HO357 := n0_; have HO361 := n1_; have HO364 := n2_; have HO368 := n3_; have BK352 := n4_; have BK353 := n5_; have HB := n6_; clear n0_ n1_ n2_ n3_ n4_ n5_ n6_; (try clear hb); (try clear hb2); (try clear hk); (try clear hi); (try clear ho0)) | ((with_reducible refine gate_dst (N := 9) rfl ?_); (try (refine gate_guard (by rfl) ?_; dsimp only)); refine box_event ?hg (N := 9) ?hd (cs := #[.int .i64 0, .slice none 0 0]) (t := 55) ?hr ?_; (case hd => rfl); (case hg => rfl); (case hr => first | (go_simp; done) | (go_simp; rfl)); intro gb370 hg w29 hbox hb; have n0_ := am (Kd.N_below (Kd.N_elderB (pn HO357) gb370 (Nat.le_of_eq hg.symm)) hb); have n1_ := am (Kd.N_below (Kd.N_elderB (pn HO361) gb370 (Nat.le_of_eq hg.symm)) hb); have n2_ := am (Kd.R_below (pr HO364) hb); have n3_ := am (Kd.N_below (Kd.N_elderB (pn HO368) gb370 (Nat.le_of_eq hg.symm)) hb); have n4_ := bb BK352 hb; have n5_ := bb BK353 hb; have n6_ := am (below_step (pb HB) hb); have n7_ := am (hbox); have n8_ := am ((by rw [hg]; exact (below_size (pb HB)) : w.heap.size ≤ gb370)); have n9_ := am ((by rw [hg]; exact (below_size (pb HB)) : w.heap.size ≤ gb370)); have n10_ := am ((by rw [hg]; exact Nat.ne_of_lt (bl BK352) : gb352 ≠ gb370)); have n11_ := am ((by rw [hg]; exact Nat.ne_of_gt (bl BK352) : gb370 ≠ gb352)); have n12_ := am ((by rw [hg]; exact Nat.ne_of_lt (bl BK353) : gb353 ≠ gb370)); have n13_ := am ((by rw [hg]; exact Nat.ne_of_gt (bl BK353) : gb370 ≠ gb353)); clear HO357 HO361 HO364 HO368 BK352 BK353 HB; have HO357 := n0_; have HO361 := n1_; have HO364 := n2_; have HO368 := n3_; have BK352 := n4_; have BK353 := n5_; have HB := n6_; have BK370 := n7_; have GW370 := n8_; have GE370 := n9_; have NB352_370 := n10_; have NB370_352 := n11_; have NB353_370 := n12_; have NB370_353 := n13_; clear n0_ n1_ n2_ n3_ n4_ n5_ n6_ n7_ n8_ n9_ n10_ n11_ n12_ n13_ hb hbox hg; have hnb30 := NB370_352.out; have hnc30 := NB352_370.out; have hnb31 := NB370_353.out; have hnc31 := NB353_370.out; have hcz32_0 : w29.cell? ⟨gb370, 0, none⟩ = some (.int .i64 0) := (blk_cell BK370.out 0).trans rfl; have hcz32_1 : w29.cell? ⟨gb370, 1, none⟩ = some (.slice none 0 0) := (blk_cell BK370.out 1).trans rfl; have hfz32_0 := blk_frozen BK370.out 0; have hfz32_1 := blk_frozen BK370.out 1; obtain ⟨Ao33, co33, eo33⟩ := Kd.N_slice HO368.out; subst eo33) | ((with_reducible refine gate_callee (f := 44) rfl ?_); refine goesL_ (some 52) rfl rfl Tryd.func44 (by kernel_rfl) rfl #[.agg #[.int .i64 t365, .slice Ao33 t366.length co33]] rfl (by (try simp only [List.map_toArray, List.map_cons, List.map_nil]); first | done | rfl | (simp only [List.length_drop, List.length_take]; rfl)) ?_; (with_reducible refine (matrix_Turn.calls k t365 _ _ t366 t373 t374 t377 _ ?side1 ?side2 A10.out).mono ?_); (case side1 => refine (Kd.N_reads' (e := 25) (base := w.heap.size) (ok := fun k_ => ((some k_ ≠ (.slice Ao21 t355.length co21 : Value).ownBlock ∧ (some k_ ≠ (.slice Ao24 t359.length co24 : Value).ownBlock ∧ (some k_ ≠ (v363 : Value).ownBlock ∧ (k_ ≠ gb352 ∧ k_ ≠ gb353)))) ∧ k_ ≠ gb370)) (n := t366.length) (c := co33) ?_).2.2; exact (pnx (Kd.N_mono (nf2N (Kd.N_mono HO368.out (fun k_ hk => (⟨hk, hk.2⟩ : _ ∧ k_ ≠ gb370))) (fun _ hk => hk.2) (.int .i64 t365) (.slice Ao33 t366.length co33)) (fun _ h_ => h_.1)))); (case side2 => exact (Kd.N_reads' HO368.out).2.1); rintro e w34 ⟨v375, rfl, ho0, hb⟩; refine ⟨_, rfl, ?_⟩; have n0_ := am (Kd.N_elder' (pnx (Kd.N_mono (nf2N (Kd.N_mono HO357.out (fun k_ hk => (⟨hk, hk.2⟩ : _ ∧ k_ ≠ gb370))) (fun _ hk => hk.2) (.int .i64 t365) (.slice Ao33 t366.length co33)) (fun _ h_ => h_.1))) (by first | exact Kd.N_base ho0 | exact Kd.S_base ho0 | exact Kd.R_base ho0) hb); have n1_ := am (Kd.N_elder' (pnx (Kd.N_mono (nf2N (Kd.N_mono HO361.out (fun k_ hk => (⟨hk, hk.2⟩ : _ ∧ k_ ≠ gb370))) (fun _ hk => hk.2) (.int .i64 t365) (.slice Ao33 t366.length co33)) (fun _ h_ => h_.1))) (by first | exact Kd.N_base ho0 | exact Kd.S_base ho0 | exact Kd.R_base ho0) hb); have n2_ := am (Kd.R_below (by (with_reducible repeat (first | apply Kd.R_alloc | apply Kd.R_drewN | apply Kd.R_drew)); exact (Kd.R_mono (nf2R (Kd.R_types HO364.out BK370.out (by decide)) (fun _ hk => hk.2) (.int .i64 t365) (.slice Ao33 t366.length co33)) (fun _ h_ => h_.1))) hb); have n3_ := am (Kd.N_elder' (pnx (Kd.N_mono (nf2N (Kd.N_mono HO368.out (fun k_ hk => (⟨hk, hk.2⟩ : _ ∧ k_ ≠ gb370))) (fun _ hk => hk.2) (.int .i64 t365) (.slice Ao33 t366.length co33)) (fun _ h_ => h_.1))) (by first | exact Kd.N_base ho0 | exact Kd.S_base ho0 | exact Kd.R_base ho0) hb); have n4_ := am (Kd.N_lower (Kd.N_mono (ok' := fun k_ => some k_ ≠ (.slice Ao21 t355.length co21 : Value).ownBlock ∧ some k_ ≠ (.slice Ao24 t359.length co24 : Value).ownBlock ∧ some k_ ≠ (v363 : Value).ownBlock ∧ some k_ ≠ (.slice Ao33 t366.length co33 : Value).ownBlock ∧ k_ ≠ gb352 ∧ k_ ≠ gb353 ∧ k_ ≠ gb370) (Kd.S_N (Kd.S_bound ho0)) (fun k_ hk_ => ⟨(Kd.fresh' (Kd.N_lt (pnx (Kd.N_mono (nf2N (Kd.N_mono HO357.out (fun k_ hk => (⟨hk, hk.2⟩ : _ ∧ k_ ≠ gb370))) (fun _ hk => hk.2) (.int .i64 t365) (.slice Ao33 t366.length co33)) (fun _ h_ => h_.1)))) k_ hk_.2.1), (Kd.fresh' (Kd.N_lt (pnx (Kd.N_mono (nf2N (Kd.N_mono HO361.out (fun k_ hk => (⟨hk, hk.2⟩ : _ ∧ k_ ≠ gb370))) (fun _ hk => hk.2) (.int .i64 t365) (.slice Ao33 t366.length co33)) (fun _ h_ => h_.1)))) k_ hk_.2.1), (Kd.fresh' (Kd.R_lt (by (with_reducible repeat (first | apply Kd.R_alloc | apply Kd.R_drewN | apply Kd.R_drew)); exact (Kd.R_mono (nf2R (Kd.R_types HO364.out BK370.out (by decide)) (fun _ hk => hk.2) (.int .i64 t365) (.slice Ao33 t366.length co33)) (fun _ h_ => h_.1)))) k_ hk_.2.1), (Kd.fresh' (Kd.N_lt (pnx (Kd.N_mono (nf2N (Kd.N_mono HO368.out (fun k_ hk => (⟨hk, hk.2⟩ : _ ∧ k_ ≠ gb370))) (fun _ hk => hk.2) (.int .i64 t365) (.slice Ao33 t366.length co33)) (fun _ h_ => h_.1)))) k_ hk_.2.1), (fq BK352 k_ hk_.2.1), (fq BK353 k_ hk_.2.1), (Kd.freshB (g := gb370) (o := .cells #[.int .i64 t365, .slice Ao33 t366.length co33] 55 (0, 0)) (by (with_reducible repeat (first | refine blk_drewN ?_ _ | refine blk_drew ?_ | refine blk_alloc ?_ _)); refine blk_put (cs := #[.int .i64 t365, .slice none 0 0]) ?_ 1 _ rfl; (with_reducible repeat (first | refine blk_drewN ?_ _ | refine blk_drew ?_ | refine blk_alloc ?_ _)); refine blk_put (cs := #[.int .i64 0, .slice none 0 0]) ?_ 0 _ rfl; (with_reducible repeat (first | refine blk_drewN ?_ _ | refine blk_drew ?_ | refine blk_alloc ?_ _)); exact BK370.out) k_ hk_.2.1)⟩)) (below_size (pb HB))); have n5_ := bq BK352 hb; have n6_ := bq BK353 hb; have n7_ := am (blk_below (g := gb370) (o := .cells #[.int .i64 t365, .slice Ao33 t366.length co33] 55 (0, 0)) (by (with_reducible repeat (first | refine blk_drewN ?_ _ | refine blk_drew ?_ | refine blk_alloc ?_ _)); refine blk_put (cs := #[.int .i64 t365, .slice none 0 0]) ?_ 1 _ rfl; (with_reducible repeat (first | refine blk_drewN ?_ _ | refine blk_drew ?_ | refine blk_alloc ?_ _)); refine blk_put (cs := #[.int .i64 0, .slice none 0 0]) ?_ 0 _ rfl; (with_reducible repeat (first | refine blk_drewN ?_ _ | refine blk_drew ?_ | refine blk_alloc ?_ _)); exact BK370.out) hb); have n8_ := am (below_step (pb HB) hb); clear HO357 HO361 HO364 HO368 BK352 BK353 BK370 HB; have HO357 := n0_; have HO361 := n1_; have HO364 := n2_; have HO368 := n3_; have HO376 := n4_; have BK352 := n5_; have BK353 := n6_; have BK370 := n7_; have HB := n8_; clear n0_ n1_ n2_ n3_ n4_ n5_ n6_ n7_ n8_; (try clear hb); (try clear hb2); (try clear hk); (try clear hi); (try clear ho0)) | ((with_reducible refine gate_dst (N := 11) rfl ?_); (try (refine gate_guard (by rfl) ?_; dsimp only)); refine box_event ?hg (N := 11) ?hd (cs := #[.int .i64 0, .slice none 0 0]) (t := 55) ?hr ?_; (case hd => rfl); (case hg => rfl); (case hr => first | (go_simp; done) | (go_simp; rfl)); intro gb378 hg w35 hbox hb; have n0_ := am (Kd.N_below (Kd.N_elderB (pn HO357) gb378 (Nat.le_of_eq hg.symm)) hb); have n1_ := am (Kd.N_below (Kd.N_elderB (pn HO361) gb378 (Nat.le_of_eq hg.symm)) hb); have n2_ := am (Kd.R_below (pr HO364) hb); have n3_ := am (Kd.N_below (Kd.N_elderB (pn HO368) gb378 (Nat.le_of_eq hg.symm)) hb); have n4_ := am (Kd.N_below (Kd.N_elderB (pn HO376) gb378 (Nat.le_of_eq hg.symm)) hb); have n5_ := bb BK352 hb; have n6_ := bb BK353 hb; have n7_ := bb BK370 hb; have n8_ := am (below_step (pb HB) hb); have n9_ := am (hbox); have n10_ := am ((by rw [hg]; exact (below_size (pb HB)) : w.heap.size ≤ gb378)); have n11_ := am ((by rw [hg]; exact (below_size (pb HB)) : w.heap.size ≤ gb378)); have n12_ := am ((by rw [hg]; exact Nat.ne_of_lt (bl BK352) : gb352 ≠ gb378)); have n13_ := am ((by rw [hg]; exact Nat.ne_of_gt (bl BK352) : gb378 ≠ gb352)); have n14_ := am ((by rw [hg]; exact Nat.ne_of_lt (bl BK353) : gb353 ≠ gb378)); have n15_ := am ((by rw [hg]; exact Nat.ne_of_gt (bl BK353) : gb378 ≠ gb353)); have n16_ := am ((by rw [hg]; exact Nat.ne_of_lt (bl BK370) : gb370 ≠ gb378)); have n17_ := am ((by rw [hg]; exact Nat.ne_of_gt (bl BK370) : gb378 ≠ gb370)); clear HO357 HO361 HO364 HO368 HO376 BK352 BK353 BK370 HB; have HO357 := n0_; have HO361 := n1_; have HO364 := n2_; have HO368 := n3_; have HO376 := n4_; have BK352 := n5_; have BK353 := n6_; have BK370 := n7_; have HB := n8_; have BK378 := n9_; have GW378 := n10_; have GE378 := n11_; have NB352_378 := n12_; have NB378_352 := n13_; have NB353_378 := n14_; have NB378_353 := n15_; have NB370_378 := n16_; have NB378_370 := n17_; clear n0_ n1_ n2_ n3_ n4_ n5_ n6_ n7_ n8_ n9_ n10_ n11_ n12_ n13_ n14_ n15_ n16_ n17_ hb hbox hg; have hnb36 := NB378_352.out; have hnc36 := NB352_378.out; have hnb37 := NB378_353.out; have hnc37 := NB353_378.out; have hnb38 := NB378_370.out; have hnc38 := NB370_378.out; have hcz39_0 : w35.cell? ⟨gb378, 0, none⟩ = some (.int .i64 0) := (blk_cell BK378.out 0).trans rfl; have hcz39_1 : w35.cell? ⟨gb378, 1, none⟩ = some (.slice none 0 0) := (blk_cell BK378.out 1).trans rfl; have hfz39_0 := blk_frozen BK378.out 0; have hfz39_1 := blk_frozen BK378.out 1; obtain ⟨Ao40, co40, eo40⟩ := Kd.N_slice HO376.out; subst eo40; have hcz41_0 : w35.cell? ⟨gb352, 0, none⟩ = some (.int .i64 t354) := (blk_cell BK352.out 0).trans rfl; have hcz41_1 : w35.cell? ⟨gb352, 1, none⟩ = some (.slice Ao21 t355.length co21) := (blk_cell BK352.out 1).trans rfl; have hfz41_0 := blk_frozen BK352.out 0; have hfz41_1 := blk_frozen BK352.out 1) | ((with_reducible refine gate_callee (f := 45) rfl ?_); refine goesL_ (some 58) rfl rfl Tryd.func45 (by kernel_rfl) rfl #[.int .i64 t354] rfl (by (try simp only [List.map_toArray, List.map_cons, List.map_nil]); first | done | rfl | (simp only [List.length_drop, List.length_take]; rfl)) ?_; (with_reducible refine (matrix_One.calls k t354 t379 t380 t383 _ A11.out).mono ?_); rintro e w42 ⟨v381, rfl, ho0, hb⟩; refine ⟨_, rfl, ?_⟩; have n0_ := am (Kd.N_elder' (pnx (Kd.N_mono (nf2N (Kd.N_mono HO357.out (fun k_ hk => (⟨hk, hk.2⟩ : _ ∧ k_ ≠ gb378))) (fun _ hk => hk.2) (.int .i64 t373) (.slice Ao40 t374.length co40)) (fun _ h_ => h_.1))) (by first | exact Kd.N_base ho0 | exact Kd.S_base ho0 | exact Kd.R_base ho0) hb); have n1_ := am (Kd.N_elder' (pnx (Kd.N_mono (nf2N (Kd.N_mono HO361.out (fun k_ hk => (⟨hk, hk.2⟩ : _ ∧ k_ ≠ gb378))) (fun _ hk => hk.2) (.int .i64 t373) (.slice Ao40 t374.length co40)) (fun _ h_ => h_.1))) (by first | exact Kd.N_base ho0 | exact Kd.S_base ho0 | exact Kd.R_base ho0) hb); have n2_ := am (Kd.R_below (by (with_reducible repeat (first | apply Kd.R_alloc | apply Kd.R_drewN | apply Kd.R_drew)); exact (Kd.R_mono (nf2R (Kd.R_types HO364.out BK378.out (by decide)) (fun _ hk => hk.2) (.int .i64 t373) (.slice Ao40 t374.length co40)) (fun _ h_ => h_.1))) hb); have n3_ := am (Kd.N_elder' (pnx (Kd.N_mono (nf2N (Kd.N_mono HO368.out (fun k_ hk => (⟨hk, hk.2⟩ : _ ∧ k_ ≠ gb378))) (fun _ hk => hk.2) (.int .i64 t373) (.slice Ao40 t374.length co40)) (fun _ h_ => h_.1))) (by first | exact Kd.N_base ho0 | exact Kd.S_base ho0 | exact Kd.R_base ho0) hb); have n4_ := am (Kd.N_elder' (pnx (Kd.N_mono (nf2N (Kd.N_mono HO376.out (fun k_ hk => (⟨hk, hk.2⟩ : _ ∧ k_ ≠ gb378))) (fun _ hk => hk.2) (.int .i64 t373) (.slice Ao40 t374.length co40)) (fun _ h_ => h_.1))) (by first | exact Kd.N_base ho0 | exact Kd.S_base ho0 | exact Kd.R_base ho0) hb); have n5_ := am (Kd.N_lower (Kd.N_mono (ok' := fun k_ => some k_ ≠ (.slice Ao21 t355.length co21 : Value).ownBlock ∧ some k_ ≠ (.slice Ao24 t359.length co24 : Value).ownBlock ∧ some k_ ≠ (v363 : Value).ownBlock ∧ some k_ ≠ (.slice Ao33 t366.length co33 : Value).ownBlock ∧ some k_ ≠ (.slice Ao40 t374.length co40 : Value).ownBlock ∧ k_ ≠ gb352 ∧ k_ ≠ gb353 ∧ k_ ≠ gb370 ∧ k_ ≠ gb378) (Kd.S_N (Kd.S_bound ho0)) (fun k_ hk_ => ⟨(Kd.fresh' (Kd.N_lt (pnx (Kd.N_mono (nf2N (Kd.N_mono HO357.out (fun k_ hk => (⟨hk, hk.2⟩ : _ ∧ k_ ≠ gb378))) (fun _ hk => hk.2) (.int .i64 t373) (.slice Ao40 t374.length co40)) (fun _ h_ => h_.1)))) k_ hk_.2.1), (Kd.fresh' (Kd.N_lt (pnx (Kd.N_mono (nf2N (Kd.N_mono HO361.out (fun k_ hk => (⟨hk, hk.2⟩ : _ ∧ k_ ≠ gb378))) (fun _ hk => hk.2) (.int .i64 t373) (.slice Ao40 t374.length co40)) (fun _ h_ => h_.1)))) k_ hk_.2.1), (Kd.fresh' (Kd.R_lt (by (with_reducible repeat (first | apply Kd.R_alloc | apply Kd.R_drewN | apply Kd.R_drew)); exact (Kd.R_mono (nf2R (Kd.R_types HO364.out BK378.out (by decide)) (fun _ hk => hk.2) (.int .i64 t373) (.slice Ao40 t374.length co40)) (fun _ h_ => h_.1)))) k_ hk_.2.1), (Kd.fresh' (Kd.N_lt (pnx (Kd.N_mono (nf2N (Kd.N_mono HO368.out (fun k_ hk => (⟨hk, hk.2⟩ : _ ∧ k_ ≠ gb378))) (fun _ hk => hk.2) (.int .i64 t373) (.slice Ao40 t374.length co40)) (fun _ h_ => h_.1)))) k_ hk_.2.1), (Kd.fresh' (Kd.N_lt (pnx (Kd.N_mono (nf2N (Kd.N_mono HO376.out (fun k_ hk => (⟨hk, hk.2⟩ : _ ∧ k_ ≠ gb378))) (fun _ hk => hk.2) (.int .i64 t373) (.slice Ao40 t374.length co40)) (fun _ h_ => h_.1)))) k_ hk_.2.1), (fq BK352 k_ hk_.2.1), (fq BK353 k_ hk_.2.1), (fq BK370 k_ hk_.2.1), (Kd.freshB (g := gb378) (o := .cells #[.int .i64 t373, .slice Ao40 t374.length co40] 55 (0, 0)) (by (with_reducible repeat (first | refine blk_drewN ?_ _ | refine blk_drew ?_ | refine blk_alloc ?_ _)); refine blk_put (cs := #[.int .i64 t373, .slice none 0 0]) ?_ 1 _ rfl; (with_reducible repeat (first | refine blk_drewN ?_ _ | refine blk_drew ?_ | refine blk_alloc ?_ _)); refine blk_put (cs := #[.int .i64 0, .slice none 0 0]) ?_ 0 _ rfl; (with_reducible repeat (first | refine blk_drewN ?_ _ | refine blk_drew ?_ | refine blk_alloc ?_ _)); exact BK378.out) k_ hk_.2.1)⟩)) (below_size (pb HB))); have n6_ := bq BK352 hb; have n7_ := bq BK353 hb; have n8_ := bq BK370 hb; have n9_ := am (blk_below (g := gb378) (o := .cells #[.int .i64 t373, .slice Ao40 t374.length co40] 55 (0, 0)) (by (with_reducible repeat (first | refine blk_drewN ?_ _ | refine blk_drew ?_ | refine blk_alloc ?_ _)); refine blk_put (cs := #[.int .i64 t373, .slice none 0 0]) ?_ 1 _ rfl; (with_reducible repeat (first | refine blk_drewN ?_ _ | refine blk_drew ?_ | refine blk_alloc ?_ _)); refine blk_put (cs := #[.int .i64 0, .slice none 0 0]) ?_ 0 _ rfl; (with_reducible repeat (first | refine blk_drewN ?_ _ | refine blk_drew ?_ | refine blk_alloc ?_ _)); exact BK378.out) hb); have n10_ := am (below_step (pb HB) hb); clear HO357 HO361 HO364 HO368 HO376 BK352 BK353 BK370 BK378 HB; have HO357 := n0_; have HO361 := n1_; have HO364 := n2_; have HO368 := n3_; have HO376 := n4_; have HO382 := n5_; have BK352 := n6_; have BK353 := n7_; have BK370 := n8_; have BK378 := n9_; have HB := n10_; clear n0_ n1_ n2_ n3_ n4_ n5_ n6_ n7_ n8_ n9_ n10_; (try clear hb); (try clear hb2); (try clear hk); (try clear hi); (try clear ho0)) | ((with_reducible refine gate_dst (N := 13) rfl ?_); (try (refine gate_guard (by rfl) ?_; dsimp only)); refine box_event ?hg (N := 13) ?hd (cs := #[.int .i64 0, .slice none 0 0]) (t := 55) ?hr ?_; (case hd => rfl); (case hg => rfl); (case hr => first | (go_simp; done) | (go_simp; rfl)); intro gb384 hg w43 hbox hb; have n0_ := am (Kd.N_below (Kd.N_elderB (pn HO357) gb384 (Nat.le_of_eq hg.symm)) hb); have n1_ := am (Kd.N_below (Kd.N_elderB (pn HO361) gb384 (Nat.le_of_eq hg.symm)) hb); have n2_ := am (Kd.R_below (pr HO364) hb); have n3_ := am (Kd.N_below (Kd.N_elderB (pn HO368) gb384 (Nat.le_of_eq hg.symm)) hb); have n4_ := am (Kd.N_below (Kd.N_elderB (pn HO376) gb384 (Nat.le_of_eq hg.symm)) hb); have n5_ := am (Kd.N_below (Kd.N_elderB (pn HO382) gb384 (Nat.le_of_eq hg.symm)) hb); have n6_ := bb BK352 hb; have n7_ := bb BK353 hb; have n8_ := bb BK370 hb; have n9_ := bb BK378 hb; have n10_ := am (below_step (pb HB) hb); have n11_ := am (hbox); have n12_ := am ((by rw [hg]; exact (below_size (pb HB)) : w.heap.size ≤ gb384)); have n13_ := am ((by rw [hg]; exact (below_size (pb HB)) : w.heap.size ≤ gb384)); have n14_ := am ((by rw [hg]; exact Nat.ne_of_lt (bl BK352) : gb352 ≠ gb384)); have n15_ := am ((by rw [hg]; exact Nat.ne_of_gt (bl BK352) : gb384 ≠ gb352)); have n16_ := am ((by rw [hg]; exact Nat.ne_of_lt (bl BK353) : gb353 ≠ gb384)); have n17_ := am ((by rw [hg]; exact Nat.ne_of_gt (bl BK353) : gb384 ≠ gb353)); have n18_ := am ((by rw [hg]; exact Nat.ne_of_lt (bl BK370) : gb370 ≠ gb384)); have n19_ := am ((by rw [hg]; exact Nat.ne_of_gt (bl BK370) : gb384 ≠ gb370)); have n20_ := am ((by rw [hg]; exact Nat.ne_of_lt (bl BK378) : gb378 ≠ gb384)); have n21_ := am ((by rw [hg]; exact Nat.ne_of_gt (bl BK378) : gb384 ≠ gb378)); clear HO357 HO361 HO364 HO368 HO376 HO382 BK352 BK353 BK370 BK378 HB; have HO357 := n0_; have HO361 := n1_; have HO364 := n2_; have HO368 := n3_; have HO376 := n4_; have HO382 := n5_; have BK352 := n6_; have BK353 := n7_; have BK370 := n8_; have BK378 := n9_; have HB := n10_; have BK384 := n11_; have GW384 := n12_; have GE384 := n13_; have NB352_384 := n14_; have NB384_352 := n15_; have NB353_384 := n16_; have NB384_353 := n17_; have NB370_384 := n18_; have NB384_370 := n19_; have NB378_384 := n20_; have NB384_378 := n21_; clear n0_ n1_ n2_ n3_ n4_ n5_ n6_ n7_ n8_ n9_ n10_ n11_ n12_ n13_ n14_ n15_ n16_ n17_ n18_ n19_ n20_ n21_ hb hbox hg; have hnb44 := NB384_352.out; have hnc44 := NB352_384.out; have hnb45 := NB384_353.out; have hnc45 := NB353_384.out; have hnb46 := NB384_370.out; have hnc46 := NB370_384.out; have hnb47 := NB384_378.out; have hnc47 := NB378_384.out; have hcz48_0 : w43.cell? ⟨gb384, 0, none⟩ = some (.int .i64 0) := (blk_cell BK384.out 0).trans rfl; have hcz48_1 : w43.cell? ⟨gb384, 1, none⟩ = some (.slice none 0 0) := (blk_cell BK384.out 1).trans rfl; have hfz48_0 := blk_frozen BK384.out 0; have hfz48_1 := blk_frozen BK384.out 1; obtain ⟨Ao49, co49, eo49⟩ := Kd.N_slice HO382.out; subst eo49; have hcz50_0 : w43.cell? ⟨gb352, 0, none⟩ = some (.int .i64 t354) := (blk_cell BK352.out 0).trans rfl; have hcz50_1 : w43.cell? ⟨gb352, 1, none⟩ = some (.slice Ao21 t355.length co21) := (blk_cell BK352.out 1).trans rfl; have hfz50_0 := blk_frozen BK352.out 0; have hfz50_1 := blk_frozen BK352.out 1) | ((with_reducible refine gate_callee (f := 36) rfl ?_); refine goesL_ (some 64) rfl rfl Tryd.func36 (by kernel_rfl) rfl #[.agg #[.int .i64 t354, .slice Ao21 t355.length co21], .agg #[.int .i64 t379, .slice Ao49 t380.length co49]] rfl (by (try simp only [List.map_toArray, List.map_cons, List.map_nil]); first | done | rfl | (simp only [List.length_drop, List.length_take]; rfl)) ?_; (with_reducible refine (matrix_Mul.calls k t354 _ _ t355 t379 _ _ t380 t385 t386 t389 _ ?side5 ?side1 ?side2 ?side3 ?side4 A12.out).mono ?_); (case side1 => refine (Kd.N_reads' (e := 25) (base := w.heap.size) (ok := fun k_ => (((((((((k_ ≠ gb352 ∧ k_ ≠ gb353) ∧ some k_ ≠ (.slice Ao24 t359.length co24 : Value).ownBlock) ∧ some k_ ≠ (v363 : Value).ownBlock) ∧ some k_ ≠ (.slice Ao33 t366.length co33 : Value).ownBlock) ∧ k_ ≠ gb370) ∧ some k_ ≠ (.slice Ao40 t374.length co40 : Value).ownBlock) ∧ k_ ≠ gb378) ∧ some k_ ≠ (.slice Ao49 t380.length co49 : Value).ownBlock) ∧ k_ ≠ gb384)) (n := t355.length) (c := co21) ?_).2.2; exact (pnx (Kd.N_mono (nf2N (Kd.N_mono HO357.out (fun k_ hk => (⟨hk, hk.2⟩ : _ ∧ k_ ≠ gb384))) (fun _ hk => hk.2) (.int .i64 t379) (.slice Ao49 t380.length co49)) (fun _ h_ => h_.1)))); (case side2 => exact (Kd.N_reads' HO357.out).2.1); (case side3 => refine (Kd.N_reads' (e := 25) (base := w.heap.size) (ok := fun k_ => ((some k_ ≠ (.slice Ao21 t355.length co21 : Value).ownBlock ∧ (some k_ ≠ (.slice Ao24 t359.length co24 : Value).ownBlock ∧ (some k_ ≠ (v363 : Value).ownBlock ∧ (some k_ ≠ (.slice Ao33 t366.length co33 : Value).ownBlock ∧ (some k_ ≠ (.slice Ao40 t374.length co40 : Value).ownBlock ∧ (k_ ≠ gb352 ∧ (k_ ≠ gb353 ∧ (k_ ≠ gb370 ∧ k_ ≠ gb378)))))))) ∧ k_ ≠ gb384)) (n := t380.length) (c := co49) ?_).2.2; exact (pnx (Kd.N_mono (nf2N (Kd.N_mono HO382.out (fun k_ hk => (⟨hk, hk.2⟩ : _ ∧ k_ ≠ gb384))) (fun _ hk => hk.2) (.int .i64 t379) (.slice Ao49 t380.length co49)) (fun _ h_ => h_.1)))); (case side4 => exact (Kd.N_reads' HO382.out).2.1); (case side5 => exact TabOk.below HT.out (pb HB)); rintro e w51 ⟨v387, rfl, ho0, hb⟩; refine ⟨_, rfl, ?_⟩; have n0_ := am (Kd.N_elder' (pnx (Kd.N_mono (nf2N (Kd.N_mono HO357.out (fun k_ hk => (⟨hk, hk.2⟩ : _ ∧ k_ ≠ gb384))) (fun _ hk => hk.2) (.int .i64 t379) (.slice Ao49 t380.length co49)) (fun _ h_ => h_.1))) (by first | exact Kd.N_base ho0 | exact Kd.S_base ho0 | exact Kd.R_base ho0) hb); have n1_ := am (Kd.N_elder' (pnx (Kd.N_mono (nf2N (Kd.N_mono HO361.out (fun k_ hk => (⟨hk, hk.2⟩ : _ ∧ k_ ≠ gb384))) (fun _ hk => hk.2) (.int .i64 t379) (.slice Ao49 t380.length co49)) (fun _ h_ => h_.1))) (by first | exact Kd.N_base ho0 | exact Kd.S_base ho0 | exact Kd.R_base ho0) hb); have n2_ := am (Kd.R_below (by (with_reducible repeat (first | apply Kd.R_alloc | apply Kd.R_drewN | apply Kd.R_drew)); exact (Kd.R_mono (nf2R (Kd.R_types HO364.out BK384.out (by decide)) (fun _ hk => hk.2) (.int .i64 t379) (.slice Ao49 t380.length co49)) (fun _ h_ => h_.1))) hb); have n3_ := am (Kd.N_elder' (pnx (Kd.N_mono (nf2N (Kd.N_mono HO368.out (fun k_ hk => (⟨hk, hk.2⟩ : _ ∧ k_ ≠ gb384))) (fun _ hk => hk.2) (.int .i64 t379) (.slice Ao49 t380.length co49)) (fun _ h_ => h_.1))) (by first | exact Kd.N_base ho0 | exact Kd.S_base ho0 | exact Kd.R_base ho0) hb); have n4_ := am (Kd.N_elder' (pnx (Kd.N_mono (nf2N (Kd.N_mono HO376.out (fun k_ hk => (⟨hk, hk.2⟩ : _ ∧ k_ ≠ gb384))) (fun _ hk => hk.2) (.int .i64 t379) (.slice Ao49 t380.length co49)) (fun _ h_ => h_.1))) (by first | exact Kd.N_base ho0 | exact Kd.S_base ho0 | exact Kd.R_base ho0) hb); have n5_ := am (Kd.N_elder' (pnx (Kd.N_mono (nf2N (Kd.N_mono HO382.out (fun k_ hk => (⟨hk, hk.2⟩ : _ ∧ k_ ≠ gb384))) (fun _ hk => hk.2) (.int .i64 t379) (.slice Ao49 t380.length co49)) (fun _ h_ => h_.1))) (by first | exact Kd.N_base ho0 | exact Kd.S_base ho0 | exact Kd.R_base ho0) hb); have n6_ := am (Kd.N_lower (Kd.N_mono (ok' := fun k_ => some k_ ≠ (.slice Ao21 t355.length co21 : Value).ownBlock ∧ some k_ ≠ (.slice Ao24 t359.length co24 : Value).ownBlock ∧ some k_ ≠ (v363 : Value).ownBlock ∧ some k_ ≠ (.slice Ao33 t366.length co33 : Value).ownBlock ∧ some k_ ≠ (.slice Ao40 t374.length co40 : Value).ownBlock ∧ some k_ ≠ (.slice Ao49 t380.length co49 : Value).ownBlock ∧ k_ ≠ gb352 ∧ k_ ≠ gb353 ∧ k_ ≠ gb370 ∧ k_ ≠ gb378 ∧ k_ ≠ gb384) (Kd.S_N (Kd.S_bound ho0)) (fun k_ hk_ => ⟨(Kd.fresh' (Kd.N_lt (pnx (Kd.N_mono (nf2N (Kd.N_mono HO357.out (fun k_ hk => (⟨hk, hk.2⟩ : _ ∧ k_ ≠ gb384))) (fun _ hk => hk.2) (.int .i64 t379) (.slice Ao49 t380.length co49)) (fun _ h_ => h_.1)))) k_ hk_.2.1), (Kd.fresh' (Kd.N_lt (pnx (Kd.N_mono (nf2N (Kd.N_mono HO361.out (fun k_ hk => (⟨hk, hk.2⟩ : _ ∧ k_ ≠ gb384))) (fun _ hk => hk.2) (.int .i64 t379) (.slice Ao49 t380.length co49)) (fun _ h_ => h_.1)))) k_ hk_.2.1), (Kd.fresh' (Kd.R_lt (by (with_reducible repeat (first | apply Kd.R_alloc | apply Kd.R_drewN | apply Kd.R_drew)); exact (Kd.R_mono (nf2R (Kd.R_types HO364.out BK384.out (by decide)) (fun _ hk => hk.2) (.int .i64 t379) (.slice Ao49 t380.length co49)) (fun _ h_ => h_.1)))) k_ hk_.2.1), (Kd.fresh' (Kd.N_lt (pnx (Kd.N_mono (nf2N (Kd.N_mono HO368.out (fun k_ hk => (⟨hk, hk.2⟩ : _ ∧ k_ ≠ gb384))) (fun _ hk => hk.2) (.int .i64 t379) (.slice Ao49 t380.length co49)) (fun _ h_ => h_.1)))) k_ hk_.2.1), (Kd.fresh' (Kd.N_lt (pnx (Kd.N_mono (nf2N (Kd.N_mono HO376.out (fun k_ hk => (⟨hk, hk.2⟩ : _ ∧ k_ ≠ gb384))) (fun _ hk => hk.2) (.int .i64 t379) (.slice Ao49 t380.length co49)) (fun _ h_ => h_.1)))) k_ hk_.2.1), (Kd.fresh' (Kd.N_lt (pnx (Kd.N_mono (nf2N (Kd.N_mono HO382.out (fun k_ hk => (⟨hk, hk.2⟩ : _ ∧ k_ ≠ gb384))) (fun _ hk => hk.2) (.int .i64 t379) (.slice Ao49 t380.length co49)) (fun _ h_ => h_.1)))) k_ hk_.2.1), (fq BK352 k_ hk_.2.1), (fq BK353 k_ hk_.2.1), (fq BK370 k_ hk_.2.1), (fq BK378 k_ hk_.2.1), (Kd.freshB (g := gb384) (o := .cells #[.int .i64 t379, .slice Ao49 t380.length co49] 55 (0, 0)) (by (with_reducible repeat (first | refine blk_drewN ?_ _ | refine blk_drew ?_ | refine blk_alloc ?_ _)); refine blk_put (cs := #[.int .i64 t379, .slice none 0 0]) ?_ 1 _ rfl; (with_reducible repeat (first | refine blk_drewN ?_ _ | refine blk_drew ?_ | refine blk_alloc ?_ _)); refine blk_put (cs := #[.int .i64 0, .slice none 0 0]) ?_ 0 _ rfl; (with_reducible repeat (first | refine blk_drewN ?_ _ | refine blk_drew ?_ | refine blk_alloc ?_ _)); exact BK384.out) k_ hk_.2.1)⟩)) (below_size (pb HB))); have n7_ := bq BK352 hb; have n8_ := bq BK353 hb; have n9_ := bq BK370 hb; have n10_ := bq BK378 hb; have n11_ := am (blk_below (g := gb384) (o := .cells #[.int .i64 t379, .slice Ao49 t380.length co49] 55 (0, 0)) (by (with_reducible repeat (first | refine blk_drewN ?_ _ | refine blk_drew ?_ | refine blk_alloc ?_ _)); refine blk_put (cs := #[.int .i64 t379, .slice none 0 0]) ?_ 1 _ rfl; (with_reducible repeat (first | refine blk_drewN ?_ _ | refine blk_drew ?_ | refine blk_alloc ?_ _)); refine blk_put (cs := #[.int .i64 0, .slice none 0 0]) ?_ 0 _ rfl; (with_reducible repeat (first | refine blk_drewN ?_ _ | refine blk_drew ?_ | refine blk_alloc ?_ _)); exact BK384.out) hb); have n12_ := am (below_step (pb HB) hb); clear HO357 HO361 HO364 HO368 HO376 HO382 BK352 BK353 BK370 BK378 BK384 HB; have HO357 := n0_; have HO361 := n1_; have HO364 := n2_; have HO368 := n3_; have HO376 := n4_; have HO382 := n5_; have HO388 := n6_; have BK352 := n7_; have BK353 := n8_; have BK370 := n9_; have BK378 := n10_; have BK384 := n11_; have HB := n12_; clear n0_ n1_ n2_ n3_ n4_ n5_ n6_ n7_ n8_ n9_ n10_ n11_ n12_; (try clear hb); (try clear hb2); (try clear hk); (try clear hi); (try clear ho0)) | ((with_reducible refine gate_dst (N := 15) rfl ?_); (try (refine gate_guard (by rfl) ?_; dsimp only)); refine box_event ?hg (N := 15) ?hd (cs := #[.int .i64 0, .slice none 0 0]) (t := 55) ?hr ?_; (case hd => rfl); (case hg => rfl); (case hr => first | (go_simp; done) | (go_simp; rfl)); intro gb390 hg w52 hbox hb; have n0_ := am (Kd.N_below (Kd.N_elderB (pn HO357) gb390 (Nat.le_of_eq hg.symm)) hb); have n1_ := am (Kd.N_below (Kd.N_elderB (pn HO361) gb390 (Nat.le_of_eq hg.symm)) hb); have n2_ := am (Kd.R_below (pr HO364) hb); have n3_ := am (Kd.N_below (Kd.N_elderB (pn HO368) gb390 (Nat.le_of_eq hg.symm)) hb); have n4_ := am (Kd.N_below (Kd.N_elderB (pn HO376) gb390 (Nat.le_of_eq hg.symm)) hb); have n5_ := am (Kd.N_below (Kd.N_elderB (pn HO382) gb390 (Nat.le_of_eq hg.symm)) hb); have n6_ := am (Kd.N_below (Kd.N_elderB (pn HO388) gb390 (Nat.le_of_eq hg.symm)) hb); have n7_ := bb BK352 hb; have n8_ := bb BK353 hb; have n9_ := bb BK370 hb; have n10_ := bb BK378 hb; have n11_ := bb BK384 hb; have n12_ := am (below_step (pb HB) hb); have n13_ := am (hbox); have n14_ := am ((by rw [hg]; exact (below_size (pb HB)) : w.heap.size ≤ gb390)); have n15_ := am ((by rw [hg]; exact (below_size (pb HB)) : w.heap.size ≤ gb390)); have n16_ := am ((by rw [hg]; exact Nat.ne_of_lt (bl BK352) : gb352 ≠ gb390)); have n17_ := am ((by rw [hg]; exact Nat.ne_of_gt (bl BK352) : gb390 ≠ gb352)); have n18_ := am ((by rw [hg]; exact Nat.ne_of_lt (bl BK353) : gb353 ≠ gb390)); have n19_ := am ((by rw [hg]; exact Nat.ne_of_gt (bl BK353) : gb390 ≠ gb353)); have n20_ := am ((by rw [hg]; exact Nat.ne_of_lt (bl BK370) : gb370 ≠ gb390)); have n21_ := am ((by rw [hg]; exact Nat.ne_of_gt (bl BK370) : gb390 ≠ gb370)); have n22_ := am ((by rw [hg]; exact Nat.ne_of_lt (bl BK378) : gb378 ≠ gb390)); have n23_ := am ((by rw [hg]; exact Nat.ne_of_gt (bl BK378) : gb390 ≠ gb378)); have n24_ := am ((by rw [hg]; exact Nat.ne_of_lt (bl BK384) : gb384 ≠ gb390)); have n25_ := am ((by rw [hg]; exact Nat.ne_of_gt (bl BK384) : gb390 ≠ gb384)); clear HO357 HO361 HO364 HO368 HO376 HO382 HO388 BK352 BK353 BK370 BK378 BK384 HB; have HO357 := n0_; have HO361 := n1_; have HO364 := n2_; have HO368 := n3_; have HO376 := n4_; have HO382 := n5_; have HO388 := n6_; have BK352 := n7_; have BK353 := n8_; have BK370 := n9_; have BK378 := n10_; have BK384 := n11_; have HB := n12_; have BK390 := n13_; have GW390 := n14_; have GE390 := n15_; have NB352_390 := n16_; have NB390_352 := n17_; have NB353_390 := n18_; have NB390_353 := n19_; have NB370_390 := n20_; have NB390_370 := n21_; have NB378_390 := n22_; have NB390_378 := n23_; have NB384_390 := n24_; have NB390_384 := n25_; clear n0_ n1_ n2_ n3_ n4_ n5_ n6_ n7_ n8_ n9_ n10_ n11_ n12_ n13_ n14_ n15_ n16_ n17_ n18_ n19_ n20_ n21_ n22_ n23_ n24_ n25_ hb hbox hg; have hnb53 := NB390_352.out; have hnc53 := NB352_390.out; have hnb54 := NB390_353.out; have hnc54 := NB353_390.out; have hnb55 := NB390_370.out; have hnc55 := NB370_390.out; have hnb56 := NB390_378.out; have hnc56 := NB378_390.out; have hnb57 := NB390_384.out; have hnc57 := NB384_390.out; have hcz58_0 : w52.cell? ⟨gb390, 0, none⟩ = some (.int .i64 0) := (blk_cell BK390.out 0).trans rfl; have hcz58_1 : w52.cell? ⟨gb390, 1, none⟩ = some (.slice none 0 0) := (blk_cell BK390.out 1).trans rfl; have hfz58_0 := blk_frozen BK390.out 0; have hfz58_1 := blk_frozen BK390.out 1; obtain ⟨Ao59, co59, eo59⟩ := Kd.N_slice HO388.out; subst eo59))
  (try simp only [Act.put, q1, q2, q3])
  go_cut [92] (fun v92 wc => ∃ (kq : Nat) (x92_12 : Bool), v92 = .bool x92_12 ∧ Aside0 (downpourlaw03_MatrixRound.j0 kq a2 t362 x92_12 t354 t355 t358 t359 t365 t366 = some r) ∧ Aside0 (kq ≤ k) ∧ Aside0 (Kd.R Kd.string 9 wc w.heap.size (fun _ => True) v363 t362) ∧ Aside0 (Kd.N k25 25 wc w.heap.size (fun k_ => some k_ ≠ (v363 : Value).ownBlock ∧ some k_ ≠ ((.slice Ao24 t359.length co24) : Value).ownBlock ∧ some k_ ≠ ((.slice Ao33 t366.length co33) : Value).ownBlock ∧ some k_ ≠ ((.slice Ao40 t374.length co40) : Value).ownBlock ∧ some k_ ≠ ((.slice Ao49 t380.length co49) : Value).ownBlock ∧ some k_ ≠ ((.slice Ao59 t386.length co59) : Value).ownBlock ∧ k_ ≠ gb352 ∧ k_ ≠ gb353 ∧ k_ ≠ gb370 ∧ k_ ≠ gb378 ∧ k_ ≠ gb384 ∧ k_ ≠ gb390) (.slice Ao21 t355.length co21) t355) ∧ Aside0 (Kd.N k25 25 wc w.heap.size (fun k_ => some k_ ≠ (v363 : Value).ownBlock ∧ some k_ ≠ ((.slice Ao21 t355.length co21) : Value).ownBlock ∧ some k_ ≠ ((.slice Ao33 t366.length co33) : Value).ownBlock ∧ some k_ ≠ ((.slice Ao40 t374.length co40) : Value).ownBlock ∧ some k_ ≠ ((.slice Ao49 t380.length co49) : Value).ownBlock ∧ some k_ ≠ ((.slice Ao59 t386.length co59) : Value).ownBlock ∧ k_ ≠ gb352 ∧ k_ ≠ gb353 ∧ k_ ≠ gb370 ∧ k_ ≠ gb378 ∧ k_ ≠ gb384 ∧ k_ ≠ gb390) (.slice Ao24 t359.length co24) t359) ∧ Aside0 (Kd.N k25 25 wc w.heap.size (fun k_ => some k_ ≠ (v363 : Value).ownBlock ∧ some k_ ≠ ((.slice Ao21 t355.length co21) : Value).ownBlock ∧ some k_ ≠ ((.slice Ao24 t359.length co24) : Value).ownBlock ∧ some k_ ≠ ((.slice Ao40 t374.length co40) : Value).ownBlock ∧ some k_ ≠ ((.slice Ao49 t380.length co49) : Value).ownBlock ∧ some k_ ≠ ((.slice Ao59 t386.length co59) : Value).ownBlock ∧ k_ ≠ gb352 ∧ k_ ≠ gb353 ∧ k_ ≠ gb370 ∧ k_ ≠ gb378 ∧ k_ ≠ gb384 ∧ k_ ≠ gb390) (.slice Ao33 t366.length co33) t366) ∧ Aside0 (Kd.N k25 25 wc w.heap.size (fun k_ => some k_ ≠ (v363 : Value).ownBlock ∧ some k_ ≠ ((.slice Ao21 t355.length co21) : Value).ownBlock ∧ some k_ ≠ ((.slice Ao24 t359.length co24) : Value).ownBlock ∧ some k_ ≠ ((.slice Ao33 t366.length co33) : Value).ownBlock ∧ some k_ ≠ ((.slice Ao49 t380.length co49) : Value).ownBlock ∧ some k_ ≠ ((.slice Ao59 t386.length co59) : Value).ownBlock ∧ k_ ≠ gb352 ∧ k_ ≠ gb353 ∧ k_ ≠ gb370 ∧ k_ ≠ gb378 ∧ k_ ≠ gb384 ∧ k_ ≠ gb390) (.slice Ao40 t374.length co40) t374) ∧ Aside0 (Kd.N k25 25 wc w.heap.size (fun k_ => some k_ ≠ (v363 : Value).ownBlock ∧ some k_ ≠ ((.slice Ao21 t355.length co21) : Value).ownBlock ∧ some k_ ≠ ((.slice Ao24 t359.length co24) : Value).ownBlock ∧ some k_ ≠ ((.slice Ao33 t366.length co33) : Value).ownBlock ∧ some k_ ≠ ((.slice Ao40 t374.length co40) : Value).ownBlock ∧ some k_ ≠ ((.slice Ao59 t386.length co59) : Value).ownBlock ∧ k_ ≠ gb352 ∧ k_ ≠ gb353 ∧ k_ ≠ gb370 ∧ k_ ≠ gb378 ∧ k_ ≠ gb384 ∧ k_ ≠ gb390) (.slice Ao49 t380.length co49) t380) ∧ Aside0 (Kd.N k25 25 wc w.heap.size (fun k_ => some k_ ≠ (v363 : Value).ownBlock ∧ some k_ ≠ ((.slice Ao21 t355.length co21) : Value).ownBlock ∧ some k_ ≠ ((.slice Ao24 t359.length co24) : Value).ownBlock ∧ some k_ ≠ ((.slice Ao33 t366.length co33) : Value).ownBlock ∧ some k_ ≠ ((.slice Ao40 t374.length co40) : Value).ownBlock ∧ some k_ ≠ ((.slice Ao49 t380.length co49) : Value).ownBlock ∧ k_ ≠ gb352 ∧ k_ ≠ gb353 ∧ k_ ≠ gb370 ∧ k_ ≠ gb378 ∧ k_ ≠ gb384 ∧ k_ ≠ gb390) (.slice Ao59 t386.length co59) t386) ∧ Aside0 (wc.heap[gb352]? = some (.cells #[.int .i64 t354, (.slice Ao21 t355.length co21)] 55 (0, 0))) ∧ Aside0 (wc.heap[gb353]? = some (.cells #[.int .i64 t358, (.slice Ao24 t359.length co24)] 55 (0, 0))) ∧ Aside0 (wc.heap[gb370]? = some (.cells #[.int .i64 t365, (.slice Ao33 t366.length co33)] 55 (0, 0))) ∧ Aside0 (wc.heap[gb378]? = some (.cells #[.int .i64 t373, (.slice Ao40 t374.length co40)] 55 (0, 0))) ∧ Aside0 (wc.heap[gb384]? = some (.cells #[.int .i64 t379, (.slice Ao49 t380.length co49)] 55 (0, 0))) ∧ Aside0 (wc.heap[gb390]? = some (.cells #[.int .i64 t385, (.slice Ao59 t386.length co59)] 55 (0, 0))) ∧ Aside0 (Below w.heap.size w wc))
  case first =>
   have H := HC13.out
   clear HC13
   by_cases c60 : t377 = 0
   ·
    rw [if_pos c60] at H
    have c60b0 : (t377 == 0) = true := beq_iff_eq.mpr c60
    have c60b1 : (t377 != 0) = false := bne_eq_false_iff_eq.mpr c60
    clear c60
    (first | rw [c60b0] | (simp only [i64_w, i32_w]; rw [c60b0]) | skip)
    by_cases c61 : t383 = 0
    ·
     rw [if_pos c61] at H
     have c61b0 : (t383 == 0) = true := beq_iff_eq.mpr c61
     have c61b1 : (t383 != 0) = false := bne_eq_false_iff_eq.mpr c61
     clear c61
     by_cases c62 : t389 = 0
     ·
      rw [if_pos c62] at H
      have c62b0 : (t389 == 0) = true := beq_iff_eq.mpr c62
      have c62b1 : (t389 != 0) = false := bne_eq_false_iff_eq.mpr c62
      clear c62
      replace H := Option.bind_eq_some_iff.mp H
      obtain ⟨t391, A630, H⟩ := H
      replace H : (if t391 = true then ((downpourref03_Same.f k t385 t386 t354 t355).bind fun t392 => (if t392 = true then ((downpourlaw03_alive.f k).bind fun t393 => (downpourlaw03_MatrixRound.j0 k a2 t362 (!t393) t354 t355 t358 t359 t365 t366)) else (downpourlaw03_MatrixRound.j0 k a2 t362 true t354 t355 t358 t359 t365 t366))) else (downpourlaw03_MatrixRound.j0 k a2 t362 true t354 t355 t358 t359 t365 t366)) = some r := H
      have A63 := Aside0.mk A630
      clear A630
      by_cases c64 : t391 = true
      ·
       subst c64
       have H1 : ((downpourref03_Same.f k t385 t386 t354 t355).bind fun t392 => (if t392 = true then ((downpourlaw03_alive.f k).bind fun t393 => (downpourlaw03_MatrixRound.j0 k a2 t362 (!t393) t354 t355 t358 t359 t365 t366)) else (downpourlaw03_MatrixRound.j0 k a2 t362 true t354 t355 t358 t359 t365 t366))) = some r := by rw [if_pos rfl] at H; exact H
       clear H
       have H := H1
       clear H1
       replace H := Option.bind_eq_some_iff.mp H
       obtain ⟨t392, A650, H⟩ := H
       replace H : (if t392 = true then ((downpourlaw03_alive.f k).bind fun t393 => (downpourlaw03_MatrixRound.j0 k a2 t362 (!t393) t354 t355 t358 t359 t365 t366)) else (downpourlaw03_MatrixRound.j0 k a2 t362 true t354 t355 t358 t359 t365 t366)) = some r := H
       have A65 := Aside0.mk A650
       clear A650
       by_cases c66 : t392 = true
       ·
        subst c66
        have H1 : ((downpourlaw03_alive.f k).bind fun t393 => (downpourlaw03_MatrixRound.j0 k a2 t362 (!t393) t354 t355 t358 t359 t365 t366)) = some r := by rw [if_pos rfl] at H; exact H
        clear H
        have H := H1
        clear H1
        replace H := Option.bind_eq_some_iff.mp H
        obtain ⟨t393, A670, H⟩ := H
        replace H : (downpourlaw03_MatrixRound.j0 k a2 t362 (!t393) t354 t355 t358 t359 t365 t366) = some r := H
        have A67 := Aside0.mk A670
        clear A670
        have H' := Aside0.mk H
        clear H
        have hnb68 := NB378_352.out
        have hnc68 := NB352_378.out
        have hnb69 := NB378_353.out
        have hnc69 := NB353_378.out
        have hnb70 := NB378_370.out
        have hnc70 := NB370_378.out
        have hnb71 := NB378_384.out
        have hnc71 := NB384_378.out
        have hnb72 := NB378_390.out
        have hnc72 := NB390_378.out
        have hcz73_0 : w52.cell? ⟨gb378, 0, none⟩ = some (.int .i64 t373) := (blk_cell BK378.out 0).trans rfl
        have hcz73_1 : w52.cell? ⟨gb378, 1, none⟩ = some (.slice Ao40 t374.length co40) := (blk_cell BK378.out 1).trans rfl
        have hfz73_0 := blk_frozen BK378.out 0
        have hfz73_1 := blk_frozen BK378.out 1
        have hnb74 := NB352_353.out
        have hnc74 := NB353_352.out
        have hnb75 := NB352_370.out
        have hnc75 := NB370_352.out
        have hnb76 := NB352_384.out
        have hnc76 := NB384_352.out
        have hnb77 := NB352_390.out
        have hnc77 := NB390_352.out
        have hcz78_0 : w52.cell? ⟨gb352, 0, none⟩ = some (.int .i64 t354) := (blk_cell BK352.out 0).trans rfl
        have hcz78_1 : w52.cell? ⟨gb352, 1, none⟩ = some (.slice Ao21 t355.length co21) := (blk_cell BK352.out 1).trans rfl
        have hfz78_0 := blk_frozen BK352.out 0
        have hfz78_1 := blk_frozen BK352.out 1
        go_wp2_with (first | (go_at_call 40; (with_reducible refine (downpourref03_Same.calls k t373 _ _ t374 t354 _ _ t355 true _ ?side1 ?side2 ?side3 ?side4 A63.out).mono ?_); (case side1 => refine (Kd.N_reads' (e := 25) (base := w.heap.size) (ok := fun k_ => ((((((some k_ ≠ (.slice Ao21 t355.length co21 : Value).ownBlock ∧ (some k_ ≠ (.slice Ao24 t359.length co24 : Value).ownBlock ∧ (some k_ ≠ (v363 : Value).ownBlock ∧ (some k_ ≠ (.slice Ao33 t366.length co33 : Value).ownBlock ∧ (k_ ≠ gb352 ∧ (k_ ≠ gb353 ∧ k_ ≠ gb370)))))) ∧ k_ ≠ gb378) ∧ some k_ ≠ (.slice Ao49 t380.length co49 : Value).ownBlock) ∧ k_ ≠ gb384) ∧ some k_ ≠ (.slice Ao59 t386.length co59 : Value).ownBlock) ∧ k_ ≠ gb390)) (n := t374.length) (c := co40) ?_).2.2; exact (pnx (Kd.N_mono (nf2N (Kd.N_mono HO376.out (fun k_ hk => (⟨hk, hk.2⟩ : _ ∧ k_ ≠ gb390))) (fun _ hk => hk.2) (.int .i64 t385) (.slice Ao59 t386.length co59)) (fun _ h_ => h_.1)))); (case side2 => exact (Kd.N_reads' HO376.out).2.1); (case side3 => refine (Kd.N_reads' (e := 25) (base := w.heap.size) (ok := fun k_ => (((((((((((k_ ≠ gb352 ∧ k_ ≠ gb353) ∧ some k_ ≠ (.slice Ao24 t359.length co24 : Value).ownBlock) ∧ some k_ ≠ (v363 : Value).ownBlock) ∧ some k_ ≠ (.slice Ao33 t366.length co33 : Value).ownBlock) ∧ k_ ≠ gb370) ∧ some k_ ≠ (.slice Ao40 t374.length co40 : Value).ownBlock) ∧ k_ ≠ gb378) ∧ some k_ ≠ (.slice Ao49 t380.length co49 : Value).ownBlock) ∧ k_ ≠ gb384) ∧ some k_ ≠ (.slice Ao59 t386.length co59 : Value).ownBlock) ∧ k_ ≠ gb390)) (n := t355.length) (c := co21) ?_).2.2; exact (pnx (Kd.N_mono (nf2N (Kd.N_mono HO357.out (fun k_ hk => (⟨hk, hk.2⟩ : _ ∧ k_ ≠ gb390))) (fun _ hk => hk.2) (.int .i64 t385) (.slice Ao59 t386.length co59)) (fun _ h_ => h_.1)))); (case side4 => exact (Kd.N_reads' HO357.out).2.1); rintro e w79 ⟨rfl, hb⟩; have n0_ := am (Kd.N_below (pnx (Kd.N_mono (nf2N (Kd.N_mono HO357.out (fun k_ hk => (⟨hk, hk.2⟩ : _ ∧ k_ ≠ gb390))) (fun _ hk => hk.2) (.int .i64 t385) (.slice Ao59 t386.length co59)) (fun _ h_ => h_.1))) hb); have n1_ := am (Kd.N_below (pnx (Kd.N_mono (nf2N (Kd.N_mono HO361.out (fun k_ hk => (⟨hk, hk.2⟩ : _ ∧ k_ ≠ gb390))) (fun _ hk => hk.2) (.int .i64 t385) (.slice Ao59 t386.length co59)) (fun _ h_ => h_.1))) hb); have n2_ := am (Kd.R_below (by (with_reducible repeat (first | apply Kd.R_alloc | apply Kd.R_drewN | apply Kd.R_drew)); exact (Kd.R_mono (nf2R (Kd.R_types HO364.out BK390.out (by decide)) (fun _ hk => hk.2) (.int .i64 t385) (.slice Ao59 t386.length co59)) (fun _ h_ => h_.1))) hb); have n3_ := am (Kd.N_below (pnx (Kd.N_mono (nf2N (Kd.N_mono HO368.out (fun k_ hk => (⟨hk, hk.2⟩ : _ ∧ k_ ≠ gb390))) (fun _ hk => hk.2) (.int .i64 t385) (.slice Ao59 t386.length co59)) (fun _ h_ => h_.1))) hb); have n4_ := am (Kd.N_below (pnx (Kd.N_mono (nf2N (Kd.N_mono HO376.out (fun k_ hk => (⟨hk, hk.2⟩ : _ ∧ k_ ≠ gb390))) (fun _ hk => hk.2) (.int .i64 t385) (.slice Ao59 t386.length co59)) (fun _ h_ => h_.1))) hb); have n5_ := am (Kd.N_below (pnx (Kd.N_mono (nf2N (Kd.N_mono HO382.out (fun k_ hk => (⟨hk, hk.2⟩ : _ ∧ k_ ≠ gb390))) (fun _ hk => hk.2) (.int .i64 t385) (.slice Ao59 t386.length co59)) (fun _ h_ => h_.1))) hb); have n6_ := am (Kd.N_below (pnx (Kd.N_mono (nf2N (Kd.N_mono HO388.out (fun k_ hk => (⟨hk, hk.2⟩ : _ ∧ k_ ≠ gb390))) (fun _ hk => hk.2) (.int .i64 t385) (.slice Ao59 t386.length co59)) (fun _ h_ => h_.1))) hb); have n7_ := bq BK352 hb; have n8_ := bq BK353 hb; have n9_ := bq BK370 hb; have n10_ := bq BK378 hb; have n11_ := bq BK384 hb; have n12_ := am (blk_below (g := gb390) (o := .cells #[.int .i64 t385, .slice Ao59 t386.length co59] 55 (0, 0)) (by (with_reducible repeat (first | refine blk_drewN ?_ _ | refine blk_drew ?_ | refine blk_alloc ?_ _)); refine blk_put (cs := #[.int .i64 t385, .slice none 0 0]) ?_ 1 _ rfl; (with_reducible repeat (first | refine blk_drewN ?_ _ | refine blk_drew ?_ | refine blk_alloc ?_ _)); refine blk_put (cs := #[.int .i64 0, .slice none 0 0]) ?_ 0 _ rfl; (with_reducible repeat (first | refine blk_drewN ?_ _ | refine blk_drew ?_ | refine blk_alloc ?_ _)); exact BK390.out) hb); have n13_ := am (below_step (pb HB) hb); clear HO357 HO361 HO364 HO368 HO376 HO382 HO388 BK352 BK353 BK370 BK378 BK384 BK390 HB; have HO357 := n0_; have HO361 := n1_; have HO364 := n2_; have HO368 := n3_; have HO376 := n4_; have HO382 := n5_; have HO388 := n6_; have BK352 := n7_; have BK353 := n8_; have BK370 := n9_; have BK378 := n10_; have BK384 := n11_; have BK390 := n12_; have HB := n13_; clear n0_ n1_ n2_ n3_ n4_ n5_ n6_ n7_ n8_ n9_ n10_ n11_ n12_ n13_; (try clear hb); (try clear hb2); (try clear hk); (try clear hi); have hnb80 := NB390_353.out; have hnc80 := NB353_390.out; have hnb81 := NB390_370.out; have hnc81 := NB370_390.out; have hnb82 := NB390_384.out; have hnc82 := NB384_390.out; have hcz83_0 : w79.cell? ⟨gb390, 0, none⟩ = some (.int .i64 t385) := (blk_cell BK390.out 0).trans rfl; have hcz83_1 : w79.cell? ⟨gb390, 1, none⟩ = some (.slice Ao59 t386.length co59) := (blk_cell BK390.out 1).trans rfl; have hfz83_0 := blk_frozen BK390.out 0; have hfz83_1 := blk_frozen BK390.out 1; have hcz84_0 : w79.cell? ⟨gb352, 0, none⟩ = some (.int .i64 t354) := (blk_cell BK352.out 0).trans rfl; have hcz84_1 : w79.cell? ⟨gb352, 1, none⟩ = some (.slice Ao21 t355.length co21) := (blk_cell BK352.out 1).trans rfl; have hfz84_0 := blk_frozen BK352.out 0; have hfz84_1 := blk_frozen BK352.out 1) | (go_at_call 40; (with_reducible refine (downpourref03_Same.calls k t385 _ _ t386 t354 _ _ t355 true _ ?side1 ?side2 ?side3 ?side4 A65.out).mono ?_); (case side1 => repeat (first | exact (Kd.N_reads' HO388.out).2.2 | (with_reducible refine Kd.C_alloc ?_ _) | (with_reducible refine Kd.C_drewN ?_ _) | (with_reducible refine Kd.C_drew ?_))); (case side2 => exact (Kd.N_reads' HO388.out).2.1); (case side3 => repeat (first | exact (Kd.N_reads' HO357.out).2.2 | (with_reducible refine Kd.C_alloc ?_ _) | (with_reducible refine Kd.C_drewN ?_ _) | (with_reducible refine Kd.C_drew ?_))); (case side4 => exact (Kd.N_reads' HO357.out).2.1); rintro e w85 ⟨rfl, hb⟩; have n0_ := am (Kd.N_below (pn HO357) hb); have n1_ := am (Kd.N_below (pn HO361) hb); have n2_ := am (Kd.R_below (pr HO364) hb); have n3_ := am (Kd.N_below (pn HO368) hb); have n4_ := am (Kd.N_below (pn HO376) hb); have n5_ := am (Kd.N_below (pn HO382) hb); have n6_ := am (Kd.N_below (pn HO388) hb); have n7_ := bb BK352 hb; have n8_ := bb BK353 hb; have n9_ := bb BK370 hb; have n10_ := bb BK378 hb; have n11_ := bb BK384 hb; have n12_ := bb BK390 hb; have n13_ := am (below_step (pb HB) hb); clear HO357 HO361 HO364 HO368 HO376 HO382 HO388 BK352 BK353 BK370 BK378 BK384 BK390 HB; have HO357 := n0_; have HO361 := n1_; have HO364 := n2_; have HO368 := n3_; have HO376 := n4_; have HO382 := n5_; have HO388 := n6_; have BK352 := n7_; have BK353 := n8_; have BK370 := n9_; have BK378 := n10_; have BK384 := n11_; have BK390 := n12_; have HB := n13_; clear n0_ n1_ n2_ n3_ n4_ n5_ n6_ n7_ n8_ n9_ n10_ n11_ n12_ n13_; (try clear hb); (try clear hb2); (try clear hk); (try clear hi)) | (go_at_call 38; (with_reducible refine (downpourlaw03_alive.calls k  t393 _ A67.out).mono ?_); rintro e w86 ⟨rfl, hb⟩; have n0_ := am (Kd.N_below (pn HO357) hb); have n1_ := am (Kd.N_below (pn HO361) hb); have n2_ := am (Kd.R_below (pr HO364) hb); have n3_ := am (Kd.N_below (pn HO368) hb); have n4_ := am (Kd.N_below (pn HO376) hb); have n5_ := am (Kd.N_below (pn HO382) hb); have n6_ := am (Kd.N_below (pn HO388) hb); have n7_ := bb BK352 hb; have n8_ := bb BK353 hb; have n9_ := bb BK370 hb; have n10_ := bb BK378 hb; have n11_ := bb BK384 hb; have n12_ := bb BK390 hb; have n13_ := am (below_step (pb HB) hb); clear HO357 HO361 HO364 HO368 HO376 HO382 HO388 BK352 BK353 BK370 BK378 BK384 BK390 HB; have HO357 := n0_; have HO361 := n1_; have HO364 := n2_; have HO368 := n3_; have HO376 := n4_; have HO382 := n5_; have HO388 := n6_; have BK352 := n7_; have BK353 := n8_; have BK370 := n9_; have BK378 := n10_; have BK384 := n11_; have BK390 := n12_; have HB := n13_; clear n0_ n1_ n2_ n3_ n4_ n5_ n6_ n7_ n8_ n9_ n10_ n11_ n12_ n13_; (try clear hb); (try clear hb2); (try clear hk); (try clear hi)))
        go_meet
        case rel => exact ⟨_, (!t393), (by first | rfl | (simp; done) | (simp [*]; done)), H', ⟨by first | omega | exact Nat.le_refl _⟩, ⟨by (with_reducible repeat (first | apply Kd.R_alloc | apply Kd.R_drewN | apply Kd.R_drew)); exact HO364.out⟩, ⟨by (with_reducible repeat (first | apply Kd.N_alloc | apply Kd.N_drewN | apply Kd.N_drew)); exact nm HO357.out⟩, ⟨by (with_reducible repeat (first | apply Kd.N_alloc | apply Kd.N_drewN | apply Kd.N_drew)); exact nm HO361.out⟩, ⟨by (with_reducible repeat (first | apply Kd.N_alloc | apply Kd.N_drewN | apply Kd.N_drew)); exact nm HO368.out⟩, ⟨by (with_reducible repeat (first | apply Kd.N_alloc | apply Kd.N_drewN | apply Kd.N_drew)); exact nm HO376.out⟩, ⟨by (with_reducible repeat (first | apply Kd.N_alloc | apply Kd.N_drewN | apply Kd.N_drew)); exact nm HO382.out⟩, ⟨by (with_reducible repeat (first | apply Kd.N_alloc | apply Kd.N_drewN | apply Kd.N_drew)); exact nm HO388.out⟩, ⟨pq BK352⟩, ⟨pq BK353⟩, ⟨pq BK370⟩, ⟨pq BK378⟩, ⟨pq BK384⟩, ⟨pq BK390⟩, ⟨pb HB⟩⟩
       ·
        replace c66 := Bool.eq_false_iff.mpr c66
        subst c66
        have H1 : (downpourlaw03_MatrixRound.j0 k a2 t362 true t354 t355 t358 t359 t365 t366) = some r := by rw [if_neg (show ¬ (false = true) by decide)] at H; exact H
        clear H
        have H := H1
        clear H1
        have H' := Aside0.mk H
        clear H
        have hnb87 := NB378_352.out
        have hnc87 := NB352_378.out
        have hnb88 := NB378_353.out
        have hnc88 := NB353_378.out
        have hnb89 := NB378_370.out
        have hnc89 := NB370_378.out
        have hnb90 := NB378_384.out
        have hnc90 := NB384_378.out
        have hnb91 := NB378_390.out
        have hnc91 := NB390_378.out
        have hcz92_0 : w52.cell? ⟨gb378, 0, none⟩ = some (.int .i64 t373) := (blk_cell BK378.out 0).trans rfl
        have hcz92_1 : w52.cell? ⟨gb378, 1, none⟩ = some (.slice Ao40 t374.length co40) := (blk_cell BK378.out 1).trans rfl
        have hfz92_0 := blk_frozen BK378.out 0
        have hfz92_1 := blk_frozen BK378.out 1
        have hnb93 := NB352_353.out
        have hnc93 := NB353_352.out
        have hnb94 := NB352_370.out
        have hnc94 := NB370_352.out
        have hnb95 := NB352_384.out
        have hnc95 := NB384_352.out
        have hnb96 := NB352_390.out
        have hnc96 := NB390_352.out
        have hcz97_0 : w52.cell? ⟨gb352, 0, none⟩ = some (.int .i64 t354) := (blk_cell BK352.out 0).trans rfl
        have hcz97_1 : w52.cell? ⟨gb352, 1, none⟩ = some (.slice Ao21 t355.length co21) := (blk_cell BK352.out 1).trans rfl
        have hfz97_0 := blk_frozen BK352.out 0
        have hfz97_1 := blk_frozen BK352.out 1
        go_wp2_with (first | (go_at_call 40; (with_reducible refine (downpourref03_Same.calls k t373 _ _ t374 t354 _ _ t355 true _ ?side1 ?side2 ?side3 ?side4 A63.out).mono ?_); (case side1 => refine (Kd.N_reads' (e := 25) (base := w.heap.size) (ok := fun k_ => ((((((some k_ ≠ (.slice Ao21 t355.length co21 : Value).ownBlock ∧ (some k_ ≠ (.slice Ao24 t359.length co24 : Value).ownBlock ∧ (some k_ ≠ (v363 : Value).ownBlock ∧ (some k_ ≠ (.slice Ao33 t366.length co33 : Value).ownBlock ∧ (k_ ≠ gb352 ∧ (k_ ≠ gb353 ∧ k_ ≠ gb370)))))) ∧ k_ ≠ gb378) ∧ some k_ ≠ (.slice Ao49 t380.length co49 : Value).ownBlock) ∧ k_ ≠ gb384) ∧ some k_ ≠ (.slice Ao59 t386.length co59 : Value).ownBlock) ∧ k_ ≠ gb390)) (n := t374.length) (c := co40) ?_).2.2; exact (pnx (Kd.N_mono (nf2N (Kd.N_mono HO376.out (fun k_ hk => (⟨hk, hk.2⟩ : _ ∧ k_ ≠ gb390))) (fun _ hk => hk.2) (.int .i64 t385) (.slice Ao59 t386.length co59)) (fun _ h_ => h_.1)))); (case side2 => exact (Kd.N_reads' HO376.out).2.1); (case side3 => refine (Kd.N_reads' (e := 25) (base := w.heap.size) (ok := fun k_ => (((((((((((k_ ≠ gb352 ∧ k_ ≠ gb353) ∧ some k_ ≠ (.slice Ao24 t359.length co24 : Value).ownBlock) ∧ some k_ ≠ (v363 : Value).ownBlock) ∧ some k_ ≠ (.slice Ao33 t366.length co33 : Value).ownBlock) ∧ k_ ≠ gb370) ∧ some k_ ≠ (.slice Ao40 t374.length co40 : Value).ownBlock) ∧ k_ ≠ gb378) ∧ some k_ ≠ (.slice Ao49 t380.length co49 : Value).ownBlock) ∧ k_ ≠ gb384) ∧ some k_ ≠ (.slice Ao59 t386.length co59 : Value).ownBlock) ∧ k_ ≠ gb390)) (n := t355.length) (c := co21) ?_).2.2; exact (pnx (Kd.N_mono (nf2N (Kd.N_mono HO357.out (fun k_ hk => (⟨hk, hk.2⟩ : _ ∧ k_ ≠ gb390))) (fun _ hk => hk.2) (.int .i64 t385) (.slice Ao59 t386.length co59)) (fun _ h_ => h_.1)))); (case side4 => exact (Kd.N_reads' HO357.out).2.1); rintro e w98 ⟨rfl, hb⟩; have n0_ := am (Kd.N_below (pnx (Kd.N_mono (nf2N (Kd.N_mono HO357.out (fun k_ hk => (⟨hk, hk.2⟩ : _ ∧ k_ ≠ gb390))) (fun _ hk => hk.2) (.int .i64 t385) (.slice Ao59 t386.length co59)) (fun _ h_ => h_.1))) hb); have n1_ := am (Kd.N_below (pnx (Kd.N_mono (nf2N (Kd.N_mono HO361.out (fun k_ hk => (⟨hk, hk.2⟩ : _ ∧ k_ ≠ gb390))) (fun _ hk => hk.2) (.int .i64 t385) (.slice Ao59 t386.length co59)) (fun _ h_ => h_.1))) hb); have n2_ := am (Kd.R_below (by (with_reducible repeat (first | apply Kd.R_alloc | apply Kd.R_drewN | apply Kd.R_drew)); exact (Kd.R_mono (nf2R (Kd.R_types HO364.out BK390.out (by decide)) (fun _ hk => hk.2) (.int .i64 t385) (.slice Ao59 t386.length co59)) (fun _ h_ => h_.1))) hb); have n3_ := am (Kd.N_below (pnx (Kd.N_mono (nf2N (Kd.N_mono HO368.out (fun k_ hk => (⟨hk, hk.2⟩ : _ ∧ k_ ≠ gb390))) (fun _ hk => hk.2) (.int .i64 t385) (.slice Ao59 t386.length co59)) (fun _ h_ => h_.1))) hb); have n4_ := am (Kd.N_below (pnx (Kd.N_mono (nf2N (Kd.N_mono HO376.out (fun k_ hk => (⟨hk, hk.2⟩ : _ ∧ k_ ≠ gb390))) (fun _ hk => hk.2) (.int .i64 t385) (.slice Ao59 t386.length co59)) (fun _ h_ => h_.1))) hb); have n5_ := am (Kd.N_below (pnx (Kd.N_mono (nf2N (Kd.N_mono HO382.out (fun k_ hk => (⟨hk, hk.2⟩ : _ ∧ k_ ≠ gb390))) (fun _ hk => hk.2) (.int .i64 t385) (.slice Ao59 t386.length co59)) (fun _ h_ => h_.1))) hb); have n6_ := am (Kd.N_below (pnx (Kd.N_mono (nf2N (Kd.N_mono HO388.out (fun k_ hk => (⟨hk, hk.2⟩ : _ ∧ k_ ≠ gb390))) (fun _ hk => hk.2) (.int .i64 t385) (.slice Ao59 t386.length co59)) (fun _ h_ => h_.1))) hb); have n7_ := bq BK352 hb; have n8_ := bq BK353 hb; have n9_ := bq BK370 hb; have n10_ := bq BK378 hb; have n11_ := bq BK384 hb; have n12_ := am (blk_below (g := gb390) (o := .cells #[.int .i64 t385, .slice Ao59 t386.length co59] 55 (0, 0)) (by (with_reducible repeat (first | refine blk_drewN ?_ _ | refine blk_drew ?_ | refine blk_alloc ?_ _)); refine blk_put (cs := #[.int .i64 t385, .slice none 0 0]) ?_ 1 _ rfl; (with_reducible repeat (first | refine blk_drewN ?_ _ | refine blk_drew ?_ | refine blk_alloc ?_ _)); refine blk_put (cs := #[.int .i64 0, .slice none 0 0]) ?_ 0 _ rfl; (with_reducible repeat (first | refine blk_drewN ?_ _ | refine blk_drew ?_ | refine blk_alloc ?_ _)); exact BK390.out) hb); have n13_ := am (below_step (pb HB) hb); clear HO357 HO361 HO364 HO368 HO376 HO382 HO388 BK352 BK353 BK370 BK378 BK384 BK390 HB; have HO357 := n0_; have HO361 := n1_; have HO364 := n2_; have HO368 := n3_; have HO376 := n4_; have HO382 := n5_; have HO388 := n6_; have BK352 := n7_; have BK353 := n8_; have BK370 := n9_; have BK378 := n10_; have BK384 := n11_; have BK390 := n12_; have HB := n13_; clear n0_ n1_ n2_ n3_ n4_ n5_ n6_ n7_ n8_ n9_ n10_ n11_ n12_ n13_; (try clear hb); (try clear hb2); (try clear hk); (try clear hi); have hnb99 := NB390_353.out; have hnc99 := NB353_390.out; have hnb100 := NB390_370.out; have hnc100 := NB370_390.out; have hnb101 := NB390_384.out; have hnc101 := NB384_390.out; have hcz102_0 : w98.cell? ⟨gb390, 0, none⟩ = some (.int .i64 t385) := (blk_cell BK390.out 0).trans rfl; have hcz102_1 : w98.cell? ⟨gb390, 1, none⟩ = some (.slice Ao59 t386.length co59) := (blk_cell BK390.out 1).trans rfl; have hfz102_0 := blk_frozen BK390.out 0; have hfz102_1 := blk_frozen BK390.out 1; have hcz103_0 : w98.cell? ⟨gb352, 0, none⟩ = some (.int .i64 t354) := (blk_cell BK352.out 0).trans rfl; have hcz103_1 : w98.cell? ⟨gb352, 1, none⟩ = some (.slice Ao21 t355.length co21) := (blk_cell BK352.out 1).trans rfl; have hfz103_0 := blk_frozen BK352.out 0; have hfz103_1 := blk_frozen BK352.out 1) | (go_at_call 40; (with_reducible refine (downpourref03_Same.calls k t385 _ _ t386 t354 _ _ t355 false _ ?side1 ?side2 ?side3 ?side4 A65.out).mono ?_); (case side1 => repeat (first | exact (Kd.N_reads' HO388.out).2.2 | (with_reducible refine Kd.C_alloc ?_ _) | (with_reducible refine Kd.C_drewN ?_ _) | (with_reducible refine Kd.C_drew ?_))); (case side2 => exact (Kd.N_reads' HO388.out).2.1); (case side3 => repeat (first | exact (Kd.N_reads' HO357.out).2.2 | (with_reducible refine Kd.C_alloc ?_ _) | (with_reducible refine Kd.C_drewN ?_ _) | (with_reducible refine Kd.C_drew ?_))); (case side4 => exact (Kd.N_reads' HO357.out).2.1); rintro e w104 ⟨rfl, hb⟩; have n0_ := am (Kd.N_below (pn HO357) hb); have n1_ := am (Kd.N_below (pn HO361) hb); have n2_ := am (Kd.R_below (pr HO364) hb); have n3_ := am (Kd.N_below (pn HO368) hb); have n4_ := am (Kd.N_below (pn HO376) hb); have n5_ := am (Kd.N_below (pn HO382) hb); have n6_ := am (Kd.N_below (pn HO388) hb); have n7_ := bb BK352 hb; have n8_ := bb BK353 hb; have n9_ := bb BK370 hb; have n10_ := bb BK378 hb; have n11_ := bb BK384 hb; have n12_ := bb BK390 hb; have n13_ := am (below_step (pb HB) hb); clear HO357 HO361 HO364 HO368 HO376 HO382 HO388 BK352 BK353 BK370 BK378 BK384 BK390 HB; have HO357 := n0_; have HO361 := n1_; have HO364 := n2_; have HO368 := n3_; have HO376 := n4_; have HO382 := n5_; have HO388 := n6_; have BK352 := n7_; have BK353 := n8_; have BK370 := n9_; have BK378 := n10_; have BK384 := n11_; have BK390 := n12_; have HB := n13_; clear n0_ n1_ n2_ n3_ n4_ n5_ n6_ n7_ n8_ n9_ n10_ n11_ n12_ n13_; (try clear hb); (try clear hb2); (try clear hk); (try clear hi)))
        go_meet
        case rel => exact ⟨_, (true), (by first | rfl | (simp; done) | (simp [*]; done)), H', ⟨by first | omega | exact Nat.le_refl _⟩, ⟨by (with_reducible repeat (first | apply Kd.R_alloc | apply Kd.R_drewN | apply Kd.R_drew)); exact HO364.out⟩, ⟨by (with_reducible repeat (first | apply Kd.N_alloc | apply Kd.N_drewN | apply Kd.N_drew)); exact nm HO357.out⟩, ⟨by (with_reducible repeat (first | apply Kd.N_alloc | apply Kd.N_drewN | apply Kd.N_drew)); exact nm HO361.out⟩, ⟨by (with_reducible repeat (first | apply Kd.N_alloc | apply Kd.N_drewN | apply Kd.N_drew)); exact nm HO368.out⟩, ⟨by (with_reducible repeat (first | apply Kd.N_alloc | apply Kd.N_drewN | apply Kd.N_drew)); exact nm HO376.out⟩, ⟨by (with_reducible repeat (first | apply Kd.N_alloc | apply Kd.N_drewN | apply Kd.N_drew)); exact nm HO382.out⟩, ⟨by (with_reducible repeat (first | apply Kd.N_alloc | apply Kd.N_drewN | apply Kd.N_drew)); exact nm HO388.out⟩, ⟨pq BK352⟩, ⟨pq BK353⟩, ⟨pq BK370⟩, ⟨pq BK378⟩, ⟨pq BK384⟩, ⟨pq BK390⟩, ⟨pb HB⟩⟩
      ·
       replace c64 := Bool.eq_false_iff.mpr c64
       subst c64
       have H1 : (downpourlaw03_MatrixRound.j0 k a2 t362 true t354 t355 t358 t359 t365 t366) = some r := by rw [if_neg (show ¬ (false = true) by decide)] at H; exact H
       clear H
       have H := H1
       clear H1
       have H' := Aside0.mk H
       clear H
       have hnb105 := NB378_352.out
       have hnc105 := NB352_378.out
       have hnb106 := NB378_353.out
       have hnc106 := NB353_378.out
       have hnb107 := NB378_370.out
       have hnc107 := NB370_378.out
       have hnb108 := NB378_384.out
       have hnc108 := NB384_378.out
       have hnb109 := NB378_390.out
       have hnc109 := NB390_378.out
       have hcz110_0 : w52.cell? ⟨gb378, 0, none⟩ = some (.int .i64 t373) := (blk_cell BK378.out 0).trans rfl
       have hcz110_1 : w52.cell? ⟨gb378, 1, none⟩ = some (.slice Ao40 t374.length co40) := (blk_cell BK378.out 1).trans rfl
       have hfz110_0 := blk_frozen BK378.out 0
       have hfz110_1 := blk_frozen BK378.out 1
       have hnb111 := NB352_353.out
       have hnc111 := NB353_352.out
       have hnb112 := NB352_370.out
       have hnc112 := NB370_352.out
       have hnb113 := NB352_384.out
       have hnc113 := NB384_352.out
       have hnb114 := NB352_390.out
       have hnc114 := NB390_352.out
       have hcz115_0 : w52.cell? ⟨gb352, 0, none⟩ = some (.int .i64 t354) := (blk_cell BK352.out 0).trans rfl
       have hcz115_1 : w52.cell? ⟨gb352, 1, none⟩ = some (.slice Ao21 t355.length co21) := (blk_cell BK352.out 1).trans rfl
       have hfz115_0 := blk_frozen BK352.out 0
       have hfz115_1 := blk_frozen BK352.out 1
       go_wp2_with (first | (go_at_call 40; (with_reducible refine (downpourref03_Same.calls k t373 _ _ t374 t354 _ _ t355 false _ ?side1 ?side2 ?side3 ?side4 A63.out).mono ?_); (case side1 => refine (Kd.N_reads' (e := 25) (base := w.heap.size) (ok := fun k_ => ((((((some k_ ≠ (.slice Ao21 t355.length co21 : Value).ownBlock ∧ (some k_ ≠ (.slice Ao24 t359.length co24 : Value).ownBlock ∧ (some k_ ≠ (v363 : Value).ownBlock ∧ (some k_ ≠ (.slice Ao33 t366.length co33 : Value).ownBlock ∧ (k_ ≠ gb352 ∧ (k_ ≠ gb353 ∧ k_ ≠ gb370)))))) ∧ k_ ≠ gb378) ∧ some k_ ≠ (.slice Ao49 t380.length co49 : Value).ownBlock) ∧ k_ ≠ gb384) ∧ some k_ ≠ (.slice Ao59 t386.length co59 : Value).ownBlock) ∧ k_ ≠ gb390)) (n := t374.length) (c := co40) ?_).2.2; exact (pnx (Kd.N_mono (nf2N (Kd.N_mono HO376.out (fun k_ hk => (⟨hk, hk.2⟩ : _ ∧ k_ ≠ gb390))) (fun _ hk => hk.2) (.int .i64 t385) (.slice Ao59 t386.length co59)) (fun _ h_ => h_.1)))); (case side2 => exact (Kd.N_reads' HO376.out).2.1); (case side3 => refine (Kd.N_reads' (e := 25) (base := w.heap.size) (ok := fun k_ => (((((((((((k_ ≠ gb352 ∧ k_ ≠ gb353) ∧ some k_ ≠ (.slice Ao24 t359.length co24 : Value).ownBlock) ∧ some k_ ≠ (v363 : Value).ownBlock) ∧ some k_ ≠ (.slice Ao33 t366.length co33 : Value).ownBlock) ∧ k_ ≠ gb370) ∧ some k_ ≠ (.slice Ao40 t374.length co40 : Value).ownBlock) ∧ k_ ≠ gb378) ∧ some k_ ≠ (.slice Ao49 t380.length co49 : Value).ownBlock) ∧ k_ ≠ gb384) ∧ some k_ ≠ (.slice Ao59 t386.length co59 : Value).ownBlock) ∧ k_ ≠ gb390)) (n := t355.length) (c := co21) ?_).2.2; exact (pnx (Kd.N_mono (nf2N (Kd.N_mono HO357.out (fun k_ hk => (⟨hk, hk.2⟩ : _ ∧ k_ ≠ gb390))) (fun _ hk => hk.2) (.int .i64 t385) (.slice Ao59 t386.length co59)) (fun _ h_ => h_.1)))); (case side4 => exact (Kd.N_reads' HO357.out).2.1); rintro e w116 ⟨rfl, hb⟩; have n0_ := am (Kd.N_below (pnx (Kd.N_mono (nf2N (Kd.N_mono HO357.out (fun k_ hk => (⟨hk, hk.2⟩ : _ ∧ k_ ≠ gb390))) (fun _ hk => hk.2) (.int .i64 t385) (.slice Ao59 t386.length co59)) (fun _ h_ => h_.1))) hb); have n1_ := am (Kd.N_below (pnx (Kd.N_mono (nf2N (Kd.N_mono HO361.out (fun k_ hk => (⟨hk, hk.2⟩ : _ ∧ k_ ≠ gb390))) (fun _ hk => hk.2) (.int .i64 t385) (.slice Ao59 t386.length co59)) (fun _ h_ => h_.1))) hb); have n2_ := am (Kd.R_below (by (with_reducible repeat (first | apply Kd.R_alloc | apply Kd.R_drewN | apply Kd.R_drew)); exact (Kd.R_mono (nf2R (Kd.R_types HO364.out BK390.out (by decide)) (fun _ hk => hk.2) (.int .i64 t385) (.slice Ao59 t386.length co59)) (fun _ h_ => h_.1))) hb); have n3_ := am (Kd.N_below (pnx (Kd.N_mono (nf2N (Kd.N_mono HO368.out (fun k_ hk => (⟨hk, hk.2⟩ : _ ∧ k_ ≠ gb390))) (fun _ hk => hk.2) (.int .i64 t385) (.slice Ao59 t386.length co59)) (fun _ h_ => h_.1))) hb); have n4_ := am (Kd.N_below (pnx (Kd.N_mono (nf2N (Kd.N_mono HO376.out (fun k_ hk => (⟨hk, hk.2⟩ : _ ∧ k_ ≠ gb390))) (fun _ hk => hk.2) (.int .i64 t385) (.slice Ao59 t386.length co59)) (fun _ h_ => h_.1))) hb); have n5_ := am (Kd.N_below (pnx (Kd.N_mono (nf2N (Kd.N_mono HO382.out (fun k_ hk => (⟨hk, hk.2⟩ : _ ∧ k_ ≠ gb390))) (fun _ hk => hk.2) (.int .i64 t385) (.slice Ao59 t386.length co59)) (fun _ h_ => h_.1))) hb); have n6_ := am (Kd.N_below (pnx (Kd.N_mono (nf2N (Kd.N_mono HO388.out (fun k_ hk => (⟨hk, hk.2⟩ : _ ∧ k_ ≠ gb390))) (fun _ hk => hk.2) (.int .i64 t385) (.slice Ao59 t386.length co59)) (fun _ h_ => h_.1))) hb); have n7_ := bq BK352 hb; have n8_ := bq BK353 hb; have n9_ := bq BK370 hb; have n10_ := bq BK378 hb; have n11_ := bq BK384 hb; have n12_ := am (blk_below (g := gb390) (o := .cells #[.int .i64 t385, .slice Ao59 t386.length co59] 55 (0, 0)) (by (with_reducible repeat (first | refine blk_drewN ?_ _ | refine blk_drew ?_ | refine blk_alloc ?_ _)); refine blk_put (cs := #[.int .i64 t385, .slice none 0 0]) ?_ 1 _ rfl; (with_reducible repeat (first | refine blk_drewN ?_ _ | refine blk_drew ?_ | refine blk_alloc ?_ _)); refine blk_put (cs := #[.int .i64 0, .slice none 0 0]) ?_ 0 _ rfl; (with_reducible repeat (first | refine blk_drewN ?_ _ | refine blk_drew ?_ | refine blk_alloc ?_ _)); exact BK390.out) hb); have n13_ := am (below_step (pb HB) hb); clear HO357 HO361 HO364 HO368 HO376 HO382 HO388 BK352 BK353 BK370 BK378 BK384 BK390 HB; have HO357 := n0_; have HO361 := n1_; have HO364 := n2_; have HO368 := n3_; have HO376 := n4_; have HO382 := n5_; have HO388 := n6_; have BK352 := n7_; have BK353 := n8_; have BK370 := n9_; have BK378 := n10_; have BK384 := n11_; have BK390 := n12_; have HB := n13_; clear n0_ n1_ n2_ n3_ n4_ n5_ n6_ n7_ n8_ n9_ n10_ n11_ n12_ n13_; (try clear hb); (try clear hb2); (try clear hk); (try clear hi)))
       go_meet
       case rel => exact ⟨_, (true), (by first | rfl | (simp; done) | (simp [*]; done)), H', ⟨by first | omega | exact Nat.le_refl _⟩, ⟨by (with_reducible repeat (first | apply Kd.R_alloc | apply Kd.R_drewN | apply Kd.R_drew)); exact HO364.out⟩, ⟨by (with_reducible repeat (first | apply Kd.N_alloc | apply Kd.N_drewN | apply Kd.N_drew)); exact nm HO357.out⟩, ⟨by (with_reducible repeat (first | apply Kd.N_alloc | apply Kd.N_drewN | apply Kd.N_drew)); exact nm HO361.out⟩, ⟨by (with_reducible repeat (first | apply Kd.N_alloc | apply Kd.N_drewN | apply Kd.N_drew)); exact nm HO368.out⟩, ⟨by (with_reducible repeat (first | apply Kd.N_alloc | apply Kd.N_drewN | apply Kd.N_drew)); exact nm HO376.out⟩, ⟨by (with_reducible repeat (first | apply Kd.N_alloc | apply Kd.N_drewN | apply Kd.N_drew)); exact nm HO382.out⟩, ⟨by (with_reducible repeat (first | apply Kd.N_alloc | apply Kd.N_drewN | apply Kd.N_drew)); exact nm HO388.out⟩, ⟨pq BK352⟩, ⟨pq BK353⟩, ⟨pq BK370⟩, ⟨pq BK378⟩, ⟨pq BK384⟩, ⟨pq BK390⟩, ⟨pb HB⟩⟩
     ·
      rw [if_neg c62] at H
      have c62b0 : (t389 == 0) = false := beq_eq_false_iff_ne.mpr c62
      have c62b1 : (t389 != 0) = true := bne_iff_ne.mpr c62
      have H' := Aside0.mk H
      clear H
      go_wp2
      go_meet
      case rel => exact ⟨_, (true), (by first | rfl | (simp; done) | (simp [*]; done)), H', ⟨by first | omega | exact Nat.le_refl _⟩, ⟨by (with_reducible repeat (first | apply Kd.R_alloc | apply Kd.R_drewN | apply Kd.R_drew)); exact Kd.R_mono (nf2R (Kd.R_types HO364.out BK390.out (by decide)) (fun _ hk => hk.2) (.int .i64 t385) (.slice Ao59 t386.length co59)) (fun _ hk => trivial)⟩, ⟨by (with_reducible repeat (first | apply Kd.N_alloc | apply Kd.N_drewN | apply Kd.N_drew)); exact nm (nf2N (Kd.N_mono HO357.out (fun k_ hk => (⟨hk, hk.2⟩ : _ ∧ k_ ≠ gb390))) (fun _ hk => hk.2) (.int .i64 t385) (.slice Ao59 t386.length co59))⟩, ⟨by (with_reducible repeat (first | apply Kd.N_alloc | apply Kd.N_drewN | apply Kd.N_drew)); exact nm (nf2N (Kd.N_mono HO361.out (fun k_ hk => (⟨hk, hk.2⟩ : _ ∧ k_ ≠ gb390))) (fun _ hk => hk.2) (.int .i64 t385) (.slice Ao59 t386.length co59))⟩, ⟨by (with_reducible repeat (first | apply Kd.N_alloc | apply Kd.N_drewN | apply Kd.N_drew)); exact nm (nf2N (Kd.N_mono HO368.out (fun k_ hk => (⟨hk, hk.2⟩ : _ ∧ k_ ≠ gb390))) (fun _ hk => hk.2) (.int .i64 t385) (.slice Ao59 t386.length co59))⟩, ⟨by (with_reducible repeat (first | apply Kd.N_alloc | apply Kd.N_drewN | apply Kd.N_drew)); exact nm (nf2N (Kd.N_mono HO376.out (fun k_ hk => (⟨hk, hk.2⟩ : _ ∧ k_ ≠ gb390))) (fun _ hk => hk.2) (.int .i64 t385) (.slice Ao59 t386.length co59))⟩, ⟨by (with_reducible repeat (first | apply Kd.N_alloc | apply Kd.N_drewN | apply Kd.N_drew)); exact nm (nf2N (Kd.N_mono HO382.out (fun k_ hk => (⟨hk, hk.2⟩ : _ ∧ k_ ≠ gb390))) (fun _ hk => hk.2) (.int .i64 t385) (.slice Ao59 t386.length co59))⟩, ⟨by (with_reducible repeat (first | apply Kd.N_alloc | apply Kd.N_drewN | apply Kd.N_drew)); exact nm (nf2N (Kd.N_mono HO388.out (fun k_ hk => (⟨hk, hk.2⟩ : _ ∧ k_ ≠ gb390))) (fun _ hk => hk.2) (.int .i64 t385) (.slice Ao59 t386.length co59))⟩, ⟨pq BK352⟩, ⟨pq BK353⟩, ⟨pq BK370⟩, ⟨pq BK378⟩, ⟨pq BK384⟩, ⟨by (with_reducible repeat (first | refine blk_drewN ?_ _ | refine blk_drew ?_ | refine blk_alloc ?_ _)); refine blk_put (cs := #[.int .i64 t385, .slice none 0 0]) ?_ 1 _ rfl; (with_reducible repeat (first | refine blk_drewN ?_ _ | refine blk_drew ?_ | refine blk_alloc ?_ _)); refine blk_put (cs := #[.int .i64 0, .slice none 0 0]) ?_ 0 _ rfl; (with_reducible repeat (first | refine blk_drewN ?_ _ | refine blk_drew ?_ | refine blk_alloc ?_ _)); exact BK390.out⟩, ⟨pb HB⟩⟩
    ·
     rw [if_neg c61] at H
     have c61b0 : (t383 == 0) = false := beq_eq_false_iff_ne.mpr c61
     have c61b1 : (t383 != 0) = true := bne_iff_ne.mpr c61
     have H' := Aside0.mk H
     clear H
     go_wp2
     go_meet
     case rel => exact ⟨_, (true), (by first | rfl | (simp; done) | (simp [*]; done)), H', ⟨by first | omega | exact Nat.le_refl _⟩, ⟨by (with_reducible repeat (first | apply Kd.R_alloc | apply Kd.R_drewN | apply Kd.R_drew)); exact Kd.R_mono (nf2R (Kd.R_types HO364.out BK390.out (by decide)) (fun _ hk => hk.2) (.int .i64 t385) (.slice Ao59 t386.length co59)) (fun _ hk => trivial)⟩, ⟨by (with_reducible repeat (first | apply Kd.N_alloc | apply Kd.N_drewN | apply Kd.N_drew)); exact nm (nf2N (Kd.N_mono HO357.out (fun k_ hk => (⟨hk, hk.2⟩ : _ ∧ k_ ≠ gb390))) (fun _ hk => hk.2) (.int .i64 t385) (.slice Ao59 t386.length co59))⟩, ⟨by (with_reducible repeat (first | apply Kd.N_alloc | apply Kd.N_drewN | apply Kd.N_drew)); exact nm (nf2N (Kd.N_mono HO361.out (fun k_ hk => (⟨hk, hk.2⟩ : _ ∧ k_ ≠ gb390))) (fun _ hk => hk.2) (.int .i64 t385) (.slice Ao59 t386.length co59))⟩, ⟨by (with_reducible repeat (first | apply Kd.N_alloc | apply Kd.N_drewN | apply Kd.N_drew)); exact nm (nf2N (Kd.N_mono HO368.out (fun k_ hk => (⟨hk, hk.2⟩ : _ ∧ k_ ≠ gb390))) (fun _ hk => hk.2) (.int .i64 t385) (.slice Ao59 t386.length co59))⟩, ⟨by (with_reducible repeat (first | apply Kd.N_alloc | apply Kd.N_drewN | apply Kd.N_drew)); exact nm (nf2N (Kd.N_mono HO376.out (fun k_ hk => (⟨hk, hk.2⟩ : _ ∧ k_ ≠ gb390))) (fun _ hk => hk.2) (.int .i64 t385) (.slice Ao59 t386.length co59))⟩, ⟨by (with_reducible repeat (first | apply Kd.N_alloc | apply Kd.N_drewN | apply Kd.N_drew)); exact nm (nf2N (Kd.N_mono HO382.out (fun k_ hk => (⟨hk, hk.2⟩ : _ ∧ k_ ≠ gb390))) (fun _ hk => hk.2) (.int .i64 t385) (.slice Ao59 t386.length co59))⟩, ⟨by (with_reducible repeat (first | apply Kd.N_alloc | apply Kd.N_drewN | apply Kd.N_drew)); exact nm (nf2N (Kd.N_mono HO388.out (fun k_ hk => (⟨hk, hk.2⟩ : _ ∧ k_ ≠ gb390))) (fun _ hk => hk.2) (.int .i64 t385) (.slice Ao59 t386.length co59))⟩, ⟨pq BK352⟩, ⟨pq BK353⟩, ⟨pq BK370⟩, ⟨pq BK378⟩, ⟨pq BK384⟩, ⟨by (with_reducible repeat (first | refine blk_drewN ?_ _ | refine blk_drew ?_ | refine blk_alloc ?_ _)); refine blk_put (cs := #[.int .i64 t385, .slice none 0 0]) ?_ 1 _ rfl; (with_reducible repeat (first | refine blk_drewN ?_ _ | refine blk_drew ?_ | refine blk_alloc ?_ _)); refine blk_put (cs := #[.int .i64 0, .slice none 0 0]) ?_ 0 _ rfl; (with_reducible repeat (first | refine blk_drewN ?_ _ | refine blk_drew ?_ | refine blk_alloc ?_ _)); exact BK390.out⟩, ⟨pb HB⟩⟩
   ·
    rw [if_neg c60] at H
    have c60b0 : (t377 == 0) = false := beq_eq_false_iff_ne.mpr c60
    have c60b1 : (t377 != 0) = true := bne_iff_ne.mpr c60
    (first | rw [c60b0] | (simp only [i64_w, i32_w]; rw [c60b0]) | skip)
    have H' := Aside0.mk H
    clear H
    go_wp2
    go_meet
    case rel => exact ⟨_, (true), (by first | rfl | (simp; done) | (simp [*]; done)), H', ⟨by first | omega | exact Nat.le_refl _⟩, ⟨by (with_reducible repeat (first | apply Kd.R_alloc | apply Kd.R_drewN | apply Kd.R_drew)); exact Kd.R_mono (nf2R (Kd.R_types HO364.out BK390.out (by decide)) (fun _ hk => hk.2) (.int .i64 t385) (.slice Ao59 t386.length co59)) (fun _ hk => trivial)⟩, ⟨by (with_reducible repeat (first | apply Kd.N_alloc | apply Kd.N_drewN | apply Kd.N_drew)); exact nm (nf2N (Kd.N_mono HO357.out (fun k_ hk => (⟨hk, hk.2⟩ : _ ∧ k_ ≠ gb390))) (fun _ hk => hk.2) (.int .i64 t385) (.slice Ao59 t386.length co59))⟩, ⟨by (with_reducible repeat (first | apply Kd.N_alloc | apply Kd.N_drewN | apply Kd.N_drew)); exact nm (nf2N (Kd.N_mono HO361.out (fun k_ hk => (⟨hk, hk.2⟩ : _ ∧ k_ ≠ gb390))) (fun _ hk => hk.2) (.int .i64 t385) (.slice Ao59 t386.length co59))⟩, ⟨by (with_reducible repeat (first | apply Kd.N_alloc | apply Kd.N_drewN | apply Kd.N_drew)); exact nm (nf2N (Kd.N_mono HO368.out (fun k_ hk => (⟨hk, hk.2⟩ : _ ∧ k_ ≠ gb390))) (fun _ hk => hk.2) (.int .i64 t385) (.slice Ao59 t386.length co59))⟩, ⟨by (with_reducible repeat (first | apply Kd.N_alloc | apply Kd.N_drewN | apply Kd.N_drew)); exact nm (nf2N (Kd.N_mono HO376.out (fun k_ hk => (⟨hk, hk.2⟩ : _ ∧ k_ ≠ gb390))) (fun _ hk => hk.2) (.int .i64 t385) (.slice Ao59 t386.length co59))⟩, ⟨by (with_reducible repeat (first | apply Kd.N_alloc | apply Kd.N_drewN | apply Kd.N_drew)); exact nm (nf2N (Kd.N_mono HO382.out (fun k_ hk => (⟨hk, hk.2⟩ : _ ∧ k_ ≠ gb390))) (fun _ hk => hk.2) (.int .i64 t385) (.slice Ao59 t386.length co59))⟩, ⟨by (with_reducible repeat (first | apply Kd.N_alloc | apply Kd.N_drewN | apply Kd.N_drew)); exact nm (nf2N (Kd.N_mono HO388.out (fun k_ hk => (⟨hk, hk.2⟩ : _ ∧ k_ ≠ gb390))) (fun _ hk => hk.2) (.int .i64 t385) (.slice Ao59 t386.length co59))⟩, ⟨pq BK352⟩, ⟨pq BK353⟩, ⟨pq BK370⟩, ⟨pq BK378⟩, ⟨pq BK384⟩, ⟨by (with_reducible repeat (first | refine blk_drewN ?_ _ | refine blk_drew ?_ | refine blk_alloc ?_ _)); refine blk_put (cs := #[.int .i64 t385, .slice none 0 0]) ?_ 1 _ rfl; (with_reducible repeat (first | refine blk_drewN ?_ _ | refine blk_drew ?_ | refine blk_alloc ?_ _)); refine blk_put (cs := #[.int .i64 0, .slice none 0 0]) ?_ 0 _ rfl; (with_reducible repeat (first | refine blk_drewN ?_ _ | refine blk_drew ?_ | refine blk_alloc ?_ _)); exact BK390.out⟩, ⟨pb HB⟩⟩
  case rest =>
   clear HC13
   try clear c1
   try clear c2
   try clear p2
   try clear c3
   try clear c4
   try clear c5
   try clear c6
   try clear c7
   try clear c8
   try clear c9
   try clear c9b0
   try clear c9b1
   try clear c10
   try clear c11
   try clear c26
   try clear c30
   try clear c31
   try clear c34
   try clear c35
   try clear c36
   try clear c37
   try clear c38
   try clear c44
   try clear c45
   try clear c46
   try clear c47
   try clear c53
   try clear c54
   try clear c55
   try clear c56
   try clear c57
   try clear c60
   try clear c60b0
   try clear c60b1
   try clear c61
   try clear c61b0
   try clear c61b1
   try clear c62
   try clear c62b0
   try clear c62b1
   try clear c64
   try clear c66
   try clear c68
   try clear c69
   try clear c70
   try clear c71
   try clear c72
   try clear c74
   try clear c75
   try clear c76
   try clear c77
   try clear c80
   try clear c81
   try clear c82
   try clear c87
   try clear c88
   try clear c89
   try clear c90
   try clear c91
   try clear c93
   try clear c94
   try clear c95
   try clear c96
   try clear c99
   try clear c100
   try clear c101
   try clear c105
   try clear c106
   try clear c107
   try clear c108
   try clear c109
   try clear c111
   try clear c112
   try clear c113
   try clear c114
   try clear hcz102_0
   try clear hcz102_1
   try clear hcz103_0
   try clear hcz103_1
   try clear hcz110_0
   try clear hcz110_1
   try clear hcz115_0
   try clear hcz115_1
   try clear hcz27_0
   try clear hcz27_1
   try clear hcz32_0
   try clear hcz32_1
   try clear hcz39_0
   try clear hcz39_1
   try clear hcz41_0
   try clear hcz41_1
   try clear hcz48_0
   try clear hcz48_1
   try clear hcz50_0
   try clear hcz50_1
   try clear hcz58_0
   try clear hcz58_1
   try clear hcz73_0
   try clear hcz73_1
   try clear hcz78_0
   try clear hcz78_1
   try clear hcz83_0
   try clear hcz83_1
   try clear hcz84_0
   try clear hcz84_1
   try clear hcz92_0
   try clear hcz92_1
   try clear hcz97_0
   try clear hcz97_1
   try clear hfz102_0
   try clear hfz102_1
   try clear hfz103_0
   try clear hfz103_1
   try clear hfz110_0
   try clear hfz110_1
   try clear hfz115_0
   try clear hfz115_1
   try clear hfz27_0
   try clear hfz27_1
   try clear hfz32_0
   try clear hfz32_1
   try clear hfz39_0
   try clear hfz39_1
   try clear hfz41_0
   try clear hfz41_1
   try clear hfz48_0
   try clear hfz48_1
   try clear hfz50_0
   try clear hfz50_1
   try clear hfz58_0
   try clear hfz58_1
   try clear hfz73_0
   try clear hfz73_1
   try clear hfz78_0
   try clear hfz78_1
   try clear hfz83_0
   try clear hfz83_1
   try clear hfz84_0
   try clear hfz84_1
   try clear hfz92_0
   try clear hfz92_1
   try clear hfz97_0
   try clear hfz97_1
   obtain ⟨kq, x92_12, rfl, HA, HJ12, HO_3, HO_353001, HO_354001, HO_371001, HO_379001, HO_385001, HO_391001, BK352, BK353, BK370, BK378, BK384, BK390, HB⟩ := hcut
   cases kq with
   | zero => exact absurd HA.out (by simp [downpourlaw03_MatrixRound.j0])
   | succ kj12 =>
    have H := HA.out
    clear HA
    simp only [downpourlaw03_MatrixRound.j0] at H
    by_cases c117 : x92_12 = true
    ·
     subst c117
     have H1 : (none) = some r := by rw [if_pos rfl] at H; exact H
     clear H
     have H := H1
     clear H1
     exact absurd H (by simp)
    ·
     replace c117 := Bool.eq_false_iff.mpr c117
     subst c117
     have H1 : ((matrix_Mul.f kj12 t354 t355 t358 t359).bind fun bt394 => (if bt394.2.2 = 0 then ((matrix_Turn.f kj12 t358 t359).bind fun bt401 => ((matrix_Turn.f kj12 bt394.1 bt394.2.1).bind fun bt407 => ((matrix_Mul.f kj12 bt401.1 bt401.2.1 t365 t366).bind fun bt413 => (if bt401.2.2 = 0 then (if bt407.2.2 = 0 then (if bt413.2.2 = 0 then ((downpourref03_Same.f kj12 bt407.1 bt407.2.1 bt413.1 bt413.2.1).bind fun t419 => (downpourlaw03_MatrixRound.j1 kj12 a2 t362 (!t419) t354 t355 t358 t359 bt394.1 bt394.2.1)) else (downpourlaw03_MatrixRound.j1 kj12 a2 t362 true t354 t355 t358 t359 bt394.1 bt394.2.1)) else (downpourlaw03_MatrixRound.j1 kj12 a2 t362 true t354 t355 t358 t359 bt394.1 bt394.2.1)) else (downpourlaw03_MatrixRound.j1 kj12 a2 t362 true t354 t355 t358 t359 bt394.1 bt394.2.1))))) else ((downpourref03_Same.f kj12 bt394.1 bt394.2.1 0 ([] : List (S25))).bind fun t400 => (some t400)))) = some r := by rw [if_neg (show ¬ (false = true) by decide)] at H; exact H
     clear H
     have H := H1
     clear H1
     replace H := Option.bind_eq_some_iff.mp H
     obtain ⟨⟨t394, t395, t398⟩, A1180, H⟩ := H
     replace H : (if t398 = 0 then ((matrix_Turn.f kj12 t358 t359).bind fun bt401 => ((matrix_Turn.f kj12 t394 t395).bind fun bt407 => ((matrix_Mul.f kj12 bt401.1 bt401.2.1 t365 t366).bind fun bt413 => (if bt401.2.2 = 0 then (if bt407.2.2 = 0 then (if bt413.2.2 = 0 then ((downpourref03_Same.f kj12 bt407.1 bt407.2.1 bt413.1 bt413.2.1).bind fun t419 => (downpourlaw03_MatrixRound.j1 kj12 a2 t362 (!t419) t354 t355 t358 t359 t394 t395)) else (downpourlaw03_MatrixRound.j1 kj12 a2 t362 true t354 t355 t358 t359 t394 t395)) else (downpourlaw03_MatrixRound.j1 kj12 a2 t362 true t354 t355 t358 t359 t394 t395)) else (downpourlaw03_MatrixRound.j1 kj12 a2 t362 true t354 t355 t358 t359 t394 t395))))) else ((downpourref03_Same.f kj12 t394 t395 0 ([] : List (S25))).bind fun t400 => (some t400))) = some r := H
     have A118 := Aside0.mk A1180
     clear A1180
     by_cases c119 : t398 = 0
     ·
      rw [if_pos c119] at H
      have c119b0 : (t398 == 0) = true := beq_iff_eq.mpr c119
      have c119b1 : (t398 != 0) = false := bne_eq_false_iff_eq.mpr c119
      clear c119
      replace H := Option.bind_eq_some_iff.mp H
      obtain ⟨⟨t401, t402, t405⟩, A1200, H⟩ := H
      replace H : ((matrix_Turn.f kj12 t394 t395).bind fun bt407 => ((matrix_Mul.f kj12 t401 t402 t365 t366).bind fun bt413 => (if t405 = 0 then (if bt407.2.2 = 0 then (if bt413.2.2 = 0 then ((downpourref03_Same.f kj12 bt407.1 bt407.2.1 bt413.1 bt413.2.1).bind fun t419 => (downpourlaw03_MatrixRound.j1 kj12 a2 t362 (!t419) t354 t355 t358 t359 t394 t395)) else (downpourlaw03_MatrixRound.j1 kj12 a2 t362 true t354 t355 t358 t359 t394 t395)) else (downpourlaw03_MatrixRound.j1 kj12 a2 t362 true t354 t355 t358 t359 t394 t395)) else (downpourlaw03_MatrixRound.j1 kj12 a2 t362 true t354 t355 t358 t359 t394 t395)))) = some r := H
      have A120 := Aside0.mk A1200
      clear A1200
      replace H := Option.bind_eq_some_iff.mp H
      obtain ⟨⟨t407, t408, t411⟩, A1210, H⟩ := H
      replace H : ((matrix_Mul.f kj12 t401 t402 t365 t366).bind fun bt413 => (if t405 = 0 then (if t411 = 0 then (if bt413.2.2 = 0 then ((downpourref03_Same.f kj12 t407 t408 bt413.1 bt413.2.1).bind fun t419 => (downpourlaw03_MatrixRound.j1 kj12 a2 t362 (!t419) t354 t355 t358 t359 t394 t395)) else (downpourlaw03_MatrixRound.j1 kj12 a2 t362 true t354 t355 t358 t359 t394 t395)) else (downpourlaw03_MatrixRound.j1 kj12 a2 t362 true t354 t355 t358 t359 t394 t395)) else (downpourlaw03_MatrixRound.j1 kj12 a2 t362 true t354 t355 t358 t359 t394 t395))) = some r := H
      have A121 := Aside0.mk A1210
      clear A1210
      replace H := Option.bind_eq_some_iff.mp H
      obtain ⟨⟨t413, t414, t417⟩, A1220, H⟩ := H
      replace H : (if t405 = 0 then (if t411 = 0 then (if t417 = 0 then ((downpourref03_Same.f kj12 t407 t408 t413 t414).bind fun t419 => (downpourlaw03_MatrixRound.j1 kj12 a2 t362 (!t419) t354 t355 t358 t359 t394 t395)) else (downpourlaw03_MatrixRound.j1 kj12 a2 t362 true t354 t355 t358 t359 t394 t395)) else (downpourlaw03_MatrixRound.j1 kj12 a2 t362 true t354 t355 t358 t359 t394 t395)) else (downpourlaw03_MatrixRound.j1 kj12 a2 t362 true t354 t355 t358 t359 t394 t395)) = some r := H
      have A122 := Aside0.mk A1220
      clear A1220
      have HC123 := Aside0.mk H
      clear H
      have hnb124 := NB352_353.out
      have hnc124 := NB353_352.out
      have hnb125 := NB352_370.out
      have hnc125 := NB370_352.out
      have hnb126 := NB352_378.out
      have hnc126 := NB378_352.out
      have hnb127 := NB352_384.out
      have hnc127 := NB384_352.out
      have hnb128 := NB352_390.out
      have hnc128 := NB390_352.out
      have hcz129_0 : wc.cell? ⟨gb352, 0, none⟩ = some (.int .i64 t354) := (blk_cell BK352.out 0).trans rfl
      have hcz129_1 : wc.cell? ⟨gb352, 1, none⟩ = some (.slice Ao21 t355.length co21) := (blk_cell BK352.out 1).trans rfl
      have hfz129_0 := blk_frozen BK352.out 0
      have hfz129_1 := blk_frozen BK352.out 1
      have hnb130 := NB353_370.out
      have hnc130 := NB370_353.out
      have hnb131 := NB353_378.out
      have hnc131 := NB378_353.out
      have hnb132 := NB353_384.out
      have hnc132 := NB384_353.out
      have hnb133 := NB353_390.out
      have hnc133 := NB390_353.out
      have hcz134_0 : wc.cell? ⟨gb353, 0, none⟩ = some (.int .i64 t358) := (blk_cell BK353.out 0).trans rfl
      have hcz134_1 : wc.cell? ⟨gb353, 1, none⟩ = some (.slice Ao24 t359.length co24) := (blk_cell BK353.out 1).trans rfl
      have hfz134_0 := blk_frozen BK353.out 0
      have hfz134_1 := blk_frozen BK353.out 1
      go_upto_region 16 with (first | ((with_reducible refine gate_callee (f := 36) rfl ?_); refine goesL_ (some 96) rfl rfl Tryd.func36 (by kernel_rfl) rfl #[.agg #[.int .i64 t354, .slice Ao21 t355.length co21], .agg #[.int .i64 t358, .slice Ao24 t359.length co24]] rfl (by (try simp only [List.map_toArray, List.map_cons, List.map_nil]); first | done | rfl | (simp only [List.length_drop, List.length_take]; rfl)) ?_; (with_reducible refine (matrix_Mul.calls kj12 t354 _ _ t355 t358 _ _ t359 t394 t395 t398 _ ?side5 ?side1 ?side2 ?side3 ?side4 A118.out).mono ?_); (case side1 => repeat (first | exact (Kd.N_reads' HO_353001.out).2.2 | (with_reducible refine Kd.C_alloc ?_ _) | (with_reducible refine Kd.C_drewN ?_ _) | (with_reducible refine Kd.C_drew ?_))); (case side2 => exact (Kd.N_reads' HO_353001.out).2.1); (case side3 => repeat (first | exact (Kd.N_reads' HO_354001.out).2.2 | (with_reducible refine Kd.C_alloc ?_ _) | (with_reducible refine Kd.C_drewN ?_ _) | (with_reducible refine Kd.C_drew ?_))); (case side4 => exact (Kd.N_reads' HO_354001.out).2.1); (case side5 => exact TabOk.below HT.out (pb HB)); rintro e w135 ⟨v396, rfl, ho0, hb⟩; refine ⟨_, rfl, ?_⟩; have n0_ := am (Kd.R_below (pr HO_3) hb); have n1_ := am (Kd.N_elder' (pn HO_353001) (by first | exact Kd.N_base ho0 | exact Kd.S_base ho0 | exact Kd.R_base ho0) hb); have n2_ := am (Kd.N_elder' (pn HO_354001) (by first | exact Kd.N_base ho0 | exact Kd.S_base ho0 | exact Kd.R_base ho0) hb); have n3_ := am (Kd.N_elder' (pn HO_371001) (by first | exact Kd.N_base ho0 | exact Kd.S_base ho0 | exact Kd.R_base ho0) hb); have n4_ := am (Kd.N_elder' (pn HO_379001) (by first | exact Kd.N_base ho0 | exact Kd.S_base ho0 | exact Kd.R_base ho0) hb); have n5_ := am (Kd.N_elder' (pn HO_385001) (by first | exact Kd.N_base ho0 | exact Kd.S_base ho0 | exact Kd.R_base ho0) hb); have n6_ := am (Kd.N_elder' (pn HO_391001) (by first | exact Kd.N_base ho0 | exact Kd.S_base ho0 | exact Kd.R_base ho0) hb); have n7_ := am (Kd.N_lower (Kd.N_mono (ok' := fun k_ => some k_ ≠ (v363 : Value).ownBlock ∧ some k_ ≠ (.slice Ao21 t355.length co21 : Value).ownBlock ∧ some k_ ≠ (.slice Ao24 t359.length co24 : Value).ownBlock ∧ some k_ ≠ (.slice Ao33 t366.length co33 : Value).ownBlock ∧ some k_ ≠ (.slice Ao40 t374.length co40 : Value).ownBlock ∧ some k_ ≠ (.slice Ao49 t380.length co49 : Value).ownBlock ∧ some k_ ≠ (.slice Ao59 t386.length co59 : Value).ownBlock ∧ k_ ≠ gb352 ∧ k_ ≠ gb353 ∧ k_ ≠ gb370 ∧ k_ ≠ gb378 ∧ k_ ≠ gb384 ∧ k_ ≠ gb390) (Kd.S_N (Kd.S_bound ho0)) (fun k_ hk_ => ⟨(Kd.fresh' (Kd.R_lt (pr HO_3)) k_ hk_.2.1), (Kd.fresh' (Kd.N_lt (pn HO_353001)) k_ hk_.2.1), (Kd.fresh' (Kd.N_lt (pn HO_354001)) k_ hk_.2.1), (Kd.fresh' (Kd.N_lt (pn HO_371001)) k_ hk_.2.1), (Kd.fresh' (Kd.N_lt (pn HO_379001)) k_ hk_.2.1), (Kd.fresh' (Kd.N_lt (pn HO_385001)) k_ hk_.2.1), (Kd.fresh' (Kd.N_lt (pn HO_391001)) k_ hk_.2.1), (Kd.freshB (g := gb352) (o := .cells #[.int .i64 t354, .slice Ao21 t355.length co21] 55 (0, 0)) (pk BK352) k_ hk_.2.1), (Kd.freshB (g := gb353) (o := .cells #[.int .i64 t358, .slice Ao24 t359.length co24] 55 (0, 0)) (pk BK353) k_ hk_.2.1), (Kd.freshB (g := gb370) (o := .cells #[.int .i64 t365, .slice Ao33 t366.length co33] 55 (0, 0)) (pk BK370) k_ hk_.2.1), (Kd.freshB (g := gb378) (o := .cells #[.int .i64 t373, .slice Ao40 t374.length co40] 55 (0, 0)) (pk BK378) k_ hk_.2.1), (Kd.freshB (g := gb384) (o := .cells #[.int .i64 t379, .slice Ao49 t380.length co49] 55 (0, 0)) (pk BK384) k_ hk_.2.1), (Kd.freshB (g := gb390) (o := .cells #[.int .i64 t385, .slice Ao59 t386.length co59] 55 (0, 0)) (pk BK390) k_ hk_.2.1)⟩)) (below_size (pb HB))); have n8_ := bb BK352 hb; have n9_ := bb BK353 hb; have n10_ := bb BK370 hb; have n11_ := bb BK378 hb; have n12_ := bb BK384 hb; have n13_ := bb BK390 hb; have n14_ := am (below_step (pb HB) hb); clear HO_3 HO_353001 HO_354001 HO_371001 HO_379001 HO_385001 HO_391001 BK352 BK353 BK370 BK378 BK384 BK390 HB; have HO_3 := n0_; have HO_353001 := n1_; have HO_354001 := n2_; have HO_371001 := n3_; have HO_379001 := n4_; have HO_385001 := n5_; have HO_391001 := n6_; have HO397 := n7_; have BK352 := n8_; have BK353 := n9_; have BK370 := n10_; have BK378 := n11_; have BK384 := n12_; have BK390 := n13_; have HB := n14_; clear n0_ n1_ n2_ n3_ n4_ n5_ n6_ n7_ n8_ n9_ n10_ n11_ n12_ n13_ n14_; (try clear hb); (try clear hb2); (try clear hk); (try clear hi); (try clear ho0)) | ((with_reducible refine gate_dst (N := 17) rfl ?_); (try (refine gate_guard (by rfl) ?_; dsimp only)); refine box_event ?hg (N := 17) ?hd (cs := #[.int .i64 0, .slice none 0 0]) (t := 55) ?hr ?_; (case hd => rfl); (case hg => rfl); (case hr => first | (go_simp; done) | (go_simp; rfl)); intro gb399 hg w136 hbox hb; have n0_ := am (Kd.R_below (pr HO_3) hb); have n1_ := am (Kd.N_below (Kd.N_elderB (pn HO_353001) gb399 (Nat.le_of_eq hg.symm)) hb); have n2_ := am (Kd.N_below (Kd.N_elderB (pn HO_354001) gb399 (Nat.le_of_eq hg.symm)) hb); have n3_ := am (Kd.N_below (Kd.N_elderB (pn HO_371001) gb399 (Nat.le_of_eq hg.symm)) hb); have n4_ := am (Kd.N_below (Kd.N_elderB (pn HO_379001) gb399 (Nat.le_of_eq hg.symm)) hb); have n5_ := am (Kd.N_below (Kd.N_elderB (pn HO_385001) gb399 (Nat.le_of_eq hg.symm)) hb); have n6_ := am (Kd.N_below (Kd.N_elderB (pn HO_391001) gb399 (Nat.le_of_eq hg.symm)) hb); have n7_ := am (Kd.N_below (Kd.N_elderB (pn HO397) gb399 (Nat.le_of_eq hg.symm)) hb); have n8_ := bb BK352 hb; have n9_ := bb BK353 hb; have n10_ := bb BK370 hb; have n11_ := bb BK378 hb; have n12_ := bb BK384 hb; have n13_ := bb BK390 hb; have n14_ := am (below_step (pb HB) hb); have n15_ := am (hbox); have n16_ := am ((by rw [hg]; exact (below_size (pb HB)) : w.heap.size ≤ gb399)); have n17_ := am ((by rw [hg]; exact (below_size (pb HB)) : w.heap.size ≤ gb399)); have n18_ := am ((by rw [hg]; exact Nat.ne_of_lt (bl BK352) : gb352 ≠ gb399)); have n19_ := am ((by rw [hg]; exact Nat.ne_of_gt (bl BK352) : gb399 ≠ gb352)); have n20_ := am ((by rw [hg]; exact Nat.ne_of_lt (bl BK353) : gb353 ≠ gb399)); have n21_ := am ((by rw [hg]; exact Nat.ne_of_gt (bl BK353) : gb399 ≠ gb353)); have n22_ := am ((by rw [hg]; exact Nat.ne_of_lt (bl BK370) : gb370 ≠ gb399)); have n23_ := am ((by rw [hg]; exact Nat.ne_of_gt (bl BK370) : gb399 ≠ gb370)); have n24_ := am ((by rw [hg]; exact Nat.ne_of_lt (bl BK378) : gb378 ≠ gb399)); have n25_ := am ((by rw [hg]; exact Nat.ne_of_gt (bl BK378) : gb399 ≠ gb378)); have n26_ := am ((by rw [hg]; exact Nat.ne_of_lt (bl BK384) : gb384 ≠ gb399)); have n27_ := am ((by rw [hg]; exact Nat.ne_of_gt (bl BK384) : gb399 ≠ gb384)); have n28_ := am ((by rw [hg]; exact Nat.ne_of_lt (bl BK390) : gb390 ≠ gb399)); have n29_ := am ((by rw [hg]; exact Nat.ne_of_gt (bl BK390) : gb399 ≠ gb390)); clear HO_3 HO_353001 HO_354001 HO_371001 HO_379001 HO_385001 HO_391001 HO397 BK352 BK353 BK370 BK378 BK384 BK390 HB; have HO_3 := n0_; have HO_353001 := n1_; have HO_354001 := n2_; have HO_371001 := n3_; have HO_379001 := n4_; have HO_385001 := n5_; have HO_391001 := n6_; have HO397 := n7_; have BK352 := n8_; have BK353 := n9_; have BK370 := n10_; have BK378 := n11_; have BK384 := n12_; have BK390 := n13_; have HB := n14_; have BK399 := n15_; have GW399 := n16_; have GE399 := n17_; have NB352_399 := n18_; have NB399_352 := n19_; have NB353_399 := n20_; have NB399_353 := n21_; have NB370_399 := n22_; have NB399_370 := n23_; have NB378_399 := n24_; have NB399_378 := n25_; have NB384_399 := n26_; have NB399_384 := n27_; have NB390_399 := n28_; have NB399_390 := n29_; clear n0_ n1_ n2_ n3_ n4_ n5_ n6_ n7_ n8_ n9_ n10_ n11_ n12_ n13_ n14_ n15_ n16_ n17_ n18_ n19_ n20_ n21_ n22_ n23_ n24_ n25_ n26_ n27_ n28_ n29_ hb hbox hg; have hnb137 := NB399_352.out; have hnc137 := NB352_399.out; have hnb138 := NB399_353.out; have hnc138 := NB353_399.out; have hnb139 := NB399_370.out; have hnc139 := NB370_399.out; have hnb140 := NB399_378.out; have hnc140 := NB378_399.out; have hnb141 := NB399_384.out; have hnc141 := NB384_399.out; have hnb142 := NB399_390.out; have hnc142 := NB390_399.out; have hcz143_0 : w136.cell? ⟨gb399, 0, none⟩ = some (.int .i64 0) := (blk_cell BK399.out 0).trans rfl; have hcz143_1 : w136.cell? ⟨gb399, 1, none⟩ = some (.slice none 0 0) := (blk_cell BK399.out 1).trans rfl; have hfz143_0 := blk_frozen BK399.out 0; have hfz143_1 := blk_frozen BK399.out 1; obtain ⟨Ao144, co144, eo144⟩ := Kd.N_slice HO397.out; subst eo144; have hcz145_0 : w136.cell? ⟨gb353, 0, none⟩ = some (.int .i64 t358) := (blk_cell BK353.out 0).trans rfl; have hcz145_1 : w136.cell? ⟨gb353, 1, none⟩ = some (.slice Ao24 t359.length co24) := (blk_cell BK353.out 1).trans rfl; have hfz145_0 := blk_frozen BK353.out 0; have hfz145_1 := blk_frozen BK353.out 1) | ((with_reducible refine gate_callee (f := 44) rfl ?_); refine goesL_ (some 106) rfl rfl Tryd.func44 (by kernel_rfl) rfl #[.agg #[.int .i64 t358, .slice Ao24 t359.length co24]] rfl (by (try simp only [List.map_toArray, List.map_cons, List.map_nil]); first | done | rfl | (simp only [List.length_drop, List.length_take]; rfl)) ?_; (with_reducible refine (matrix_Turn.calls kj12 t358 _ _ t359 t401 t402 t405 _ ?side1 ?side2 A120.out).mono ?_); (case side1 => refine (Kd.N_reads' (e := 25) (base := w.heap.size) (ok := fun k_ => (((some k_ ≠ (v363 : Value).ownBlock ∧ (some k_ ≠ (.slice Ao21 t355.length co21 : Value).ownBlock ∧ (some k_ ≠ (.slice Ao33 t366.length co33 : Value).ownBlock ∧ (some k_ ≠ (.slice Ao40 t374.length co40 : Value).ownBlock ∧ (some k_ ≠ (.slice Ao49 t380.length co49 : Value).ownBlock ∧ (some k_ ≠ (.slice Ao59 t386.length co59 : Value).ownBlock ∧ (k_ ≠ gb352 ∧ (k_ ≠ gb353 ∧ (k_ ≠ gb370 ∧ (k_ ≠ gb378 ∧ (k_ ≠ gb384 ∧ k_ ≠ gb390))))))))))) ∧ some k_ ≠ (.slice Ao144 t395.length co144 : Value).ownBlock) ∧ k_ ≠ gb399)) (n := t359.length) (c := co24) ?_).2.2; exact (pnx (Kd.N_mono (nf2N (Kd.N_mono HO_354001.out (fun k_ hk => (⟨hk, hk.2⟩ : _ ∧ k_ ≠ gb399))) (fun _ hk => hk.2) (.int .i64 t394) (.slice Ao144 t395.length co144)) (fun _ h_ => h_.1)))); (case side2 => exact (Kd.N_reads' HO_354001.out).2.1); rintro e w146 ⟨v403, rfl, ho0, hb⟩; refine ⟨_, rfl, ?_⟩; have n0_ := am (Kd.R_below (by (with_reducible repeat (first | apply Kd.R_alloc | apply Kd.R_drewN | apply Kd.R_drew)); exact (Kd.R_mono (nf2R (Kd.R_types HO_3.out BK399.out (by decide)) (fun _ hk => hk.2) (.int .i64 t394) (.slice Ao144 t395.length co144)) (fun _ h_ => h_.1))) hb); have n1_ := am (Kd.N_elder' (pnx (Kd.N_mono (nf2N (Kd.N_mono HO_353001.out (fun k_ hk => (⟨hk, hk.2⟩ : _ ∧ k_ ≠ gb399))) (fun _ hk => hk.2) (.int .i64 t394) (.slice Ao144 t395.length co144)) (fun _ h_ => h_.1))) (by first | exact Kd.N_base ho0 | exact Kd.S_base ho0 | exact Kd.R_base ho0) hb); have n2_ := am (Kd.N_elder' (pnx (Kd.N_mono (nf2N (Kd.N_mono HO_354001.out (fun k_ hk => (⟨hk, hk.2⟩ : _ ∧ k_ ≠ gb399))) (fun _ hk => hk.2) (.int .i64 t394) (.slice Ao144 t395.length co144)) (fun _ h_ => h_.1))) (by first | exact Kd.N_base ho0 | exact Kd.S_base ho0 | exact Kd.R_base ho0) hb); have n3_ := am (Kd.N_elder' (pnx (Kd.N_mono (nf2N (Kd.N_mono HO_371001.out (fun k_ hk => (⟨hk, hk.2⟩ : _ ∧ k_ ≠ gb399))) (fun _ hk => hk.2) (.int .i64 t394) (.slice Ao144 t395.length co144)) (fun _ h_ => h_.1))) (by first | exact Kd.N_base ho0 | exact Kd.S_base ho0 | exact Kd.R_base ho0) hb); have n4_ := am (Kd.N_elder' (pnx (Kd.N_mono (nf2N (Kd.N_mono HO_379001.out (fun k_ hk => (⟨hk, hk.2⟩ : _ ∧ k_ ≠ gb399))) (fun _ hk => hk.2) (.int .i64 t394) (.slice Ao144 t395.length co144)) (fun _ h_ => h_.1))) (by first | exact Kd.N_base ho0 | exact Kd.S_base ho0 | exact Kd.R_base ho0) hb); have n5_ := am (Kd.N_elder' (pnx (Kd.N_mono (nf2N (Kd.N_mono HO_385001.out (fun k_ hk => (⟨hk, hk.2⟩ : _ ∧ k_ ≠ gb399))) (fun _ hk => hk.2) (.int .i64 t394) (.slice Ao144 t395.length co144)) (fun _ h_ => h_.1))) (by first | exact Kd.N_base ho0 | exact Kd.S_base ho0 | exact Kd.R_base ho0) hb); have n6_ := am (Kd.N_elder' (pnx (Kd.N_mono (nf2N (Kd.N_mono HO_391001.out (fun k_ hk => (⟨hk, hk.2⟩ : _ ∧ k_ ≠ gb399))) (fun _ hk => hk.2) (.int .i64 t394) (.slice Ao144 t395.length co144)) (fun _ h_ => h_.1))) (by first | exact Kd.N_base ho0 | exact Kd.S_base ho0 | exact Kd.R_base ho0) hb); have n7_ := am (Kd.N_elder' (pnx (Kd.N_mono (nf2N (Kd.N_mono HO397.out (fun k_ hk => (⟨hk, hk.2⟩ : _ ∧ k_ ≠ gb399))) (fun _ hk => hk.2) (.int .i64 t394) (.slice Ao144 t395.length co144)) (fun _ h_ => h_.1))) (by first | exact Kd.N_base ho0 | exact Kd.S_base ho0 | exact Kd.R_base ho0) hb); have n8_ := am (Kd.N_lower (Kd.N_mono (ok' := fun k_ => some k_ ≠ (v363 : Value).ownBlock ∧ some k_ ≠ (.slice Ao21 t355.length co21 : Value).ownBlock ∧ some k_ ≠ (.slice Ao24 t359.length co24 : Value).ownBlock ∧ some k_ ≠ (.slice Ao33 t366.length co33 : Value).ownBlock ∧ some k_ ≠ (.slice Ao40 t374.length co40 : Value).ownBlock ∧ some k_ ≠ (.slice Ao49 t380.length co49 : Value).ownBlock ∧ some k_ ≠ (.slice Ao59 t386.length co59 : Value).ownBlock ∧ some k_ ≠ (.slice Ao144 t395.length co144 : Value).ownBlock ∧ k_ ≠ gb352 ∧ k_ ≠ gb353 ∧ k_ ≠ gb370 ∧ k_ ≠ gb378 ∧ k_ ≠ gb384 ∧ k_ ≠ gb390 ∧ k_ ≠ gb399) (Kd.S_N (Kd.S_bound ho0)) (fun k_ hk_ => ⟨(Kd.fresh' (Kd.R_lt (by (with_reducible repeat (first | apply Kd.R_alloc | apply Kd.R_drewN | apply Kd.R_drew)); exact (Kd.R_mono (nf2R (Kd.R_types HO_3.out BK399.out (by decide)) (fun _ hk => hk.2) (.int .i64 t394) (.slice Ao144 t395.length co144)) (fun _ h_ => h_.1)))) k_ hk_.2.1), (Kd.fresh' (Kd.N_lt (pnx (Kd.N_mono (nf2N (Kd.N_mono HO_353001.out (fun k_ hk => (⟨hk, hk.2⟩ : _ ∧ k_ ≠ gb399))) (fun _ hk => hk.2) (.int .i64 t394) (.slice Ao144 t395.length co144)) (fun _ h_ => h_.1)))) k_ hk_.2.1), (Kd.fresh' (Kd.N_lt (pnx (Kd.N_mono (nf2N (Kd.N_mono HO_354001.out (fun k_ hk => (⟨hk, hk.2⟩ : _ ∧ k_ ≠ gb399))) (fun _ hk => hk.2) (.int .i64 t394) (.slice Ao144 t395.length co144)) (fun _ h_ => h_.1)))) k_ hk_.2.1), (Kd.fresh' (Kd.N_lt (pnx (Kd.N_mono (nf2N (Kd.N_mono HO_371001.out (fun k_ hk => (⟨hk, hk.2⟩ : _ ∧ k_ ≠ gb399))) (fun _ hk => hk.2) (.int .i64 t394) (.slice Ao144 t395.length co144)) (fun _ h_ => h_.1)))) k_ hk_.2.1), (Kd.fresh' (Kd.N_lt (pnx (Kd.N_mono (nf2N (Kd.N_mono HO_379001.out (fun k_ hk => (⟨hk, hk.2⟩ : _ ∧ k_ ≠ gb399))) (fun _ hk => hk.2) (.int .i64 t394) (.slice Ao144 t395.length co144)) (fun _ h_ => h_.1)))) k_ hk_.2.1), (Kd.fresh' (Kd.N_lt (pnx (Kd.N_mono (nf2N (Kd.N_mono HO_385001.out (fun k_ hk => (⟨hk, hk.2⟩ : _ ∧ k_ ≠ gb399))) (fun _ hk => hk.2) (.int .i64 t394) (.slice Ao144 t395.length co144)) (fun _ h_ => h_.1)))) k_ hk_.2.1), (Kd.fresh' (Kd.N_lt (pnx (Kd.N_mono (nf2N (Kd.N_mono HO_391001.out (fun k_ hk => (⟨hk, hk.2⟩ : _ ∧ k_ ≠ gb399))) (fun _ hk => hk.2) (.int .i64 t394) (.slice Ao144 t395.length co144)) (fun _ h_ => h_.1)))) k_ hk_.2.1), (Kd.fresh' (Kd.N_lt (pnx (Kd.N_mono (nf2N (Kd.N_mono HO397.out (fun k_ hk => (⟨hk, hk.2⟩ : _ ∧ k_ ≠ gb399))) (fun _ hk => hk.2) (.int .i64 t394) (.slice Ao144 t395.length co144)) (fun _ h_ => h_.1)))) k_ hk_.2.1), (fq BK352 k_ hk_.2.1), (fq BK353 k_ hk_.2.1), (fq BK370 k_ hk_.2.1), (fq BK378 k_ hk_.2.1), (fq BK384 k_ hk_.2.1), (fq BK390 k_ hk_.2.1), (Kd.freshB (g := gb399) (o := .cells #[.int .i64 t394, .slice Ao144 t395.length co144] 55 (0, 0)) (by (with_reducible repeat (first | refine blk_drewN ?_ _ | refine blk_drew ?_ | refine blk_alloc ?_ _)); refine blk_put (cs := #[.int .i64 t394, .slice none 0 0]) ?_ 1 _ rfl; (with_reducible repeat (first | refine blk_drewN ?_ _ | refine blk_drew ?_ | refine blk_alloc ?_ _)); refine blk_put (cs := #[.int .i64 0, .slice none 0 0]) ?_ 0 _ rfl; (with_reducible repeat (first | refine blk_drewN ?_ _ | refine blk_drew ?_ | refine blk_alloc ?_ _)); exact BK399.out) k_ hk_.2.1)⟩)) (below_size (pb HB))); have n9_ := bq BK352 hb; have n10_ := bq BK353 hb; have n11_ := bq BK370 hb; have n12_ := bq BK378 hb; have n13_ := bq BK384 hb; have n14_ := bq BK390 hb; have n15_ := am (blk_below (g := gb399) (o := .cells #[.int .i64 t394, .slice Ao144 t395.length co144] 55 (0, 0)) (by (with_reducible repeat (first | refine blk_drewN ?_ _ | refine blk_drew ?_ | refine blk_alloc ?_ _)); refine blk_put (cs := #[.int .i64 t394, .slice none 0 0]) ?_ 1 _ rfl; (with_reducible repeat (first | refine blk_drewN ?_ _ | refine blk_drew ?_ | refine blk_alloc ?_ _)); refine blk_put (cs := #[.int .i64 0, .slice none 0 0]) ?_ 0 _ rfl; (with_reducible repeat (first | refine blk_drewN ?_ _ | refine blk_drew ?_ | refine blk_alloc ?_ _)); exact BK399.out) hb); have n16_ := am (below_step (pb HB) hb); clear HO_3 HO_353001 HO_354001 HO_371001 HO_379001 HO_385001 HO_391001 HO397 BK352 BK353 BK370 BK378 BK384 BK390 BK399 HB; have HO_3 := n0_; have HO_353001 := n1_; have HO_354001 := n2_; have HO_371001 := n3_; have HO_379001 := n4_; have HO_385001 := n5_; have HO_391001 := n6_; have HO397 := n7_; have HO404 := n8_; have BK352 := n9_; have BK353 := n10_; have BK370 := n11_; have BK378 := n12_; have BK384 := n13_; have BK390 := n14_; have BK399 := n15_; have HB := n16_; clear n0_ n1_ n2_ n3_ n4_ n5_ n6_ n7_ n8_ n9_ n10_ n11_ n12_ n13_ n14_ n15_ n16_; (try clear hb); (try clear hb2); (try clear hk); (try clear hi); (try clear ho0)) | ((with_reducible refine gate_dst (N := 19) rfl ?_); (try (refine gate_guard (by rfl) ?_; dsimp only)); refine box_event ?hg (N := 19) ?hd (cs := #[.int .i64 0, .slice none 0 0]) (t := 55) ?hr ?_; (case hd => rfl); (case hg => rfl); (case hr => first | (go_simp; done) | (go_simp; rfl)); intro gb406 hg w147 hbox hb; have n0_ := am (Kd.R_below (pr HO_3) hb); have n1_ := am (Kd.N_below (Kd.N_elderB (pn HO_353001) gb406 (Nat.le_of_eq hg.symm)) hb); have n2_ := am (Kd.N_below (Kd.N_elderB (pn HO_354001) gb406 (Nat.le_of_eq hg.symm)) hb); have n3_ := am (Kd.N_below (Kd.N_elderB (pn HO_371001) gb406 (Nat.le_of_eq hg.symm)) hb); have n4_ := am (Kd.N_below (Kd.N_elderB (pn HO_379001) gb406 (Nat.le_of_eq hg.symm)) hb); have n5_ := am (Kd.N_below (Kd.N_elderB (pn HO_385001) gb406 (Nat.le_of_eq hg.symm)) hb); have n6_ := am (Kd.N_below (Kd.N_elderB (pn HO_391001) gb406 (Nat.le_of_eq hg.symm)) hb); have n7_ := am (Kd.N_below (Kd.N_elderB (pn HO397) gb406 (Nat.le_of_eq hg.symm)) hb); have n8_ := am (Kd.N_below (Kd.N_elderB (pn HO404) gb406 (Nat.le_of_eq hg.symm)) hb); have n9_ := bb BK352 hb; have n10_ := bb BK353 hb; have n11_ := bb BK370 hb; have n12_ := bb BK378 hb; have n13_ := bb BK384 hb; have n14_ := bb BK390 hb; have n15_ := bb BK399 hb; have n16_ := am (below_step (pb HB) hb); have n17_ := am (hbox); have n18_ := am ((by rw [hg]; exact (below_size (pb HB)) : w.heap.size ≤ gb406)); have n19_ := am ((by rw [hg]; exact (below_size (pb HB)) : w.heap.size ≤ gb406)); have n20_ := am ((by rw [hg]; exact Nat.ne_of_lt (bl BK352) : gb352 ≠ gb406)); have n21_ := am ((by rw [hg]; exact Nat.ne_of_gt (bl BK352) : gb406 ≠ gb352)); have n22_ := am ((by rw [hg]; exact Nat.ne_of_lt (bl BK353) : gb353 ≠ gb406)); have n23_ := am ((by rw [hg]; exact Nat.ne_of_gt (bl BK353) : gb406 ≠ gb353)); have n24_ := am ((by rw [hg]; exact Nat.ne_of_lt (bl BK370) : gb370 ≠ gb406)); have n25_ := am ((by rw [hg]; exact Nat.ne_of_gt (bl BK370) : gb406 ≠ gb370)); have n26_ := am ((by rw [hg]; exact Nat.ne_of_lt (bl BK378) : gb378 ≠ gb406)); have n27_ := am ((by rw [hg]; exact Nat.ne_of_gt (bl BK378) : gb406 ≠ gb378)); have n28_ := am ((by rw [hg]; exact Nat.ne_of_lt (bl BK384) : gb384 ≠ gb406)); have n29_ := am ((by rw [hg]; exact Nat.ne_of_gt (bl BK384) : gb406 ≠ gb384)); have n30_ := am ((by rw [hg]; exact Nat.ne_of_lt (bl BK390) : gb390 ≠ gb406)); have n31_ := am ((by rw [hg]; exact Nat.ne_of_gt (bl BK390) : gb406 ≠ gb390)); have n32_ := am ((by rw [hg]; exact Nat.ne_of_lt (bl BK399) : gb399 ≠ gb406)); have n33_ := am ((by rw [hg]; exact Nat.ne_of_gt (bl BK399) : gb406 ≠ gb399)); clear HO_3 HO_353001 HO_354001 HO_371001 HO_379001 HO_385001 HO_391001 HO397 HO404 BK352 BK353 BK370 BK378 BK384 BK390 BK399 HB; have HO_3 := n0_; have HO_353001 := n1_; have HO_354001 := n2_; have HO_371001 := n3_; have HO_379001 := n4_; have HO_385001 := n5_; have HO_391001 := n6_; have HO397 := n7_; have HO404 := n8_; have BK352 := n9_; have BK353 := n10_; have BK370 := n11_; have BK378 := n12_; have BK384 := n13_; have BK390 := n14_; have BK399 := n15_; have HB := n16_; have BK406 := n17_; have GW406 := n18_; have GE406 := n19_; have NB352_406 := n20_; have NB406_352 := n21_; have NB353_406 := n22_; have NB406_353 := n23_; have NB370_406 := n24_; have NB406_370 := n25_; have NB378_406 := n26_; have NB406_378 := n27_; have NB384_406 := n28_; have NB406_384 := n29_; have NB390_406 := n30_; have NB406_390 := n31_; have NB399_406 := n32_; have NB406_399 := n33_; clear n0_ n1_ n2_ n3_ n4_ n5_ n6_ n7_ n8_ n9_ n10_ n11_ n12_ n13_ n14_ n15_ n16_ n17_ n18_ n19_ n20_ n21_ n22_ n23_ n24_ n25_ n26_ n27_ n28_ n29_ n30_ n31_ n32_ n33_ hb hbox hg; have hnb148 := NB406_352.out; have hnc148 := NB352_406.out; have hnb149 := NB406_353.out; have hnc149 := NB353_406.out; have hnb150 := NB406_370.out; have hnc150 := NB370_406.out; have hnb151 := NB406_378.out; have hnc151 := NB378_406.out; have hnb152 := NB406_384.out; have hnc152 := NB384_406.out; have hnb153 := NB406_390.out; have hnc153 := NB390_406.out; have hnb154 := NB406_399.out; have hnc154 := NB399_406.out; have hcz155_0 : w147.cell? ⟨gb406, 0, none⟩ = some (.int .i64 0) := (blk_cell BK406.out 0).trans rfl; have hcz155_1 : w147.cell? ⟨gb406, 1, none⟩ = some (.slice none 0 0) := (blk_cell BK406.out 1).trans rfl; have hfz155_0 := blk_frozen BK406.out 0; have hfz155_1 := blk_frozen BK406.out 1; obtain ⟨Ao156, co156, eo156⟩ := Kd.N_slice HO404.out; subst eo156; have hcz157_0 : w147.cell? ⟨gb399, 0, none⟩ = some (.int .i64 t394) := (blk_cell BK399.out 0).trans rfl; have hcz157_1 : w147.cell? ⟨gb399, 1, none⟩ = some (.slice Ao144 t395.length co144) := (blk_cell BK399.out 1).trans rfl; have hfz157_0 := blk_frozen BK399.out 0; have hfz157_1 := blk_frozen BK399.out 1) | ((with_reducible refine gate_callee (f := 44) rfl ?_); refine goesL_ (some 111) rfl rfl Tryd.func44 (by kernel_rfl) rfl #[.agg #[.int .i64 t394, .slice Ao144 t395.length co144]] rfl (by (try simp only [List.map_toArray, List.map_cons, List.map_nil]); first | done | rfl | (simp only [List.length_drop, List.length_take]; rfl)) ?_; (with_reducible refine (matrix_Turn.calls kj12 t394 _ _ t395 t407 t408 t411 _ ?side1 ?side2 A121.out).mono ?_); (case side1 => refine (Kd.N_reads' (e := 25) (base := w.heap.size) (ok := fun k_ => ((((some k_ ≠ (v363 : Value).ownBlock ∧ (some k_ ≠ (.slice Ao21 t355.length co21 : Value).ownBlock ∧ (some k_ ≠ (.slice Ao24 t359.length co24 : Value).ownBlock ∧ (some k_ ≠ (.slice Ao33 t366.length co33 : Value).ownBlock ∧ (some k_ ≠ (.slice Ao40 t374.length co40 : Value).ownBlock ∧ (some k_ ≠ (.slice Ao49 t380.length co49 : Value).ownBlock ∧ (some k_ ≠ (.slice Ao59 t386.length co59 : Value).ownBlock ∧ (k_ ≠ gb352 ∧ (k_ ≠ gb353 ∧ (k_ ≠ gb370 ∧ (k_ ≠ gb378 ∧ (k_ ≠ gb384 ∧ k_ ≠ gb390)))))))))))) ∧ k_ ≠ gb399) ∧ some k_ ≠ (.slice Ao156 t402.length co156 : Value).ownBlock) ∧ k_ ≠ gb406)) (n := t395.length) (c := co144) ?_).2.2; exact (pnx (Kd.N_mono (nf2N (Kd.N_mono HO397.out (fun k_ hk => (⟨hk, hk.2⟩ : _ ∧ k_ ≠ gb406))) (fun _ hk => hk.2) (.int .i64 t401) (.slice Ao156 t402.length co156)) (fun _ h_ => h_.1)))); (case side2 => exact (Kd.N_reads' HO397.out).2.1); rintro e w158 ⟨v409, rfl, ho0, hb⟩; refine ⟨_, rfl, ?_⟩; have n0_ := am (Kd.R_below (by (with_reducible repeat (first | apply Kd.R_alloc | apply Kd.R_drewN | apply Kd.R_drew)); exact (Kd.R_mono (nf2R (Kd.R_types HO_3.out BK406.out (by decide)) (fun _ hk => hk.2) (.int .i64 t401) (.slice Ao156 t402.length co156)) (fun _ h_ => h_.1))) hb); have n1_ := am (Kd.N_elder' (pnx (Kd.N_mono (nf2N (Kd.N_mono HO_353001.out (fun k_ hk => (⟨hk, hk.2⟩ : _ ∧ k_ ≠ gb406))) (fun _ hk => hk.2) (.int .i64 t401) (.slice Ao156 t402.length co156)) (fun _ h_ => h_.1))) (by first | exact Kd.N_base ho0 | exact Kd.S_base ho0 | exact Kd.R_base ho0) hb); have n2_ := am (Kd.N_elder' (pnx (Kd.N_mono (nf2N (Kd.N_mono HO_354001.out (fun k_ hk => (⟨hk, hk.2⟩ : _ ∧ k_ ≠ gb406))) (fun _ hk => hk.2) (.int .i64 t401) (.slice Ao156 t402.length co156)) (fun _ h_ => h_.1))) (by first | exact Kd.N_base ho0 | exact Kd.S_base ho0 | exact Kd.R_base ho0) hb); have n3_ := am (Kd.N_elder' (pnx (Kd.N_mono (nf2N (Kd.N_mono HO_371001.out (fun k_ hk => (⟨hk, hk.2⟩ : _ ∧ k_ ≠ gb406))) (fun _ hk => hk.2) (.int .i64 t401) (.slice Ao156 t402.length co156)) (fun _ h_ => h_.1))) (by first | exact Kd.N_base ho0 | exact Kd.S_base ho0 | exact Kd.R_base ho0) hb); have n4_ := am (Kd.N_elder' (pnx (Kd.N_mono (nf2N (Kd.N_mono HO_379001.out (fun k_ hk => (⟨hk, hk.2⟩ : _ ∧ k_ ≠ gb406))) (fun _ hk => hk.2) (.int .i64 t401) (.slice Ao156 t402.length co156)) (fun _ h_ => h_.1))) (by first | exact Kd.N_base ho0 | exact Kd.S_base ho0 | exact Kd.R_base ho0) hb); have n5_ := am (Kd.N_elder' (pnx (Kd.N_mono (nf2N (Kd.N_mono HO_385001.out (fun k_ hk => (⟨hk, hk.2⟩ : _ ∧ k_ ≠ gb406))) (fun _ hk => hk.2) (.int .i64 t401) (.slice Ao156 t402.length co156)) (fun _ h_ => h_.1))) (by first | exact Kd.N_base ho0 | exact Kd.S_base ho0 | exact Kd.R_base ho0) hb); have n6_ := am (Kd.N_elder' (pnx (Kd.N_mono (nf2N (Kd.N_mono HO_391001.out (fun k_ hk => (⟨hk, hk.2⟩ : _ ∧ k_ ≠ gb406))) (fun _ hk => hk.2) (.int .i64 t401) (.slice Ao156 t402.length co156)) (fun _ h_ => h_.1))) (by first | exact Kd.N_base ho0 | exact Kd.S_base ho0 | exact Kd.R_base ho0) hb); have n7_ := am (Kd.N_elder' (pnx (Kd.N_mono (nf2N (Kd.N_mono HO397.out (fun k_ hk => (⟨hk, hk.2⟩ : _ ∧ k_ ≠ gb406))) (fun _ hk => hk.2) (.int .i64 t401) (.slice Ao156 t402.length co156)) (fun _ h_ => h_.1))) (by first | exact Kd.N_base ho0 | exact Kd.S_base ho0 | exact Kd.R_base ho0) hb); have n8_ := am (Kd.N_elder' (pnx (Kd.N_mono (nf2N (Kd.N_mono HO404.out (fun k_ hk => (⟨hk, hk.2⟩ : _ ∧ k_ ≠ gb406))) (fun _ hk => hk.2) (.int .i64 t401) (.slice Ao156 t402.length co156)) (fun _ h_ => h_.1))) (by first | exact Kd.N_base ho0 | exact Kd.S_base ho0 | exact Kd.R_base ho0) hb); have n9_ := am (Kd.N_lower (Kd.N_mono (ok' := fun k_ => some k_ ≠ (v363 : Value).ownBlock ∧ some k_ ≠ (.slice Ao21 t355.length co21 : Value).ownBlock ∧ some k_ ≠ (.slice Ao24 t359.length co24 : Value).ownBlock ∧ some k_ ≠ (.slice Ao33 t366.length co33 : Value).ownBlock ∧ some k_ ≠ (.slice Ao40 t374.length co40 : Value).ownBlock ∧ some k_ ≠ (.slice Ao49 t380.length co49 : Value).ownBlock ∧ some k_ ≠ (.slice Ao59 t386.length co59 : Value).ownBlock ∧ some k_ ≠ (.slice Ao144 t395.length co144 : Value).ownBlock ∧ some k_ ≠ (.slice Ao156 t402.length co156 : Value).ownBlock ∧ k_ ≠ gb352 ∧ k_ ≠ gb353 ∧ k_ ≠ gb370 ∧ k_ ≠ gb378 ∧ k_ ≠ gb384 ∧ k_ ≠ gb390 ∧ k_ ≠ gb399 ∧ k_ ≠ gb406) (Kd.S_N (Kd.S_bound ho0)) (fun k_ hk_ => ⟨(Kd.fresh' (Kd.R_lt (by (with_reducible repeat (first | apply Kd.R_alloc | apply Kd.R_drewN | apply Kd.R_drew)); exact (Kd.R_mono (nf2R (Kd.R_types HO_3.out BK406.out (by decide)) (fun _ hk => hk.2) (.int .i64 t401) (.slice Ao156 t402.length co156)) (fun _ h_ => h_.1)))) k_ hk_.2.1), (Kd.fresh' (Kd.N_lt (pnx (Kd.N_mono (nf2N (Kd.N_mono HO_353001.out (fun k_ hk => (⟨hk, hk.2⟩ : _ ∧ k_ ≠ gb406))) (fun _ hk => hk.2) (.int .i64 t401) (.slice Ao156 t402.length co156)) (fun _ h_ => h_.1)))) k_ hk_.2.1), (Kd.fresh' (Kd.N_lt (pnx (Kd.N_mono (nf2N (Kd.N_mono HO_354001.out (fun k_ hk => (⟨hk, hk.2⟩ : _ ∧ k_ ≠ gb406))) (fun _ hk => hk.2) (.int .i64 t401) (.slice Ao156 t402.length co156)) (fun _ h_ => h_.1)))) k_ hk_.2.1), (Kd.fresh' (Kd.N_lt (pnx (Kd.N_mono (nf2N (Kd.N_mono HO_371001.out (fun k_ hk => (⟨hk, hk.2⟩ : _ ∧ k_ ≠ gb406))) (fun _ hk => hk.2) (.int .i64 t401) (.slice Ao156 t402.length co156)) (fun _ h_ => h_.1)))) k_ hk_.2.1), (Kd.fresh' (Kd.N_lt (pnx (Kd.N_mono (nf2N (Kd.N_mono HO_379001.out (fun k_ hk => (⟨hk, hk.2⟩ : _ ∧ k_ ≠ gb406))) (fun _ hk => hk.2) (.int .i64 t401) (.slice Ao156 t402.length co156)) (fun _ h_ => h_.1)))) k_ hk_.2.1), (Kd.fresh' (Kd.N_lt (pnx (Kd.N_mono (nf2N (Kd.N_mono HO_385001.out (fun k_ hk => (⟨hk, hk.2⟩ : _ ∧ k_ ≠ gb406))) (fun _ hk => hk.2) (.int .i64 t401) (.slice Ao156 t402.length co156)) (fun _ h_ => h_.1)))) k_ hk_.2.1), (Kd.fresh' (Kd.N_lt (pnx (Kd.N_mono (nf2N (Kd.N_mono HO_391001.out (fun k_ hk => (⟨hk, hk.2⟩ : _ ∧ k_ ≠ gb406))) (fun _ hk => hk.2) (.int .i64 t401) (.slice Ao156 t402.length co156)) (fun _ h_ => h_.1)))) k_ hk_.2.1), (Kd.fresh' (Kd.N_lt (pnx (Kd.N_mono (nf2N (Kd.N_mono HO397.out (fun k_ hk => (⟨hk, hk.2⟩ : _ ∧ k_ ≠ gb406))) (fun _ hk => hk.2) (.int .i64 t401) (.slice Ao156 t402.length co156)) (fun _ h_ => h_.1)))) k_ hk_.2.1), (Kd.fresh' (Kd.N_lt (pnx (Kd.N_mono (nf2N (Kd.N_mono HO404.out (fun k_ hk => (⟨hk, hk.2⟩ : _ ∧ k_ ≠ gb406))) (fun _ hk => hk.2) (.int .i64 t401) (.slice Ao156 t402.length co156)) (fun _ h_ => h_.1)))) k_ hk_.2.1), (fq BK352 k_ hk_.2.1), (fq BK353 k_ hk_.2.1), (fq BK370 k_ hk_.2.1), (fq BK378 k_ hk_.2.1), (fq BK384 k_ hk_.2.1), (fq BK390 k_ hk_.2.1), (fq BK399 k_ hk_.2.1), (Kd.freshB (g := gb406) (o := .cells #[.int .i64 t401, .slice Ao156 t402.length co156] 55 (0, 0)) (by (with_reducible repeat (first | refine blk_drewN ?_ _ | refine blk_drew ?_ | refine blk_alloc ?_ _)); refine blk_put (cs := #[.int .i64 t401, .slice none 0 0]) ?_ 1 _ rfl; (with_reducible repeat (first | refine blk_drewN ?_ _ | refine blk_drew ?_ | refine blk_alloc ?_ _)); refine blk_put (cs := #[.int .i64 0, .slice none 0 0]) ?_ 0 _ rfl; (with_reducible repeat (first | refine blk_drewN ?_ _ | refine blk_drew ?_ | refine blk_alloc ?_ _)); exact BK406.out) k_ hk_.2.1)⟩)) (below_size (pb HB))); have n10_ := bq BK352 hb; have n11_ := bq BK353 hb; have n12_ := bq BK370 hb; have n13_ := bq BK378 hb; have n14_ := bq BK384 hb; have n15_ := bq BK390 hb; have n16_ := bq BK399 hb; have n17_ := am (blk_below (g := gb406) (o := .cells #[.int .i64 t401, .slice Ao156 t402.length co156] 55 (0, 0)) (by (with_reducible repeat (first | refine blk_drewN ?_ _ | refine blk_drew ?_ | refine blk_alloc ?_ _)); refine blk_put (cs := #[.int .i64 t401, .slice none 0 0]) ?_ 1 _ rfl; (with_reducible repeat (first | refine blk_drewN ?_ _ | refine blk_drew ?_ | refine blk_alloc ?_ _)); refine blk_put (cs := #[.int .i64 0, .slice none 0 0]) ?_ 0 _ rfl; (with_reducible repeat (first | refine blk_drewN ?_ _ | refine blk_drew ?_ | refine blk_alloc ?_ _)); exact BK406.out) hb); have n18_ := am (below_step (pb HB) hb); clear HO_3 HO_353001 HO_354001 HO_371001 HO_379001 HO_385001 HO_391001 HO397 HO404 BK352 BK353 BK370 BK378 BK384 BK390 BK399 BK406 HB; have HO_3 := n0_; have HO_353001 := n1_; have HO_354001 := n2_; have HO_371001 := n3_; have HO_379001 := n4_; have HO_385001 := n5_; have HO_391001 := n6_; have HO397 := n7_; have HO404 := n8_; have HO410 := n9_; have BK352 := n10_; have BK353 := n11_; have BK370 := n12_; have BK378 := n13_; have BK384 := n14_; have BK390 := n15_; have BK399 := n16_; have BK406 := n17_; have HB := n18_; clear n0_ n1_ n2_ n3_ n4_ n5_ n6_ n7_ n8_ n9_ n10_ n11_ n12_ n13_ n14_ n15_ n16_ n17_ n18_; (try clear hb); (try clear hb2); (try clear hk); (try clear hi); (try clear ho0)) | ((with_reducible refine gate_dst (N := 21) rfl ?_); (try (refine gate_guard (by rfl) ?_; dsimp only)); refine box_event ?hg (N := 21) ?hd (cs := #[.int .i64 0, .slice none 0 0]) (t := 55) ?hr ?_; (case hd => rfl); (case hg => rfl); (case hr => first | (go_simp; done) | (go_simp; rfl)); intro gb412 hg w159 hbox hb; have n0_ := am (Kd.R_below (pr HO_3) hb); have n1_ := am (Kd.N_below (Kd.N_elderB (pn HO_353001) gb412 (Nat.le_of_eq hg.symm)) hb); have n2_ := am (Kd.N_below (Kd.N_elderB (pn HO_354001) gb412 (Nat.le_of_eq hg.symm)) hb); have n3_ := am (Kd.N_below (Kd.N_elderB (pn HO_371001) gb412 (Nat.le_of_eq hg.symm)) hb); have n4_ := am (Kd.N_below (Kd.N_elderB (pn HO_379001) gb412 (Nat.le_of_eq hg.symm)) hb); have n5_ := am (Kd.N_below (Kd.N_elderB (pn HO_385001) gb412 (Nat.le_of_eq hg.symm)) hb); have n6_ := am (Kd.N_below (Kd.N_elderB (pn HO_391001) gb412 (Nat.le_of_eq hg.symm)) hb); have n7_ := am (Kd.N_below (Kd.N_elderB (pn HO397) gb412 (Nat.le_of_eq hg.symm)) hb); have n8_ := am (Kd.N_below (Kd.N_elderB (pn HO404) gb412 (Nat.le_of_eq hg.symm)) hb); have n9_ := am (Kd.N_below (Kd.N_elderB (pn HO410) gb412 (Nat.le_of_eq hg.symm)) hb); have n10_ := bb BK352 hb; have n11_ := bb BK353 hb; have n12_ := bb BK370 hb; have n13_ := bb BK378 hb; have n14_ := bb BK384 hb; have n15_ := bb BK390 hb; have n16_ := bb BK399 hb; have n17_ := bb BK406 hb; have n18_ := am (below_step (pb HB) hb); have n19_ := am (hbox); have n20_ := am ((by rw [hg]; exact (below_size (pb HB)) : w.heap.size ≤ gb412)); have n21_ := am ((by rw [hg]; exact (below_size (pb HB)) : w.heap.size ≤ gb412)); have n22_ := am ((by rw [hg]; exact Nat.ne_of_lt (bl BK352) : gb352 ≠ gb412)); have n23_ := am ((by rw [hg]; exact Nat.ne_of_gt (bl BK352) : gb412 ≠ gb352)); have n24_ := am ((by rw [hg]; exact Nat.ne_of_lt (bl BK353) : gb353 ≠ gb412)); have n25_ := am ((by rw [hg]; exact Nat.ne_of_gt (bl BK353) : gb412 ≠ gb353)); have n26_ := am ((by rw [hg]; exact Nat.ne_of_lt (bl BK370) : gb370 ≠ gb412)); have n27_ := am ((by rw [hg]; exact Nat.ne_of_gt (bl BK370) : gb412 ≠ gb370)); have n28_ := am ((by rw [hg]; exact Nat.ne_of_lt (bl BK378) : gb378 ≠ gb412)); have n29_ := am ((by rw [hg]; exact Nat.ne_of_gt (bl BK378) : gb412 ≠ gb378)); have n30_ := am ((by rw [hg]; exact Nat.ne_of_lt (bl BK384) : gb384 ≠ gb412)); have n31_ := am ((by rw [hg]; exact Nat.ne_of_gt (bl BK384) : gb412 ≠ gb384)); have n32_ := am ((by rw [hg]; exact Nat.ne_of_lt (bl BK390) : gb390 ≠ gb412)); have n33_ := am ((by rw [hg]; exact Nat.ne_of_gt (bl BK390) : gb412 ≠ gb390)); have n34_ := am ((by rw [hg]; exact Nat.ne_of_lt (bl BK399) : gb399 ≠ gb412)); have n35_ := am ((by rw [hg]; exact Nat.ne_of_gt (bl BK399) : gb412 ≠ gb399)); have n36_ := am ((by rw [hg]; exact Nat.ne_of_lt (bl BK406) : gb406 ≠ gb412)); have n37_ := am ((by rw [hg]; exact Nat.ne_of_gt (bl BK406) : gb412 ≠ gb406)); clear HO_3 HO_353001 HO_354001 HO_371001 HO_379001 HO_385001 HO_391001 HO397 HO404 HO410 BK352 BK353 BK370 BK378 BK384 BK390 BK399 BK406 HB; have HO_3 := n0_; have HO_353001 := n1_; have HO_354001 := n2_; have HO_371001 := n3_; have HO_379001 := n4_; have HO_385001 := n5_; have HO_391001 := n6_; have HO397 := n7_; have HO404 := n8_; have HO410 := n9_; have BK352 := n10_; have BK353 := n11_; have BK370 := n12_; have BK378 := n13_; have BK384 := n14_; have BK390 := n15_; have BK399 := n16_; have BK406 := n17_; have HB := n18_; have BK412 := n19_; have GW412 := n20_; have GE412 := n21_; have NB352_412 := n22_; have NB412_352 := n23_; have NB353_412 := n24_; have NB412_353 := n25_; have NB370_412 := n26_; have NB412_370 := n27_; have NB378_412 := n28_; have NB412_378 := n29_; have NB384_412 := n30_; have NB412_384 := n31_; have NB390_412 := n32_; have NB412_390 := n33_; have NB399_412 := n34_; have NB412_399 := n35_; have NB406_412 := n36_; have NB412_406 := n37_; clear n0_ n1_ n2_ n3_ n4_ n5_ n6_ n7_ n8_ n9_ n10_ n11_ n12_ n13_ n14_ n15_ n16_ n17_ n18_ n19_ n20_ n21_ n22_ n23_ n24_ n25_ n26_ n27_ n28_ n29_ n30_ n31_ n32_ n33_ n34_ n35_ n36_ n37_ hb hbox hg; have hnb160 := NB412_352.out; have hnc160 := NB352_412.out; have hnb161 := NB412_353.out; have hnc161 := NB353_412.out; have hnb162 := NB412_370.out; have hnc162 := NB370_412.out; have hnb163 := NB412_378.out; have hnc163 := NB378_412.out; have hnb164 := NB412_384.out; have hnc164 := NB384_412.out; have hnb165 := NB412_390.out; have hnc165 := NB390_412.out; have hnb166 := NB412_399.out; have hnc166 := NB399_412.out; have hnb167 := NB412_406.out; have hnc167 := NB406_412.out; have hcz168_0 : w159.cell? ⟨gb412, 0, none⟩ = some (.int .i64 0) := (blk_cell BK412.out 0).trans rfl; have hcz168_1 : w159.cell? ⟨gb412, 1, none⟩ = some (.slice none 0 0) := (blk_cell BK412.out 1).trans rfl; have hfz168_0 := blk_frozen BK412.out 0; have hfz168_1 := blk_frozen BK412.out 1; obtain ⟨Ao169, co169, eo169⟩ := Kd.N_slice HO410.out; subst eo169; have hcz170_0 : w159.cell? ⟨gb406, 0, none⟩ = some (.int .i64 t401) := (blk_cell BK406.out 0).trans rfl; have hcz170_1 : w159.cell? ⟨gb406, 1, none⟩ = some (.slice Ao156 t402.length co156) := (blk_cell BK406.out 1).trans rfl; have hfz170_0 := blk_frozen BK406.out 0; have hfz170_1 := blk_frozen BK406.out 1; have hnb171 := NB370_378.out; have hnc171 := NB378_370.out; have hnb172 := NB370_384.out; have hnc172 := NB384_370.out; have hnb173 := NB370_390.out; have hnc173 := NB390_370.out; have hcz174_0 : w159.cell? ⟨gb370, 0, none⟩ = some (.int .i64 t365) := (blk_cell BK370.out 0).trans rfl; have hcz174_1 : w159.cell? ⟨gb370, 1, none⟩ = some (.slice Ao33 t366.length co33) := (blk_cell BK370.out 1).trans rfl; have hfz174_0 := blk_frozen BK370.out 0; have hfz174_1 := blk_frozen BK370.out 1) | ((with_reducible refine gate_callee (f := 36) rfl ?_); refine goesL_ (some 117) rfl rfl Tryd.func36 (by kernel_rfl) rfl #[.agg #[.int .i64 t401, .slice Ao156 t402.length co156], .agg #[.int .i64 t365, .slice Ao33 t366.length co33]] rfl (by (try simp only [List.map_toArray, List.map_cons, List.map_nil]); first | done | rfl | (simp only [List.length_drop, List.length_take]; rfl)) ?_; (with_reducible refine (matrix_Mul.calls kj12 t401 _ _ t402 t365 _ _ t366 t413 t414 t417 _ ?side5 ?side1 ?side2 ?side3 ?side4 A122.out).mono ?_); (case side1 => refine (Kd.N_reads' (e := 25) (base := w.heap.size) (ok := fun k_ => ((((some k_ ≠ (v363 : Value).ownBlock ∧ (some k_ ≠ (.slice Ao21 t355.length co21 : Value).ownBlock ∧ (some k_ ≠ (.slice Ao24 t359.length co24 : Value).ownBlock ∧ (some k_ ≠ (.slice Ao33 t366.length co33 : Value).ownBlock ∧ (some k_ ≠ (.slice Ao40 t374.length co40 : Value).ownBlock ∧ (some k_ ≠ (.slice Ao49 t380.length co49 : Value).ownBlock ∧ (some k_ ≠ (.slice Ao59 t386.length co59 : Value).ownBlock ∧ (some k_ ≠ (.slice Ao144 t395.length co144 : Value).ownBlock ∧ (k_ ≠ gb352 ∧ (k_ ≠ gb353 ∧ (k_ ≠ gb370 ∧ (k_ ≠ gb378 ∧ (k_ ≠ gb384 ∧ (k_ ≠ gb390 ∧ k_ ≠ gb399)))))))))))))) ∧ k_ ≠ gb406) ∧ some k_ ≠ (.slice Ao169 t408.length co169 : Value).ownBlock) ∧ k_ ≠ gb412)) (n := t402.length) (c := co156) ?_).2.2; exact (pnx (Kd.N_mono (nf2N (Kd.N_mono HO404.out (fun k_ hk => (⟨hk, hk.2⟩ : _ ∧ k_ ≠ gb412))) (fun _ hk => hk.2) (.int .i64 t407) (.slice Ao169 t408.length co169)) (fun _ h_ => h_.1)))); (case side2 => exact (Kd.N_reads' HO404.out).2.1); (case side3 => refine (Kd.N_reads' (e := 25) (base := w.heap.size) (ok := fun k_ => (((((((some k_ ≠ (v363 : Value).ownBlock ∧ (some k_ ≠ (.slice Ao21 t355.length co21 : Value).ownBlock ∧ (some k_ ≠ (.slice Ao24 t359.length co24 : Value).ownBlock ∧ (some k_ ≠ (.slice Ao40 t374.length co40 : Value).ownBlock ∧ (some k_ ≠ (.slice Ao49 t380.length co49 : Value).ownBlock ∧ (some k_ ≠ (.slice Ao59 t386.length co59 : Value).ownBlock ∧ (k_ ≠ gb352 ∧ (k_ ≠ gb353 ∧ (k_ ≠ gb370 ∧ (k_ ≠ gb378 ∧ (k_ ≠ gb384 ∧ k_ ≠ gb390))))))))))) ∧ some k_ ≠ (.slice Ao144 t395.length co144 : Value).ownBlock) ∧ k_ ≠ gb399) ∧ some k_ ≠ (.slice Ao156 t402.length co156 : Value).ownBlock) ∧ k_ ≠ gb406) ∧ some k_ ≠ (.slice Ao169 t408.length co169 : Value).ownBlock) ∧ k_ ≠ gb412)) (n := t366.length) (c := co33) ?_).2.2; exact (pnx (Kd.N_mono (nf2N (Kd.N_mono HO_371001.out (fun k_ hk => (⟨hk, hk.2⟩ : _ ∧ k_ ≠ gb412))) (fun _ hk => hk.2) (.int .i64 t407) (.slice Ao169 t408.length co169)) (fun _ h_ => h_.1)))); (case side4 => exact (Kd.N_reads' HO_371001.out).2.1); (case side5 => exact TabOk.below HT.out (pb HB)); rintro e w175 ⟨v415, rfl, ho0, hb⟩; refine ⟨_, rfl, ?_⟩; have n0_ := am (Kd.R_below (by (with_reducible repeat (first | apply Kd.R_alloc | apply Kd.R_drewN | apply Kd.R_drew)); exact (Kd.R_mono (nf2R (Kd.R_types HO_3.out BK412.out (by decide)) (fun _ hk => hk.2) (.int .i64 t407) (.slice Ao169 t408.length co169)) (fun _ h_ => h_.1))) hb); have n1_ := am (Kd.N_elder' (pnx (Kd.N_mono (nf2N (Kd.N_mono HO_353001.out (fun k_ hk => (⟨hk, hk.2⟩ : _ ∧ k_ ≠ gb412))) (fun _ hk => hk.2) (.int .i64 t407) (.slice Ao169 t408.length co169)) (fun _ h_ => h_.1))) (by first | exact Kd.N_base ho0 | exact Kd.S_base ho0 | exact Kd.R_base ho0) hb); have n2_ := am (Kd.N_elder' (pnx (Kd.N_mono (nf2N (Kd.N_mono HO_354001.out (fun k_ hk => (⟨hk, hk.2⟩ : _ ∧ k_ ≠ gb412))) (fun _ hk => hk.2) (.int .i64 t407) (.slice Ao169 t408.length co169)) (fun _ h_ => h_.1))) (by first | exact Kd.N_base ho0 | exact Kd.S_base ho0 | exact Kd.R_base ho0) hb); have n3_ := am (Kd.N_elder' (pnx (Kd.N_mono (nf2N (Kd.N_mono HO_371001.out (fun k_ hk => (⟨hk, hk.2⟩ : _ ∧ k_ ≠ gb412))) (fun _ hk => hk.2) (.int .i64 t407) (.slice Ao169 t408.length co169)) (fun _ h_ => h_.1))) (by first | exact Kd.N_base ho0 | exact Kd.S_base ho0 | exact Kd.R_base ho0) hb); have n4_ := am (Kd.N_elder' (pnx (Kd.N_mono (nf2N (Kd.N_mono HO_379001.out (fun k_ hk => (⟨hk, hk.2⟩ : _ ∧ k_ ≠ gb412))) (fun _ hk => hk.2) (.int .i64 t407) (.slice Ao169 t408.length co169)) (fun _ h_ => h_.1))) (by first | exact Kd.N_base ho0 | exact Kd.S_base ho0 | exact Kd.R_base ho0) hb); have n5_ := am (Kd.N_elder' (pnx (Kd.N_mono (nf2N (Kd.N_mono HO_385001.out (fun k_ hk => (⟨hk, hk.2⟩ : _ ∧ k_ ≠ gb412))) (fun _ hk => hk.2) (.int .i64 t407) (.slice Ao169 t408.length co169)) (fun _ h_ => h_.1))) (by first | exact Kd.N_base ho0 | exact Kd.S_base ho0 | exact Kd.R_base ho0) hb); have n6_ := am (Kd.N_elder' (pnx (Kd.N_mono (nf2N (Kd.N_mono HO_391001.out (fun k_ hk => (⟨hk, hk.2⟩ : _ ∧ k_ ≠ gb412))) (fun _ hk => hk.2) (.int .i64 t407) (.slice Ao169 t408.length co169)) (fun _ h_ => h_.1))) (by first | exact Kd.N_base ho0 | exact Kd.S_base ho0 | exact Kd.R_base ho0) hb); have n7_ := am (Kd.N_elder' (pnx (Kd.N_mono (nf2N (Kd.N_mono HO397.out (fun k_ hk => (⟨hk, hk.2⟩ : _ ∧ k_ ≠ gb412))) (fun _ hk => hk.2) (.int .i64 t407) (.slice Ao169 t408.length co169)) (fun _ h_ => h_.1))) (by first | exact Kd.N_base ho0 | exact Kd.S_base ho0 | exact Kd.R_base ho0) hb); have n8_ := am (Kd.N_elder' (pnx (Kd.N_mono (nf2N (Kd.N_mono HO404.out (fun k_ hk => (⟨hk, hk.2⟩ : _ ∧ k_ ≠ gb412))) (fun _ hk => hk.2) (.int .i64 t407) (.slice Ao169 t408.length co169)) (fun _ h_ => h_.1))) (by first | exact Kd.N_base ho0 | exact Kd.S_base ho0 | exact Kd.R_base ho0) hb); have n9_ := am (Kd.N_elder' (pnx (Kd.N_mono (nf2N (Kd.N_mono HO410.out (fun k_ hk => (⟨hk, hk.2⟩ : _ ∧ k_ ≠ gb412))) (fun _ hk => hk.2) (.int .i64 t407) (.slice Ao169 t408.length co169)) (fun _ h_ => h_.1))) (by first | exact Kd.N_base ho0 | exact Kd.S_base ho0 | exact Kd.R_base ho0) hb); have n10_ := am (Kd.N_lower (Kd.N_mono (ok' := fun k_ => some k_ ≠ (v363 : Value).ownBlock ∧ some k_ ≠ (.slice Ao21 t355.length co21 : Value).ownBlock ∧ some k_ ≠ (.slice Ao24 t359.length co24 : Value).ownBlock ∧ some k_ ≠ (.slice Ao33 t366.length co33 : Value).ownBlock ∧ some k_ ≠ (.slice Ao40 t374.length co40 : Value).ownBlock ∧ some k_ ≠ (.slice Ao49 t380.length co49 : Value).ownBlock ∧ some k_ ≠ (.slice Ao59 t386.length co59 : Value).ownBlock ∧ some k_ ≠ (.slice Ao144 t395.length co144 : Value).ownBlock ∧ some k_ ≠ (.slice Ao156 t402.length co156 : Value).ownBlock ∧ some k_ ≠ (.slice Ao169 t408.length co169 : Value).ownBlock ∧ k_ ≠ gb352 ∧ k_ ≠ gb353 ∧ k_ ≠ gb370 ∧ k_ ≠ gb378 ∧ k_ ≠ gb384 ∧ k_ ≠ gb390 ∧ k_ ≠ gb399 ∧ k_ ≠ gb406 ∧ k_ ≠ gb412) (Kd.S_N (Kd.S_bound ho0)) (fun k_ hk_ => ⟨(Kd.fresh' (Kd.R_lt (by (with_reducible repeat (first | apply Kd.R_alloc | apply Kd.R_drewN | apply Kd.R_drew)); exact (Kd.R_mono (nf2R (Kd.R_types HO_3.out BK412.out (by decide)) (fun _ hk => hk.2) (.int .i64 t407) (.slice Ao169 t408.length co169)) (fun _ h_ => h_.1)))) k_ hk_.2.1), (Kd.fresh' (Kd.N_lt (pnx (Kd.N_mono (nf2N (Kd.N_mono HO_353001.out (fun k_ hk => (⟨hk, hk.2⟩ : _ ∧ k_ ≠ gb412))) (fun _ hk => hk.2) (.int .i64 t407) (.slice Ao169 t408.length co169)) (fun _ h_ => h_.1)))) k_ hk_.2.1), (Kd.fresh' (Kd.N_lt (pnx (Kd.N_mono (nf2N (Kd.N_mono HO_354001.out (fun k_ hk => (⟨hk, hk.2⟩ : _ ∧ k_ ≠ gb412))) (fun _ hk => hk.2) (.int .i64 t407) (.slice Ao169 t408.length co169)) (fun _ h_ => h_.1)))) k_ hk_.2.1), (Kd.fresh' (Kd.N_lt (pnx (Kd.N_mono (nf2N (Kd.N_mono HO_371001.out (fun k_ hk => (⟨hk, hk.2⟩ : _ ∧ k_ ≠ gb412))) (fun _ hk => hk.2) (.int .i64 t407) (.slice Ao169 t408.length co169)) (fun _ h_ => h_.1)))) k_ hk_.2.1), (Kd.fresh' (Kd.N_lt (pnx (Kd.N_mono (nf2N (Kd.N_mono HO_379001.out (fun k_ hk => (⟨hk, hk.2⟩ : _ ∧ k_ ≠ gb412))) (fun _ hk => hk.2) (.int .i64 t407) (.slice Ao169 t408.length co169)) (fun _ h_ => h_.1)))) k_ hk_.2.1), (Kd.fresh' (Kd.N_lt (pnx (Kd.N_mono (nf2N (Kd.N_mono HO_385001.out (fun k_ hk => (⟨hk, hk.2⟩ : _ ∧ k_ ≠ gb412))) (fun _ hk => hk.2) (.int .i64 t407) (.slice Ao169 t408.length co169)) (fun _ h_ => h_.1)))) k_ hk_.2.1), (Kd.fresh' (Kd.N_lt (pnx (Kd.N_mono (nf2N (Kd.N_mono HO_391001.out (fun k_ hk => (⟨hk, hk.2⟩ : _ ∧ k_ ≠ gb412))) (fun _ hk => hk.2) (.int .i64 t407) (.slice Ao169 t408.length co169)) (fun _ h_ => h_.1)))) k_ hk_.2.1), (Kd.fresh' (Kd.N_lt (pnx (Kd.N_mono (nf2N (Kd.N_mono HO397.out (fun k_ hk => (⟨hk, hk.2⟩ : _ ∧ k_ ≠ gb412))) (fun _ hk => hk.2) (.int .i64 t407) (.slice Ao169 t408.length co169)) (fun _ h_ => h_.1)))) k_ hk_.2.1), (Kd.fresh' (Kd.N_lt (pnx (Kd.N_mono (nf2N (Kd.N_mono HO404.out (fun k_ hk => (⟨hk, hk.2⟩ : _ ∧ k_ ≠ gb412))) (fun _ hk => hk.2) (.int .i64 t407) (.slice Ao169 t408.length co169)) (fun _ h_ => h_.1)))) k_ hk_.2.1), (Kd.fresh' (Kd.N_lt (pnx (Kd.N_mono (nf2N (Kd.N_mono HO410.out (fun k_ hk => (⟨hk, hk.2⟩ : _ ∧ k_ ≠ gb412))) (fun _ hk => hk.2) (.int .i64 t407) (.slice Ao169 t408.length co169)) (fun _ h_ => h_.1)))) k_ hk_.2.1), (fq BK352 k_ hk_.2.1), (fq BK353 k_ hk_.2.1), (fq BK370 k_ hk_.2.1), (fq BK378 k_ hk_.2.1), (fq BK384 k_ hk_.2.1), (fq BK390 k_ hk_.2.1), (fq BK399 k_ hk_.2.1), (fq BK406 k_ hk_.2.1), (Kd.freshB (g := gb412) (o := .cells #[.int .i64 t407, .slice Ao169 t408.length co169] 55 (0, 0)) (by (with_reducible repeat (first | refine blk_drewN ?_ _ | refine blk_drew ?_ | refine blk_alloc ?_ _)); refine blk_put (cs := #[.int .i64 t407, .slice none 0 0]) ?_ 1 _ rfl; (with_reducible repeat (first | refine blk_drewN ?_ _ | refine blk_drew ?_ | refine blk_alloc ?_ _)); refine blk_put (cs := #[.int .i64 0, .slice none 0 0]) ?_ 0 _ rfl; (with_reducible repeat (first | refine blk_drewN ?_ _ | refine blk_drew ?_ | refine blk_alloc ?_ _)); exact BK412.out) k_ hk_.2.1)⟩)) (below_size (pb HB))); have n11_ := bq BK352 hb; have n12_ := bq BK353 hb; have n13_ := bq BK370 hb; have n14_ := bq BK378 hb; have n15_ := bq BK384 hb; have n16_ := bq BK390 hb; have n17_ := bq BK399 hb; have n18_ := bq BK406 hb; have n19_ := am (blk_below (g := gb412) (o := .cells #[.int .i64 t407, .slice Ao169 t408.length co169] 55 (0, 0)) (by (with_reducible repeat (first | refine blk_drewN ?_ _ | refine blk_drew ?_ | refine blk_alloc ?_ _)); refine blk_put (cs := #[.int .i64 t407, .slice none 0 0]) ?_ 1 _ rfl; (with_reducible repeat (first | refine blk_drewN ?_ _ | refine blk_drew ?_ | refine blk_alloc ?_ _)); refine blk_put (cs := #[.int .i64 0, .slice none 0 0]) ?_ 0 _ rfl; (with_reducible repeat (first | refine blk_drewN ?_ _ | refine blk_drew ?_ | refine blk_alloc ?_ _)); exact BK412.out) hb); have n20_ := am (below_step (pb HB) hb); clear HO_3 HO_353001 HO_354001 HO_371001 HO_379001 HO_385001 HO_391001 HO397 HO404 HO410 BK352 BK353 BK370 BK378 BK384 BK390 BK399 BK406 BK412 HB; have HO_3 := n0_; have HO_353001 := n1_; have HO_354001 := n2_; have HO_371001 := n3_; have HO_379001 := n4_; have HO_385001 := n5_; have HO_391001 := n6_; have HO397 := n7_; have HO404 := n8_; have HO410 := n9_; have HO416 := n10_; have BK352 := n11_; have BK353 := n12_; have BK370 := n13_; have BK378 := n14_; have BK384 := n15_; have BK390 := n16_; have BK399 := n17_; have BK406 := n18_; have BK412 := n19_; have HB := n20_; clear n0_ n1_ n2_ n3_ n4_ n5_ n6_ n7_ n8_ n9_ n10_ n11_ n12_ n13_ n14_ n15_ n16_ n17_ n18_ n19_ n20_; (try clear hb); (try clear hb2); (try clear hk); (try clear hi); (try clear ho0)) | ((with_reducible refine gate_dst (N := 23) rfl ?_); (try (refine gate_guard (by rfl) ?_; dsimp only)); refine box_event ?hg (N := 23) ?hd (cs := #[.int .i64 0, .slice none 0 0]) (t := 55) ?hr ?_; (case hd => rfl); (case hg => rfl); (case hr => first | (go_simp; done) | (go_simp; rfl)); intro gb418 hg w176 hbox hb; have n0_ := am (Kd.R_below (pr HO_3) hb); have n1_ := am (Kd.N_below (Kd.N_elderB (pn HO_353001) gb418 (Nat.le_of_eq hg.symm)) hb); have n2_ := am (Kd.N_below (Kd.N_elderB (pn HO_354001) gb418 (Nat.le_of_eq hg.symm)) hb); have n3_ := am (Kd.N_below (Kd.N_elderB (pn HO_371001) gb418 (Nat.le_of_eq hg.symm)) hb); have n4_ := am (Kd.N_below (Kd.N_elderB (pn HO_379001) gb418 (Nat.le_of_eq hg.symm)) hb); have n5_ := am (Kd.N_below (Kd.N_elderB (pn HO_385001) gb418 (Nat.le_of_eq hg.symm)) hb); have n6_ := am (Kd.N_below (Kd.N_elderB (pn HO_391001) gb418 (Nat.le_of_eq hg.symm)) hb); have n7_ := am (Kd.N_below (Kd.N_elderB (pn HO397) gb418 (Nat.le_of_eq hg.symm)) hb); have n8_ := am (Kd.N_below (Kd.N_elderB (pn HO404) gb418 (Nat.le_of_eq hg.symm)) hb); have n9_ := am (Kd.N_below (Kd.N_elderB (pn HO410) gb418 (Nat.le_of_eq hg.symm)) hb); have n10_ := am (Kd.N_below (Kd.N_elderB (pn HO416) gb418 (Nat.le_of_eq hg.symm)) hb); have n11_ := bb BK352 hb; have n12_ := bb BK353 hb; have n13_ := bb BK370 hb; have n14_ := bb BK378 hb; have n15_ := bb BK384 hb; have n16_ := bb BK390 hb; have n17_ := bb BK399 hb; have n18_ := bb BK406 hb; have n19_ := bb BK412 hb; have n20_ := am (below_step (pb HB) hb); have n21_ := am (hbox); have n22_ := am ((by rw [hg]; exact (below_size (pb HB)) : w.heap.size ≤ gb418)); have n23_ := am ((by rw [hg]; exact (below_size (pb HB)) : w.heap.size ≤ gb418)); have n24_ := am ((by rw [hg]; exact Nat.ne_of_lt (bl BK352) : gb352 ≠ gb418)); have n25_ := am ((by rw [hg]; exact Nat.ne_of_gt (bl BK352) : gb418 ≠ gb352)); have n26_ := am ((by rw [hg]; exact Nat.ne_of_lt (bl BK353) : gb353 ≠ gb418)); have n27_ := am ((by rw [hg]; exact Nat.ne_of_gt (bl BK353) : gb418 ≠ gb353)); have n28_ := am ((by rw [hg]; exact Nat.ne_of_lt (bl BK370) : gb370 ≠ gb418)); have n29_ := am ((by rw [hg]; exact Nat.ne_of_gt (bl BK370) : gb418 ≠ gb370)); have n30_ := am ((by rw [hg]; exact Nat.ne_of_lt (bl BK378) : gb378 ≠ gb418)); have n31_ := am ((by rw [hg]; exact Nat.ne_of_gt (bl BK378) : gb418 ≠ gb378)); have n32_ := am ((by rw [hg]; exact Nat.ne_of_lt (bl BK384) : gb384 ≠ gb418)); have n33_ := am ((by rw [hg]; exact Nat.ne_of_gt (bl BK384) : gb418 ≠ gb384)); have n34_ := am ((by rw [hg]; exact Nat.ne_of_lt (bl BK390) : gb390 ≠ gb418)); have n35_ := am ((by rw [hg]; exact Nat.ne_of_gt (bl BK390) : gb418 ≠ gb390)); have n36_ := am ((by rw [hg]; exact Nat.ne_of_lt (bl BK399) : gb399 ≠ gb418)); have n37_ := am ((by rw [hg]; exact Nat.ne_of_gt (bl BK399) : gb418 ≠ gb399)); have n38_ := am ((by rw [hg]; exact Nat.ne_of_lt (bl BK406) : gb406 ≠ gb418)); have n39_ := am ((by rw [hg]; exact Nat.ne_of_gt (bl BK406) : gb418 ≠ gb406)); have n40_ := am ((by rw [hg]; exact Nat.ne_of_lt (bl BK412) : gb412 ≠ gb418)); have n41_ := am ((by rw [hg]; exact Nat.ne_of_gt (bl BK412) : gb418 ≠ gb412)); clear HO_3 HO_353001 HO_354001 HO_371001 HO_379001 HO_385001 HO_391001 HO397 HO404 HO410 HO416 BK352 BK353 BK370 BK378 BK384 BK390 BK399 BK406 BK412 HB; have HO_3 := n0_; have HO_353001 := n1_; have HO_354001 := n2_; have HO_371001 := n3_; have HO_379001 := n4_; have HO_385001 := n5_; have HO_391001 := n6_; have HO397 := n7_; have HO404 := n8_; have HO410 := n9_; have HO416 := n10_; have BK352 := n11_; have BK353 := n12_; have BK370 := n13_; have BK378 := n14_; have BK384 := n15_; have BK390 := n16_; have BK399 := n17_; have BK406 := n18_; have BK412 := n19_; have HB := n20_; have BK418 := n21_; have GW418 := n22_; have GE418 := n23_; have NB352_418 := n24_; have NB418_352 := n25_; have NB353_418 := n26_; have NB418_353 := n27_; have NB370_418 := n28_; have NB418_370 := n29_; have NB378_418 := n30_; have NB418_378 := n31_; have NB384_418 := n32_; have NB418_384 := n33_; have NB390_418 := n34_; have NB418_390 := n35_; have NB399_418 := n36_; have NB418_399 := n37_; have NB406_418 := n38_; have NB418_406 := n39_; have NB412_418 := n40_; have NB418_412 := n41_; clear n0_ n1_ n2_ n3_ n4_ n5_ n6_ n7_ n8_ n9_ n10_ n11_ n12_ n13_ n14_ n15_ n16_ n17_ n18_ n19_ n20_ n21_ n22_ n23_ n24_ n25_ n26_ n27_ n28_ n29_ n30_ n31_ n32_ n33_ n34_ n35_ n36_ n37_ n38_ n39_ n40_ n41_ hb hbox hg; have hnb177 := NB418_352.out; have hnc177 := NB352_418.out; have hnb178 := NB418_353.out; have hnc178 := NB353_418.out; have hnb179 := NB418_370.out; have hnc179 := NB370_418.out; have hnb180 := NB418_378.out; have hnc180 := NB378_418.out; have hnb181 := NB418_384.out; have hnc181 := NB384_418.out; have hnb182 := NB418_390.out; have hnc182 := NB390_418.out; have hnb183 := NB418_399.out; have hnc183 := NB399_418.out; have hnb184 := NB418_406.out; have hnc184 := NB406_418.out; have hnb185 := NB418_412.out; have hnc185 := NB412_418.out; have hcz186_0 : w176.cell? ⟨gb418, 0, none⟩ = some (.int .i64 0) := (blk_cell BK418.out 0).trans rfl; have hcz186_1 : w176.cell? ⟨gb418, 1, none⟩ = some (.slice none 0 0) := (blk_cell BK418.out 1).trans rfl; have hfz186_0 := blk_frozen BK418.out 0; have hfz186_1 := blk_frozen BK418.out 1; obtain ⟨Ao187, co187, eo187⟩ := Kd.N_slice HO416.out; subst eo187))
      (try simp only [Act.put, q1, q2, q3])
      go_cut [135] (fun v135 wc => ∃ (kq : Nat) (x135_122 : Bool), v135 = .bool x135_122 ∧ Aside0 (downpourlaw03_MatrixRound.j1 kq a2 t362 x135_122 t354 t355 t358 t359 t394 t395 = some r) ∧ Aside0 (kq ≤ kj12) ∧ Aside0 (Kd.R Kd.string 9 wc w.heap.size (fun _ => True) v363 t362) ∧ Aside0 (Kd.N k25 25 wc w.heap.size (fun k_ => some k_ ≠ (v363 : Value).ownBlock ∧ some k_ ≠ ((.slice Ao24 t359.length co24) : Value).ownBlock ∧ some k_ ≠ ((.slice Ao33 t366.length co33) : Value).ownBlock ∧ some k_ ≠ ((.slice Ao40 t374.length co40) : Value).ownBlock ∧ some k_ ≠ ((.slice Ao49 t380.length co49) : Value).ownBlock ∧ some k_ ≠ ((.slice Ao59 t386.length co59) : Value).ownBlock ∧ some k_ ≠ ((.slice Ao144 t395.length co144) : Value).ownBlock ∧ some k_ ≠ ((.slice Ao156 t402.length co156) : Value).ownBlock ∧ some k_ ≠ ((.slice Ao169 t408.length co169) : Value).ownBlock ∧ some k_ ≠ ((.slice Ao187 t414.length co187) : Value).ownBlock ∧ k_ ≠ gb352 ∧ k_ ≠ gb353 ∧ k_ ≠ gb370 ∧ k_ ≠ gb378 ∧ k_ ≠ gb384 ∧ k_ ≠ gb390 ∧ k_ ≠ gb399 ∧ k_ ≠ gb406 ∧ k_ ≠ gb412 ∧ k_ ≠ gb418) (.slice Ao21 t355.length co21) t355) ∧ Aside0 (Kd.N k25 25 wc w.heap.size (fun k_ => some k_ ≠ (v363 : Value).ownBlock ∧ some k_ ≠ ((.slice Ao21 t355.length co21) : Value).ownBlock ∧ some k_ ≠ ((.slice Ao33 t366.length co33) : Value).ownBlock ∧ some k_ ≠ ((.slice Ao40 t374.length co40) : Value).ownBlock ∧ some k_ ≠ ((.slice Ao49 t380.length co49) : Value).ownBlock ∧ some k_ ≠ ((.slice Ao59 t386.length co59) : Value).ownBlock ∧ some k_ ≠ ((.slice Ao144 t395.length co144) : Value).ownBlock ∧ some k_ ≠ ((.slice Ao156 t402.length co156) : Value).ownBlock ∧ some k_ ≠ ((.slice Ao169 t408.length co169) : Value).ownBlock ∧ some k_ ≠ ((.slice Ao187 t414.length co187) : Value).ownBlock ∧ k_ ≠ gb352 ∧ k_ ≠ gb353 ∧ k_ ≠ gb370 ∧ k_ ≠ gb378 ∧ k_ ≠ gb384 ∧ k_ ≠ gb390 ∧ k_ ≠ gb399 ∧ k_ ≠ gb406 ∧ k_ ≠ gb412 ∧ k_ ≠ gb418) (.slice Ao24 t359.length co24) t359) ∧ Aside0 (Kd.N k25 25 wc w.heap.size (fun k_ => some k_ ≠ (v363 : Value).ownBlock ∧ some k_ ≠ ((.slice Ao21 t355.length co21) : Value).ownBlock ∧ some k_ ≠ ((.slice Ao24 t359.length co24) : Value).ownBlock ∧ some k_ ≠ ((.slice Ao40 t374.length co40) : Value).ownBlock ∧ some k_ ≠ ((.slice Ao49 t380.length co49) : Value).ownBlock ∧ some k_ ≠ ((.slice Ao59 t386.length co59) : Value).ownBlock ∧ some k_ ≠ ((.slice Ao144 t395.length co144) : Value).ownBlock ∧ some k_ ≠ ((.slice Ao156 t402.length co156) : Value).ownBlock ∧ some k_ ≠ ((.slice Ao169 t408.length co169) : Value).ownBlock ∧ some k_ ≠ ((.slice Ao187 t414.length co187) : Value).ownBlock ∧ k_ ≠ gb352 ∧ k_ ≠ gb353 ∧ k_ ≠ gb370 ∧ k_ ≠ gb378 ∧ k_ ≠ gb384 ∧ k_ ≠ gb390 ∧ k_ ≠ gb399 ∧ k_ ≠ gb406 ∧ k_ ≠ gb412 ∧ k_ ≠ gb418) (.slice Ao33 t366.length co33) t366) ∧ Aside0 (Kd.N k25 25 wc w.heap.size (fun k_ => some k_ ≠ (v363 : Value).ownBlock ∧ some k_ ≠ ((.slice Ao21 t355.length co21) : Value).ownBlock ∧ some k_ ≠ ((.slice Ao24 t359.length co24) : Value).ownBlock ∧ some k_ ≠ ((.slice Ao33 t366.length co33) : Value).ownBlock ∧ some k_ ≠ ((.slice Ao49 t380.length co49) : Value).ownBlock ∧ some k_ ≠ ((.slice Ao59 t386.length co59) : Value).ownBlock ∧ some k_ ≠ ((.slice Ao144 t395.length co144) : Value).ownBlock ∧ some k_ ≠ ((.slice Ao156 t402.length co156) : Value).ownBlock ∧ some k_ ≠ ((.slice Ao169 t408.length co169) : Value).ownBlock ∧ some k_ ≠ ((.slice Ao187 t414.length co187) : Value).ownBlock ∧ k_ ≠ gb352 ∧ k_ ≠ gb353 ∧ k_ ≠ gb370 ∧ k_ ≠ gb378 ∧ k_ ≠ gb384 ∧ k_ ≠ gb390 ∧ k_ ≠ gb399 ∧ k_ ≠ gb406 ∧ k_ ≠ gb412 ∧ k_ ≠ gb418) (.slice Ao40 t374.length co40) t374) ∧ Aside0 (Kd.N k25 25 wc w.heap.size (fun k_ => some k_ ≠ (v363 : Value).ownBlock ∧ some k_ ≠ ((.slice Ao21 t355.length co21) : Value).ownBlock ∧ some k_ ≠ ((.slice Ao24 t359.length co24) : Value).ownBlock ∧ some k_ ≠ ((.slice Ao33 t366.length co33) : Value).ownBlock ∧ some k_ ≠ ((.slice Ao40 t374.length co40) : Value).ownBlock ∧ some k_ ≠ ((.slice Ao59 t386.length co59) : Value).ownBlock ∧ some k_ ≠ ((.slice Ao144 t395.length co144) : Value).ownBlock ∧ some k_ ≠ ((.slice Ao156 t402.length co156) : Value).ownBlock ∧ some k_ ≠ ((.slice Ao169 t408.length co169) : Value).ownBlock ∧ some k_ ≠ ((.slice Ao187 t414.length co187) : Value).ownBlock ∧ k_ ≠ gb352 ∧ k_ ≠ gb353 ∧ k_ ≠ gb370 ∧ k_ ≠ gb378 ∧ k_ ≠ gb384 ∧ k_ ≠ gb390 ∧ k_ ≠ gb399 ∧ k_ ≠ gb406 ∧ k_ ≠ gb412 ∧ k_ ≠ gb418) (.slice Ao49 t380.length co49) t380) ∧ Aside0 (Kd.N k25 25 wc w.heap.size (fun k_ => some k_ ≠ (v363 : Value).ownBlock ∧ some k_ ≠ ((.slice Ao21 t355.length co21) : Value).ownBlock ∧ some k_ ≠ ((.slice Ao24 t359.length co24) : Value).ownBlock ∧ some k_ ≠ ((.slice Ao33 t366.length co33) : Value).ownBlock ∧ some k_ ≠ ((.slice Ao40 t374.length co40) : Value).ownBlock ∧ some k_ ≠ ((.slice Ao49 t380.length co49) : Value).ownBlock ∧ some k_ ≠ ((.slice Ao144 t395.length co144) : Value).ownBlock ∧ some k_ ≠ ((.slice Ao156 t402.length co156) : Value).ownBlock ∧ some k_ ≠ ((.slice Ao169 t408.length co169) : Value).ownBlock ∧ some k_ ≠ ((.slice Ao187 t414.length co187) : Value).ownBlock ∧ k_ ≠ gb352 ∧ k_ ≠ gb353 ∧ k_ ≠ gb370 ∧ k_ ≠ gb378 ∧ k_ ≠ gb384 ∧ k_ ≠ gb390 ∧ k_ ≠ gb399 ∧ k_ ≠ gb406 ∧ k_ ≠ gb412 ∧ k_ ≠ gb418) (.slice Ao59 t386.length co59) t386) ∧ Aside0 (Kd.N k25 25 wc w.heap.size (fun k_ => some k_ ≠ (v363 : Value).ownBlock ∧ some k_ ≠ ((.slice Ao21 t355.length co21) : Value).ownBlock ∧ some k_ ≠ ((.slice Ao24 t359.length co24) : Value).ownBlock ∧ some k_ ≠ ((.slice Ao33 t366.length co33) : Value).ownBlock ∧ some k_ ≠ ((.slice Ao40 t374.length co40) : Value).ownBlock ∧ some k_ ≠ ((.slice Ao49 t380.length co49) : Value).ownBlock ∧ some k_ ≠ ((.slice Ao59 t386.length co59) : Value).ownBlock ∧ some k_ ≠ ((.slice Ao156 t402.length co156) : Value).ownBlock ∧ some k_ ≠ ((.slice Ao169 t408.length co169) : Value).ownBlock ∧ some k_ ≠ ((.slice Ao187 t414.length co187) : Value).ownBlock ∧ k_ ≠ gb352 ∧ k_ ≠ gb353 ∧ k_ ≠ gb370 ∧ k_ ≠ gb378 ∧ k_ ≠ gb384 ∧ k_ ≠ gb390 ∧ k_ ≠ gb399 ∧ k_ ≠ gb406 ∧ k_ ≠ gb412 ∧ k_ ≠ gb418) (.slice Ao144 t395.length co144) t395) ∧ Aside0 (Kd.N k25 25 wc w.heap.size (fun k_ => some k_ ≠ (v363 : Value).ownBlock ∧ some k_ ≠ ((.slice Ao21 t355.length co21) : Value).ownBlock ∧ some k_ ≠ ((.slice Ao24 t359.length co24) : Value).ownBlock ∧ some k_ ≠ ((.slice Ao33 t366.length co33) : Value).ownBlock ∧ some k_ ≠ ((.slice Ao40 t374.length co40) : Value).ownBlock ∧ some k_ ≠ ((.slice Ao49 t380.length co49) : Value).ownBlock ∧ some k_ ≠ ((.slice Ao59 t386.length co59) : Value).ownBlock ∧ some k_ ≠ ((.slice Ao144 t395.length co144) : Value).ownBlock ∧ some k_ ≠ ((.slice Ao169 t408.length co169) : Value).ownBlock ∧ some k_ ≠ ((.slice Ao187 t414.length co187) : Value).ownBlock ∧ k_ ≠ gb352 ∧ k_ ≠ gb353 ∧ k_ ≠ gb370 ∧ k_ ≠ gb378 ∧ k_ ≠ gb384 ∧ k_ ≠ gb390 ∧ k_ ≠ gb399 ∧ k_ ≠ gb406 ∧ k_ ≠ gb412 ∧ k_ ≠ gb418) (.slice Ao156 t402.length co156) t402) ∧ Aside0 (Kd.N k25 25 wc w.heap.size (fun k_ => some k_ ≠ (v363 : Value).ownBlock ∧ some k_ ≠ ((.slice Ao21 t355.length co21) : Value).ownBlock ∧ some k_ ≠ ((.slice Ao24 t359.length co24) : Value).ownBlock ∧ some k_ ≠ ((.slice Ao33 t366.length co33) : Value).ownBlock ∧ some k_ ≠ ((.slice Ao40 t374.length co40) : Value).ownBlock ∧ some k_ ≠ ((.slice Ao49 t380.length co49) : Value).ownBlock ∧ some k_ ≠ ((.slice Ao59 t386.length co59) : Value).ownBlock ∧ some k_ ≠ ((.slice Ao144 t395.length co144) : Value).ownBlock ∧ some k_ ≠ ((.slice Ao156 t402.length co156) : Value).ownBlock ∧ some k_ ≠ ((.slice Ao187 t414.length co187) : Value).ownBlock ∧ k_ ≠ gb352 ∧ k_ ≠ gb353 ∧ k_ ≠ gb370 ∧ k_ ≠ gb378 ∧ k_ ≠ gb384 ∧ k_ ≠ gb390 ∧ k_ ≠ gb399 ∧ k_ ≠ gb406 ∧ k_ ≠ gb412 ∧ k_ ≠ gb418) (.slice Ao169 t408.length co169) t408) ∧ Aside0 (Kd.N k25 25 wc w.heap.size (fun k_ => some k_ ≠ (v363 : Value).ownBlock ∧ some k_ ≠ ((.slice Ao21 t355.length co21) : Value).ownBlock ∧ some k_ ≠ ((.slice Ao24 t359.length co24) : Value).ownBlock ∧ some k_ ≠ ((.slice Ao33 t366.length co33) : Value).ownBlock ∧ some k_ ≠ ((.slice Ao40 t374.length co40) : Value).ownBlock ∧ some k_ ≠ ((.slice Ao49 t380.length co49) : Value).ownBlock ∧ some k_ ≠ ((.slice Ao59 t386.length co59) : Value).ownBlock ∧ some k_ ≠ ((.slice Ao144 t395.length co144) : Value).ownBlock ∧ some k_ ≠ ((.slice Ao156 t402.length co156) : Value).ownBlock ∧ some k_ ≠ ((.slice Ao169 t408.length co169) : Value).ownBlock ∧ k_ ≠ gb352 ∧ k_ ≠ gb353 ∧ k_ ≠ gb370 ∧ k_ ≠ gb378 ∧ k_ ≠ gb384 ∧ k_ ≠ gb390 ∧ k_ ≠ gb399 ∧ k_ ≠ gb406 ∧ k_ ≠ gb412 ∧ k_ ≠ gb418) (.slice Ao187 t414.length co187) t414) ∧ Aside0 (wc.heap[gb352]? = some (.cells #[.int .i64 t354, (.slice Ao21 t355.length co21)] 55 (0, 0))) ∧ Aside0 (wc.heap[gb353]? = some (.cells #[.int .i64 t358, (.slice Ao24 t359.length co24)] 55 (0, 0))) ∧ Aside0 (wc.heap[gb370]? = some (.cells #[.int .i64 t365, (.slice Ao33 t366.length co33)] 55 (0, 0))) ∧ Aside0 (wc.heap[gb378]? = some (.cells #[.int .i64 t373, (.slice Ao40 t374.length co40)] 55 (0, 0))) ∧ Aside0 (wc.heap[gb384]? = some (.cells #[.int .i64 t379, (.slice Ao49 t380.length co49)] 55 (0, 0))) ∧ Aside0 (wc.heap[gb390]? = some (.cells #[.int .i64 t385, (.slice Ao59 t386.length co59)] 55 (0, 0))) ∧ Aside0 (wc.heap[gb399]? = some (.cells #[.int .i64 t394, (.slice Ao144 t395.length co144)] 55 (0, 0))) ∧ Aside0 (wc.heap[gb406]? = some (.cells #[.int .i64 t401, (.slice Ao156 t402.length co156)] 55 (0, 0))) ∧ Aside0 (wc.heap[gb412]? = some (.cells #[.int .i64 t407, (.slice Ao169 t408.length co169)] 55 (0, 0))) ∧ Aside0 (wc.heap[gb418]? = some (.cells #[.int .i64 t413, (.slice Ao187 t414.length co187)] 55 (0, 0))) ∧ Aside0 (Below w.heap.size w wc))
      case first =>
       have H := HC123.out
       clear HC123
       by_cases c188 : t405 = 0
       ·
        rw [if_pos c188] at H
        have c188b0 : (t405 == 0) = true := beq_iff_eq.mpr c188
        have c188b1 : (t405 != 0) = false := bne_eq_false_iff_eq.mpr c188
        clear c188
        (first | rw [c188b0] | (simp only [i64_w, i32_w]; rw [c188b0]) | skip)
        by_cases c189 : t411 = 0
        ·
         rw [if_pos c189] at H
         have c189b0 : (t411 == 0) = true := beq_iff_eq.mpr c189
         have c189b1 : (t411 != 0) = false := bne_eq_false_iff_eq.mpr c189
         clear c189
         by_cases c190 : t417 = 0
         ·
          rw [if_pos c190] at H
          have c190b0 : (t417 == 0) = true := beq_iff_eq.mpr c190
          have c190b1 : (t417 != 0) = false := bne_eq_false_iff_eq.mpr c190
          clear c190
          replace H := Option.bind_eq_some_iff.mp H
          obtain ⟨t419, A1910, H⟩ := H
          replace H : (downpourlaw03_MatrixRound.j1 kj12 a2 t362 (!t419) t354 t355 t358 t359 t394 t395) = some r := H
          have A191 := Aside0.mk A1910
          clear A1910
          have H' := Aside0.mk H
          clear H
          have hnb192 := NB412_352.out
          have hnc192 := NB352_412.out
          have hnb193 := NB412_353.out
          have hnc193 := NB353_412.out
          have hnb194 := NB412_370.out
          have hnc194 := NB370_412.out
          have hnb195 := NB412_378.out
          have hnc195 := NB378_412.out
          have hnb196 := NB412_384.out
          have hnc196 := NB384_412.out
          have hnb197 := NB412_390.out
          have hnc197 := NB390_412.out
          have hnb198 := NB412_399.out
          have hnc198 := NB399_412.out
          have hnb199 := NB412_406.out
          have hnc199 := NB406_412.out
          have hnb200 := NB412_418.out
          have hnc200 := NB418_412.out
          have hcz201_0 : w176.cell? ⟨gb412, 0, none⟩ = some (.int .i64 t407) := (blk_cell BK412.out 0).trans rfl
          have hcz201_1 : w176.cell? ⟨gb412, 1, none⟩ = some (.slice Ao169 t408.length co169) := (blk_cell BK412.out 1).trans rfl
          have hfz201_0 := blk_frozen BK412.out 0
          have hfz201_1 := blk_frozen BK412.out 1
          have hnb202 := NB418_352.out
          have hnc202 := NB352_418.out
          have hnb203 := NB418_353.out
          have hnc203 := NB353_418.out
          have hnb204 := NB418_370.out
          have hnc204 := NB370_418.out
          have hnb205 := NB418_378.out
          have hnc205 := NB378_418.out
          have hnb206 := NB418_384.out
          have hnc206 := NB384_418.out
          have hnb207 := NB418_390.out
          have hnc207 := NB390_418.out
          have hnb208 := NB418_399.out
          have hnc208 := NB399_418.out
          have hnb209 := NB418_406.out
          have hnc209 := NB406_418.out
          have hcz210_0 : w176.cell? ⟨gb418, 0, none⟩ = some (.int .i64 0) := (blk_cell BK418.out 0).trans rfl
          have hcz210_1 : w176.cell? ⟨gb418, 1, none⟩ = some (.slice none 0 0) := (blk_cell BK418.out 1).trans rfl
          have hfz210_0 := blk_frozen BK418.out 0
          have hfz210_1 := blk_frozen BK418.out 1
          go_wp2_with (first | (go_at_call 40; (with_reducible refine (downpourref03_Same.calls kj12 t407 _ _ t408 t413 _ _ t414 t419 _ ?side1 ?side2 ?side3 ?side4 A191.out).mono ?_); (case side1 => refine (Kd.N_reads' (e := 25) (base := w.heap.size) (ok := fun k_ => ((((some k_ ≠ (v363 : Value).ownBlock ∧ (some k_ ≠ (.slice Ao21 t355.length co21 : Value).ownBlock ∧ (some k_ ≠ (.slice Ao24 t359.length co24 : Value).ownBlock ∧ (some k_ ≠ (.slice Ao33 t366.length co33 : Value).ownBlock ∧ (some k_ ≠ (.slice Ao40 t374.length co40 : Value).ownBlock ∧ (some k_ ≠ (.slice Ao49 t380.length co49 : Value).ownBlock ∧ (some k_ ≠ (.slice Ao59 t386.length co59 : Value).ownBlock ∧ (some k_ ≠ (.slice Ao144 t395.length co144 : Value).ownBlock ∧ (some k_ ≠ (.slice Ao156 t402.length co156 : Value).ownBlock ∧ (k_ ≠ gb352 ∧ (k_ ≠ gb353 ∧ (k_ ≠ gb370 ∧ (k_ ≠ gb378 ∧ (k_ ≠ gb384 ∧ (k_ ≠ gb390 ∧ (k_ ≠ gb399 ∧ k_ ≠ gb406)))))))))))))))) ∧ k_ ≠ gb412) ∧ some k_ ≠ (.slice Ao187 t414.length co187 : Value).ownBlock) ∧ k_ ≠ gb418)) (n := t408.length) (c := co169) ?_).2.2; exact (pnx (Kd.N_mono (nf2N (Kd.N_mono HO410.out (fun k_ hk => (⟨hk, hk.2⟩ : _ ∧ k_ ≠ gb418))) (fun _ hk => hk.2) (.int .i64 t413) (.slice Ao187 t414.length co187)) (fun _ h_ => h_.1)))); (case side2 => exact (Kd.N_reads' HO410.out).2.1); (case side3 => refine (Kd.N_reads' (e := 25) (base := w.heap.size) (ok := fun k_ => ((some k_ ≠ (v363 : Value).ownBlock ∧ (some k_ ≠ (.slice Ao21 t355.length co21 : Value).ownBlock ∧ (some k_ ≠ (.slice Ao24 t359.length co24 : Value).ownBlock ∧ (some k_ ≠ (.slice Ao33 t366.length co33 : Value).ownBlock ∧ (some k_ ≠ (.slice Ao40 t374.length co40 : Value).ownBlock ∧ (some k_ ≠ (.slice Ao49 t380.length co49 : Value).ownBlock ∧ (some k_ ≠ (.slice Ao59 t386.length co59 : Value).ownBlock ∧ (some k_ ≠ (.slice Ao144 t395.length co144 : Value).ownBlock ∧ (some k_ ≠ (.slice Ao156 t402.length co156 : Value).ownBlock ∧ (some k_ ≠ (.slice Ao169 t408.length co169 : Value).ownBlock ∧ (k_ ≠ gb352 ∧ (k_ ≠ gb353 ∧ (k_ ≠ gb370 ∧ (k_ ≠ gb378 ∧ (k_ ≠ gb384 ∧ (k_ ≠ gb390 ∧ (k_ ≠ gb399 ∧ (k_ ≠ gb406 ∧ k_ ≠ gb412)))))))))))))))))) ∧ k_ ≠ gb418)) (n := t414.length) (c := co187) ?_).2.2; exact (pnx (Kd.N_mono (nf2N (Kd.N_mono HO416.out (fun k_ hk => (⟨hk, hk.2⟩ : _ ∧ k_ ≠ gb418))) (fun _ hk => hk.2) (.int .i64 t413) (.slice Ao187 t414.length co187)) (fun _ h_ => h_.1)))); (case side4 => exact (Kd.N_reads' HO416.out).2.1); rintro e w211 ⟨rfl, hb⟩; have n0_ := am (Kd.R_below (by (with_reducible repeat (first | apply Kd.R_alloc | apply Kd.R_drewN | apply Kd.R_drew)); exact (Kd.R_mono (nf2R (Kd.R_types HO_3.out BK418.out (by decide)) (fun _ hk => hk.2) (.int .i64 t413) (.slice Ao187 t414.length co187)) (fun _ h_ => h_.1))) hb); have n1_ := am (Kd.N_below (pnx (Kd.N_mono (nf2N (Kd.N_mono HO_353001.out (fun k_ hk => (⟨hk, hk.2⟩ : _ ∧ k_ ≠ gb418))) (fun _ hk => hk.2) (.int .i64 t413) (.slice Ao187 t414.length co187)) (fun _ h_ => h_.1))) hb); have n2_ := am (Kd.N_below (pnx (Kd.N_mono (nf2N (Kd.N_mono HO_354001.out (fun k_ hk => (⟨hk, hk.2⟩ : _ ∧ k_ ≠ gb418))) (fun _ hk => hk.2) (.int .i64 t413) (.slice Ao187 t414.length co187)) (fun _ h_ => h_.1))) hb); have n3_ := am (Kd.N_below (pnx (Kd.N_mono (nf2N (Kd.N_mono HO_371001.out (fun k_ hk => (⟨hk, hk.2⟩ : _ ∧ k_ ≠ gb418))) (fun _ hk => hk.2) (.int .i64 t413) (.slice Ao187 t414.length co187)) (fun _ h_ => h_.1))) hb); have n4_ := am (Kd.N_below (pnx (Kd.N_mono (nf2N (Kd.N_mono HO_379001.out (fun k_ hk => (⟨hk, hk.2⟩ : _ ∧ k_ ≠ gb418))) (fun _ hk => hk.2) (.int .i64 t413) (.slice Ao187 t414.length co187)) (fun _ h_ => h_.1))) hb); have n5_ := am (Kd.N_below (pnx (Kd.N_mono (nf2N (Kd.N_mono HO_385001.out (fun k_ hk => (⟨hk, hk.2⟩ : _ ∧ k_ ≠ gb418))) (fun _ hk => hk.2) (.int .i64 t413) (.slice Ao187 t414.length co187)) (fun _ h_ => h_.1))) hb); have n6_ := am (Kd.N_below (pnx (Kd.N_mono (nf2N (Kd.N_mono HO_391001.out (fun k_ hk => (⟨hk, hk.2⟩ : _ ∧ k_ ≠ gb418))) (fun _ hk => hk.2) (.int .i64 t413) (.slice Ao187 t414.length co187)) (fun _ h_ => h_.1))) hb); have n7_ := am (Kd.N_below (pnx (Kd.N_mono (nf2N (Kd.N_mono HO397.out (fun k_ hk => (⟨hk, hk.2⟩ : _ ∧ k_ ≠ gb418))) (fun _ hk => hk.2) (.int .i64 t413) (.slice Ao187 t414.length co187)) (fun _ h_ => h_.1))) hb); have n8_ := am (Kd.N_below (pnx (Kd.N_mono (nf2N (Kd.N_mono HO404.out (fun k_ hk => (⟨hk, hk.2⟩ : _ ∧ k_ ≠ gb418))) (fun _ hk => hk.2) (.int .i64 t413) (.slice Ao187 t414.length co187)) (fun _ h_ => h_.1))) hb); have n9_ := am (Kd.N_below (pnx (Kd.N_mono (nf2N (Kd.N_mono HO410.out (fun k_ hk => (⟨hk, hk.2⟩ : _ ∧ k_ ≠ gb418))) (fun _ hk => hk.2) (.int .i64 t413) (.slice Ao187 t414.length co187)) (fun _ h_ => h_.1))) hb); have n10_ := am (Kd.N_below (pnx (Kd.N_mono (nf2N (Kd.N_mono HO416.out (fun k_ hk => (⟨hk, hk.2⟩ : _ ∧ k_ ≠ gb418))) (fun _ hk => hk.2) (.int .i64 t413) (.slice Ao187 t414.length co187)) (fun _ h_ => h_.1))) hb); have n11_ := bq BK352 hb; have n12_ := bq BK353 hb; have n13_ := bq BK370 hb; have n14_ := bq BK378 hb; have n15_ := bq BK384 hb; have n16_ := bq BK390 hb; have n17_ := bq BK399 hb; have n18_ := bq BK406 hb; have n19_ := bq BK412 hb; have n20_ := am (blk_below (g := gb418) (o := .cells #[.int .i64 t413, .slice Ao187 t414.length co187] 55 (0, 0)) (by (with_reducible repeat (first | refine blk_drewN ?_ _ | refine blk_drew ?_ | refine blk_alloc ?_ _)); refine blk_put (cs := #[.int .i64 t413, .slice none 0 0]) ?_ 1 _ rfl; (with_reducible repeat (first | refine blk_drewN ?_ _ | refine blk_drew ?_ | refine blk_alloc ?_ _)); refine blk_put (cs := #[.int .i64 0, .slice none 0 0]) ?_ 0 _ rfl; (with_reducible repeat (first | refine blk_drewN ?_ _ | refine blk_drew ?_ | refine blk_alloc ?_ _)); exact BK418.out) hb); have n21_ := am (below_step (pb HB) hb); clear HO_3 HO_353001 HO_354001 HO_371001 HO_379001 HO_385001 HO_391001 HO397 HO404 HO410 HO416 BK352 BK353 BK370 BK378 BK384 BK390 BK399 BK406 BK412 BK418 HB; have HO_3 := n0_; have HO_353001 := n1_; have HO_354001 := n2_; have HO_371001 := n3_; have HO_379001 := n4_; have HO_385001 := n5_; have HO_391001 := n6_; have HO397 := n7_; have HO404 := n8_; have HO410 := n9_; have HO416 := n10_; have BK352 := n11_; have BK353 := n12_; have BK370 := n13_; have BK378 := n14_; have BK384 := n15_; have BK390 := n16_; have BK399 := n17_; have BK406 := n18_; have BK412 := n19_; have BK418 := n20_; have HB := n21_; clear n0_ n1_ n2_ n3_ n4_ n5_ n6_ n7_ n8_ n9_ n10_ n11_ n12_ n13_ n14_ n15_ n16_ n17_ n18_ n19_ n20_ n21_; (try clear hb); (try clear hb2); (try clear hk); (try clear hi)))
          go_meet
          case rel => exact ⟨_, (!t419), (by first | rfl | (simp; done) | (simp [*]; done)), H', ⟨by have := HJ12.out; first | omega | exact Nat.le_refl _⟩, ⟨by (with_reducible repeat (first | apply Kd.R_alloc | apply Kd.R_drewN | apply Kd.R_drew)); exact HO_3.out⟩, ⟨by (with_reducible repeat (first | apply Kd.N_alloc | apply Kd.N_drewN | apply Kd.N_drew)); exact nm HO_353001.out⟩, ⟨by (with_reducible repeat (first | apply Kd.N_alloc | apply Kd.N_drewN | apply Kd.N_drew)); exact nm HO_354001.out⟩, ⟨by (with_reducible repeat (first | apply Kd.N_alloc | apply Kd.N_drewN | apply Kd.N_drew)); exact nm HO_371001.out⟩, ⟨by (with_reducible repeat (first | apply Kd.N_alloc | apply Kd.N_drewN | apply Kd.N_drew)); exact nm HO_379001.out⟩, ⟨by (with_reducible repeat (first | apply Kd.N_alloc | apply Kd.N_drewN | apply Kd.N_drew)); exact nm HO_385001.out⟩, ⟨by (with_reducible repeat (first | apply Kd.N_alloc | apply Kd.N_drewN | apply Kd.N_drew)); exact nm HO_391001.out⟩, ⟨by (with_reducible repeat (first | apply Kd.N_alloc | apply Kd.N_drewN | apply Kd.N_drew)); exact nm HO397.out⟩, ⟨by (with_reducible repeat (first | apply Kd.N_alloc | apply Kd.N_drewN | apply Kd.N_drew)); exact nm HO404.out⟩, ⟨by (with_reducible repeat (first | apply Kd.N_alloc | apply Kd.N_drewN | apply Kd.N_drew)); exact nm HO410.out⟩, ⟨by (with_reducible repeat (first | apply Kd.N_alloc | apply Kd.N_drewN | apply Kd.N_drew)); exact nm HO416.out⟩, ⟨pq BK352⟩, ⟨pq BK353⟩, ⟨pq BK370⟩, ⟨pq BK378⟩, ⟨pq BK384⟩, ⟨pq BK390⟩, ⟨pq BK399⟩, ⟨pq BK406⟩, ⟨pq BK412⟩, ⟨pq BK418⟩, ⟨pb HB⟩⟩
         ·
          rw [if_neg c190] at H
          have c190b0 : (t417 == 0) = false := beq_eq_false_iff_ne.mpr c190
          have c190b1 : (t417 != 0) = true := bne_iff_ne.mpr c190
          have H' := Aside0.mk H
          clear H
          go_wp2
          go_meet
          case rel => exact ⟨_, (true), (by first | rfl | (simp; done) | (simp [*]; done)), H', ⟨by have := HJ12.out; first | omega | exact Nat.le_refl _⟩, ⟨by (with_reducible repeat (first | apply Kd.R_alloc | apply Kd.R_drewN | apply Kd.R_drew)); exact Kd.R_mono (nf2R (Kd.R_types HO_3.out BK418.out (by decide)) (fun _ hk => hk.2) (.int .i64 t413) (.slice Ao187 t414.length co187)) (fun _ hk => trivial)⟩, ⟨by (with_reducible repeat (first | apply Kd.N_alloc | apply Kd.N_drewN | apply Kd.N_drew)); exact nm (nf2N (Kd.N_mono HO_353001.out (fun k_ hk => (⟨hk, hk.2⟩ : _ ∧ k_ ≠ gb418))) (fun _ hk => hk.2) (.int .i64 t413) (.slice Ao187 t414.length co187))⟩, ⟨by (with_reducible repeat (first | apply Kd.N_alloc | apply Kd.N_drewN | apply Kd.N_drew)); exact nm (nf2N (Kd.N_mono HO_354001.out (fun k_ hk => (⟨hk, hk.2⟩ : _ ∧ k_ ≠ gb418))) (fun _ hk => hk.2) (.int .i64 t413) (.slice Ao187 t414.length co187))⟩, ⟨by (with_reducible repeat (first | apply Kd.N_alloc | apply Kd.N_drewN | apply Kd.N_drew)); exact nm (nf2N (Kd.N_mono HO_371001.out (fun k_ hk => (⟨hk, hk.2⟩ : _ ∧ k_ ≠ gb418))) (fun _ hk => hk.2) (.int .i64 t413) (.slice Ao187 t414.length co187))⟩, ⟨by (with_reducible repeat (first | apply Kd.N_alloc | apply Kd.N_drewN | apply Kd.N_drew)); exact nm (nf2N (Kd.N_mono HO_379001.out (fun k_ hk => (⟨hk, hk.2⟩ : _ ∧ k_ ≠ gb418))) (fun _ hk => hk.2) (.int .i64 t413) (.slice Ao187 t414.length co187))⟩, ⟨by (with_reducible repeat (first | apply Kd.N_alloc | apply Kd.N_drewN | apply Kd.N_drew)); exact nm (nf2N (Kd.N_mono HO_385001.out (fun k_ hk => (⟨hk, hk.2⟩ : _ ∧ k_ ≠ gb418))) (fun _ hk => hk.2) (.int .i64 t413) (.slice Ao187 t414.length co187))⟩, ⟨by (with_reducible repeat (first | apply Kd.N_alloc | apply Kd.N_drewN | apply Kd.N_drew)); exact nm (nf2N (Kd.N_mono HO_391001.out (fun k_ hk => (⟨hk, hk.2⟩ : _ ∧ k_ ≠ gb418))) (fun _ hk => hk.2) (.int .i64 t413) (.slice Ao187 t414.length co187))⟩, ⟨by (with_reducible repeat (first | apply Kd.N_alloc | apply Kd.N_drewN | apply Kd.N_drew)); exact nm (nf2N (Kd.N_mono HO397.out (fun k_ hk => (⟨hk, hk.2⟩ : _ ∧ k_ ≠ gb418))) (fun _ hk => hk.2) (.int .i64 t413) (.slice Ao187 t414.length co187))⟩, ⟨by (with_reducible repeat (first | apply Kd.N_alloc | apply Kd.N_drewN | apply Kd.N_drew)); exact nm (nf2N (Kd.N_mono HO404.out (fun k_ hk => (⟨hk, hk.2⟩ : _ ∧ k_ ≠ gb418))) (fun _ hk => hk.2) (.int .i64 t413) (.slice Ao187 t414.length co187))⟩, ⟨by (with_reducible repeat (first | apply Kd.N_alloc | apply Kd.N_drewN | apply Kd.N_drew)); exact nm (nf2N (Kd.N_mono HO410.out (fun k_ hk => (⟨hk, hk.2⟩ : _ ∧ k_ ≠ gb418))) (fun _ hk => hk.2) (.int .i64 t413) (.slice Ao187 t414.length co187))⟩, ⟨by (with_reducible repeat (first | apply Kd.N_alloc | apply Kd.N_drewN | apply Kd.N_drew)); exact nm (nf2N (Kd.N_mono HO416.out (fun k_ hk => (⟨hk, hk.2⟩ : _ ∧ k_ ≠ gb418))) (fun _ hk => hk.2) (.int .i64 t413) (.slice Ao187 t414.length co187))⟩, ⟨pq BK352⟩, ⟨pq BK353⟩, ⟨pq BK370⟩, ⟨pq BK378⟩, ⟨pq BK384⟩, ⟨pq BK390⟩, ⟨pq BK399⟩, ⟨pq BK406⟩, ⟨pq BK412⟩, ⟨by (with_reducible repeat (first | refine blk_drewN ?_ _ | refine blk_drew ?_ | refine blk_alloc ?_ _)); refine blk_put (cs := #[.int .i64 t413, .slice none 0 0]) ?_ 1 _ rfl; (with_reducible repeat (first | refine blk_drewN ?_ _ | refine blk_drew ?_ | refine blk_alloc ?_ _)); refine blk_put (cs := #[.int .i64 0, .slice none 0 0]) ?_ 0 _ rfl; (with_reducible repeat (first | refine blk_drewN ?_ _ | refine blk_drew ?_ | refine blk_alloc ?_ _)); exact BK418.out⟩, ⟨pb HB⟩⟩
        ·
         rw [if_neg c189] at H
         have c189b0 : (t411 == 0) = false := beq_eq_false_iff_ne.mpr c189
         have c189b1 : (t411 != 0) = true := bne_iff_ne.mpr c189
         have H' := Aside0.mk H
         clear H
         go_wp2
         go_meet
         case rel => exact ⟨_, (true), (by first | rfl | (simp; done) | (simp [*]; done)), H', ⟨by have := HJ12.out; first | omega | exact Nat.le_refl _⟩, ⟨by (with_reducible repeat (first | apply Kd.R_alloc | apply Kd.R_drewN | apply Kd.R_drew)); exact Kd.R_mono (nf2R (Kd.R_types HO_3.out BK418.out (by decide)) (fun _ hk => hk.2) (.int .i64 t413) (.slice Ao187 t414.length co187)) (fun _ hk => trivial)⟩, ⟨by (with_reducible repeat (first | apply Kd.N_alloc | apply Kd.N_drewN | apply Kd.N_drew)); exact nm (nf2N (Kd.N_mono HO_353001.out (fun k_ hk => (⟨hk, hk.2⟩ : _ ∧ k_ ≠ gb418))) (fun _ hk => hk.2) (.int .i64 t413) (.slice Ao187 t414.length co187))⟩, ⟨by (with_reducible repeat (first | apply Kd.N_alloc | apply Kd.N_drewN | apply Kd.N_drew)); exact nm (nf2N (Kd.N_mono HO_354001.out (fun k_ hk => (⟨hk, hk.2⟩ : _ ∧ k_ ≠ gb418))) (fun _ hk => hk.2) (.int .i64 t413) (.slice Ao187 t414.length co187))⟩, ⟨by (with_reducible repeat (first | apply Kd.N_alloc | apply Kd.N_drewN | apply Kd.N_drew)); exact nm (nf2N (Kd.N_mono HO_371001.out (fun k_ hk => (⟨hk, hk.2⟩ : _ ∧ k_ ≠ gb418))) (fun _ hk => hk.2) (.int .i64 t413) (.slice Ao187 t414.length co187))⟩, ⟨by (with_reducible repeat (first | apply Kd.N_alloc | apply Kd.N_drewN | apply Kd.N_drew)); exact nm (nf2N (Kd.N_mono HO_379001.out (fun k_ hk => (⟨hk, hk.2⟩ : _ ∧ k_ ≠ gb418))) (fun _ hk => hk.2) (.int .i64 t413) (.slice Ao187 t414.length co187))⟩, ⟨by (with_reducible repeat (first | apply Kd.N_alloc | apply Kd.N_drewN | apply Kd.N_drew)); exact nm (nf2N (Kd.N_mono HO_385001.out (fun k_ hk => (⟨hk, hk.2⟩ : _ ∧ k_ ≠ gb418))) (fun _ hk => hk.2) (.int .i64 t413) (.slice Ao187 t414.length co187))⟩, ⟨by (with_reducible repeat (first | apply Kd.N_alloc | apply Kd.N_drewN | apply Kd.N_drew)); exact nm (nf2N (Kd.N_mono HO_391001.out (fun k_ hk => (⟨hk, hk.2⟩ : _ ∧ k_ ≠ gb418))) (fun _ hk => hk.2) (.int .i64 t413) (.slice Ao187 t414.length co187))⟩, ⟨by (with_reducible repeat (first | apply Kd.N_alloc | apply Kd.N_drewN | apply Kd.N_drew)); exact nm (nf2N (Kd.N_mono HO397.out (fun k_ hk => (⟨hk, hk.2⟩ : _ ∧ k_ ≠ gb418))) (fun _ hk => hk.2) (.int .i64 t413) (.slice Ao187 t414.length co187))⟩, ⟨by (with_reducible repeat (first | apply Kd.N_alloc | apply Kd.N_drewN | apply Kd.N_drew)); exact nm (nf2N (Kd.N_mono HO404.out (fun k_ hk => (⟨hk, hk.2⟩ : _ ∧ k_ ≠ gb418))) (fun _ hk => hk.2) (.int .i64 t413) (.slice Ao187 t414.length co187))⟩, ⟨by (with_reducible repeat (first | apply Kd.N_alloc | apply Kd.N_drewN | apply Kd.N_drew)); exact nm (nf2N (Kd.N_mono HO410.out (fun k_ hk => (⟨hk, hk.2⟩ : _ ∧ k_ ≠ gb418))) (fun _ hk => hk.2) (.int .i64 t413) (.slice Ao187 t414.length co187))⟩, ⟨by (with_reducible repeat (first | apply Kd.N_alloc | apply Kd.N_drewN | apply Kd.N_drew)); exact nm (nf2N (Kd.N_mono HO416.out (fun k_ hk => (⟨hk, hk.2⟩ : _ ∧ k_ ≠ gb418))) (fun _ hk => hk.2) (.int .i64 t413) (.slice Ao187 t414.length co187))⟩, ⟨pq BK352⟩, ⟨pq BK353⟩, ⟨pq BK370⟩, ⟨pq BK378⟩, ⟨pq BK384⟩, ⟨pq BK390⟩, ⟨pq BK399⟩, ⟨pq BK406⟩, ⟨pq BK412⟩, ⟨by (with_reducible repeat (first | refine blk_drewN ?_ _ | refine blk_drew ?_ | refine blk_alloc ?_ _)); refine blk_put (cs := #[.int .i64 t413, .slice none 0 0]) ?_ 1 _ rfl; (with_reducible repeat (first | refine blk_drewN ?_ _ | refine blk_drew ?_ | refine blk_alloc ?_ _)); refine blk_put (cs := #[.int .i64 0, .slice none 0 0]) ?_ 0 _ rfl; (with_reducible repeat (first | refine blk_drewN ?_ _ | refine blk_drew ?_ | refine blk_alloc ?_ _)); exact BK418.out⟩, ⟨pb HB⟩⟩
       ·
        rw [if_neg c188] at H
        have c188b0 : (t405 == 0) = false := beq_eq_false_iff_ne.mpr c188
        have c188b1 : (t405 != 0) = true := bne_iff_ne.mpr c188
        (first | rw [c188b0] | (simp only [i64_w, i32_w]; rw [c188b0]) | skip)
        have H' := Aside0.mk H
        clear H
        go_wp2
        go_meet
        case rel => exact ⟨_, (true), (by first | rfl | (simp; done) | (simp [*]; done)), H', ⟨by have := HJ12.out; first | omega | exact Nat.le_refl _⟩, ⟨by (with_reducible repeat (first | apply Kd.R_alloc | apply Kd.R_drewN | apply Kd.R_drew)); exact Kd.R_mono (nf2R (Kd.R_types HO_3.out BK418.out (by decide)) (fun _ hk => hk.2) (.int .i64 t413) (.slice Ao187 t414.length co187)) (fun _ hk => trivial)⟩, ⟨by (with_reducible repeat (first | apply Kd.N_alloc | apply Kd.N_drewN | apply Kd.N_drew)); exact nm (nf2N (Kd.N_mono HO_353001.out (fun k_ hk => (⟨hk, hk.2⟩ : _ ∧ k_ ≠ gb418))) (fun _ hk => hk.2) (.int .i64 t413) (.slice Ao187 t414.length co187))⟩, ⟨by (with_reducible repeat (first | apply Kd.N_alloc | apply Kd.N_drewN | apply Kd.N_drew)); exact nm (nf2N (Kd.N_mono HO_354001.out (fun k_ hk => (⟨hk, hk.2⟩ : _ ∧ k_ ≠ gb418))) (fun _ hk => hk.2) (.int .i64 t413) (.slice Ao187 t414.length co187))⟩, ⟨by (with_reducible repeat (first | apply Kd.N_alloc | apply Kd.N_drewN | apply Kd.N_drew)); exact nm (nf2N (Kd.N_mono HO_371001.out (fun k_ hk => (⟨hk, hk.2⟩ : _ ∧ k_ ≠ gb418))) (fun _ hk => hk.2) (.int .i64 t413) (.slice Ao187 t414.length co187))⟩, ⟨by (with_reducible repeat (first | apply Kd.N_alloc | apply Kd.N_drewN | apply Kd.N_drew)); exact nm (nf2N (Kd.N_mono HO_379001.out (fun k_ hk => (⟨hk, hk.2⟩ : _ ∧ k_ ≠ gb418))) (fun _ hk => hk.2) (.int .i64 t413) (.slice Ao187 t414.length co187))⟩, ⟨by (with_reducible repeat (first | apply Kd.N_alloc | apply Kd.N_drewN | apply Kd.N_drew)); exact nm (nf2N (Kd.N_mono HO_385001.out (fun k_ hk => (⟨hk, hk.2⟩ : _ ∧ k_ ≠ gb418))) (fun _ hk => hk.2) (.int .i64 t413) (.slice Ao187 t414.length co187))⟩, ⟨by (with_reducible repeat (first | apply Kd.N_alloc | apply Kd.N_drewN | apply Kd.N_drew)); exact nm (nf2N (Kd.N_mono HO_391001.out (fun k_ hk => (⟨hk, hk.2⟩ : _ ∧ k_ ≠ gb418))) (fun _ hk => hk.2) (.int .i64 t413) (.slice Ao187 t414.length co187))⟩, ⟨by (with_reducible repeat (first | apply Kd.N_alloc | apply Kd.N_drewN | apply Kd.N_drew)); exact nm (nf2N (Kd.N_mono HO397.out (fun k_ hk => (⟨hk, hk.2⟩ : _ ∧ k_ ≠ gb418))) (fun _ hk => hk.2) (.int .i64 t413) (.slice Ao187 t414.length co187))⟩, ⟨by (with_reducible repeat (first | apply Kd.N_alloc | apply Kd.N_drewN | apply Kd.N_drew)); exact nm (nf2N (Kd.N_mono HO404.out (fun k_ hk => (⟨hk, hk.2⟩ : _ ∧ k_ ≠ gb418))) (fun _ hk => hk.2) (.int .i64 t413) (.slice Ao187 t414.length co187))⟩, ⟨by (with_reducible repeat (first | apply Kd.N_alloc | apply Kd.N_drewN | apply Kd.N_drew)); exact nm (nf2N (Kd.N_mono HO410.out (fun k_ hk => (⟨hk, hk.2⟩ : _ ∧ k_ ≠ gb418))) (fun _ hk => hk.2) (.int .i64 t413) (.slice Ao187 t414.length co187))⟩, ⟨by (with_reducible repeat (first | apply Kd.N_alloc | apply Kd.N_drewN | apply Kd.N_drew)); exact nm (nf2N (Kd.N_mono HO416.out (fun k_ hk => (⟨hk, hk.2⟩ : _ ∧ k_ ≠ gb418))) (fun _ hk => hk.2) (.int .i64 t413) (.slice Ao187 t414.length co187))⟩, ⟨pq BK352⟩, ⟨pq BK353⟩, ⟨pq BK370⟩, ⟨pq BK378⟩, ⟨pq BK384⟩, ⟨pq BK390⟩, ⟨pq BK399⟩, ⟨pq BK406⟩, ⟨pq BK412⟩, ⟨by (with_reducible repeat (first | refine blk_drewN ?_ _ | refine blk_drew ?_ | refine blk_alloc ?_ _)); refine blk_put (cs := #[.int .i64 t413, .slice none 0 0]) ?_ 1 _ rfl; (with_reducible repeat (first | refine blk_drewN ?_ _ | refine blk_drew ?_ | refine blk_alloc ?_ _)); refine blk_put (cs := #[.int .i64 0, .slice none 0 0]) ?_ 0 _ rfl; (with_reducible repeat (first | refine blk_drewN ?_ _ | refine blk_drew ?_ | refine blk_alloc ?_ _)); exact BK418.out⟩, ⟨pb HB⟩⟩
      case rest =>
       clear HC123
       try clear c1
       try clear c2
       try clear p2
       try clear c3
       try clear c4
       try clear c5
       try clear c6
       try clear c7
       try clear c8
       try clear c9
       try clear c9b0
       try clear c9b1
       try clear c10
       try clear c11
       try clear c12
       try clear c13
       try clear c14
       try clear c15
       try clear c16
       try clear c17
       try clear c18
       try clear c19
       try clear c20
       try clear c26
       try clear c30
       try clear c31
       try clear c34
       try clear c35
       try clear c36
       try clear c37
       try clear c38
       try clear c44
       try clear c45
       try clear c46
       try clear c47
       try clear c53
       try clear c54
       try clear c55
       try clear c56
       try clear c57
       try clear c60
       try clear c60b0
       try clear c60b1
       try clear c61
       try clear c61b0
       try clear c61b1
       try clear c62
       try clear c62b0
       try clear c62b1
       try clear c64
       try clear c66
       try clear c68
       try clear c69
       try clear c70
       try clear c71
       try clear c72
       try clear c74
       try clear c75
       try clear c76
       try clear c77
       try clear c80
       try clear c81
       try clear c82
       try clear c87
       try clear c88
       try clear c89
       try clear c90
       try clear c91
       try clear c93
       try clear c94
       try clear c95
       try clear c96
       try clear c99
       try clear c100
       try clear c101
       try clear c105
       try clear c106
       try clear c107
       try clear c108
       try clear c109
       try clear c111
       try clear c112
       try clear c113
       try clear c114
       try clear c117
       try clear c119
       try clear c119b0
       try clear c119b1
       try clear c124
       try clear c125
       try clear c126
       try clear c127
       try clear c128
       try clear c130
       try clear c131
       try clear c132
       try clear c133
       try clear c137
       try clear c138
       try clear c139
       try clear c140
       try clear c141
       try clear c142
       try clear c148
       try clear c149
       try clear c150
       try clear c151
       try clear c152
       try clear c153
       try clear c154
       try clear c160
       try clear c161
       try clear c162
       try clear c163
       try clear c164
       try clear c165
       try clear c166
       try clear c167
       try clear c171
       try clear c172
       try clear c173
       try clear c177
       try clear c178
       try clear c179
       try clear c180
       try clear c181
       try clear c182
       try clear c183
       try clear c184
       try clear c185
       try clear c188
       try clear c188b0
       try clear c188b1
       try clear c189
       try clear c189b0
       try clear c189b1
       try clear c190
       try clear c190b0
       try clear c190b1
       try clear c192
       try clear c193
       try clear c194
       try clear c195
       try clear c196
       try clear c197
       try clear c198
       try clear c199
       try clear c200
       try clear c202
       try clear c203
       try clear c204
       try clear c205
       try clear c206
       try clear c207
       try clear c208
       try clear c209
       try clear hcz102_0
       try clear hcz102_1
       try clear hcz103_0
       try clear hcz103_1
       try clear hcz110_0
       try clear hcz110_1
       try clear hcz115_0
       try clear hcz115_1
       try clear hcz129_0
       try clear hcz129_1
       try clear hcz134_0
       try clear hcz134_1
       try clear hcz143_0
       try clear hcz143_1
       try clear hcz145_0
       try clear hcz145_1
       try clear hcz155_0
       try clear hcz155_1
       try clear hcz157_0
       try clear hcz157_1
       try clear hcz168_0
       try clear hcz168_1
       try clear hcz170_0
       try clear hcz170_1
       try clear hcz174_0
       try clear hcz174_1
       try clear hcz186_0
       try clear hcz186_1
       try clear hcz201_0
       try clear hcz201_1
       try clear hcz210_0
       try clear hcz210_1
       try clear hcz27_0
       try clear hcz27_1
       try clear hcz32_0
       try clear hcz32_1
       try clear hcz39_0
       try clear hcz39_1
       try clear hcz41_0
       try clear hcz41_1
       try clear hcz48_0
       try clear hcz48_1
       try clear hcz50_0
       try clear hcz50_1
       try clear hcz58_0
       try clear hcz58_1
       try clear hcz73_0
       try clear hcz73_1
       try clear hcz78_0
       try clear hcz78_1
       try clear hcz83_0
       try clear hcz83_1
       try clear hcz84_0
       try clear hcz84_1
       try clear hcz92_0
       try clear hcz92_1
       try clear hcz97_0
       try clear hcz97_1
       try clear hfz102_0
       try clear hfz102_1
       try clear hfz103_0
       try clear hfz103_1
       try clear hfz110_0
       try clear hfz110_1
       try clear hfz115_0
       try clear hfz115_1
       try clear hfz129_0
       try clear hfz129_1
       try clear hfz134_0
       try clear hfz134_1
       try clear hfz143_0
       try clear hfz143_1
       try clear hfz145_0
       try clear hfz145_1
       try clear hfz155_0
       try clear hfz155_1
       try clear hfz157_0
       try clear hfz157_1
       try clear hfz168_0
       try clear hfz168_1
       try clear hfz170_0
       try clear hfz170_1
       try clear hfz174_0
       try clear hfz174_1
       try clear hfz186_0
       try clear hfz186_1
       try clear hfz201_0
       try clear hfz201_1
       try clear hfz210_0
       try clear hfz210_1
       try clear hfz27_0
       try clear hfz27_1
       try clear hfz32_0
       try clear hfz32_1
       try clear hfz39_0
       try clear hfz39_1
       try clear hfz41_0
       try clear hfz41_1
       try clear hfz48_0
       try clear hfz48_1
       try clear hfz50_0
       try clear hfz50_1
       try clear hfz58_0
       try clear hfz58_1
       try clear hfz73_0
       try clear hfz73_1
       try clear hfz78_0
       try clear hfz78_1
       try clear hfz83_0
       try clear hfz83_1
       try clear hfz84_0
       try clear hfz84_1
       try clear hfz92_0
       try clear hfz92_1
       try clear hfz97_0
       try clear hfz97_1
       try clear p2
       obtain ⟨kq, x135_122, rfl, HA, HJ122, HO_3, HO_353001, HO_354001, HO_371001, HO_379001, HO_385001, HO_391001, HO_400001, HO_407001, HO_413001, HO_419001, BK352, BK353, BK370, BK378, BK384, BK390, BK399, BK406, BK412, BK418, HB⟩ := hcut
       cases kq with
       | zero => exact absurd HA.out (by simp [downpourlaw03_MatrixRound.j1])
       | succ kj122 =>
        have H := HA.out
        clear HA
        simp only [downpourlaw03_MatrixRound.j1] at H
        by_cases c212 : x135_122 = true
        ·
         subst c212
         have H1 : (none) = some r := by rw [if_pos rfl] at H; exact H
         clear H
         have H := H1
         clear H1
         exact absurd H (by simp)
        ·
         replace c212 := Bool.eq_false_iff.mpr c212
         subst c212
         have H1 : ((matrix_Apply.f kj122 t358 t359 a2 t362).bind fun bt420 => ((matrix_Apply.f kj122 t394 t395 a2 t362).bind fun bt424 => (if bt420.2 = 0 then ((matrix_Apply.f kj122 t354 t355 a2 bt420.1).bind fun bt428 => (if bt424.2 = 0 then (if bt428.2 = 0 then ((downpourref02_Texts.f kj122 bt424.1 bt428.1).bind fun t432 => (some t432)) else (none)) else (none))) else (if bt424.2 = bt420.2 then (some ((wrap64 ((bt420.1.length : Int) + (bt424.1.length : Int))) == 0)) else (none))))) = some r := by rw [if_neg (show ¬ (false = true) by decide)] at H; exact H
         clear H
         have H := H1
         clear H1
         replace H := Option.bind_eq_some_iff.mp H
         obtain ⟨⟨t420, t423⟩, A2130, H⟩ := H
         replace H : ((matrix_Apply.f kj122 t394 t395 a2 t362).bind fun bt424 => (if t423 = 0 then ((matrix_Apply.f kj122 t354 t355 a2 t420).bind fun bt428 => (if bt424.2 = 0 then (if bt428.2 = 0 then ((downpourref02_Texts.f kj122 bt424.1 bt428.1).bind fun t432 => (some t432)) else (none)) else (none))) else (if bt424.2 = t423 then (some ((wrap64 ((t420.length : Int) + (bt424.1.length : Int))) == 0)) else (none)))) = some r := H
         have A213 := Aside0.mk A2130
         clear A2130
         replace H := Option.bind_eq_some_iff.mp H
         obtain ⟨⟨t424, t427⟩, A2140, H⟩ := H
         replace H : (if t423 = 0 then ((matrix_Apply.f kj122 t354 t355 a2 t420).bind fun bt428 => (if t427 = 0 then (if bt428.2 = 0 then ((downpourref02_Texts.f kj122 t424 bt428.1).bind fun t432 => (some t432)) else (none)) else (none))) else (if t427 = t423 then (some ((wrap64 ((t420.length : Int) + (t424.length : Int))) == 0)) else (none))) = some r := H
         have A214 := Aside0.mk A2140
         clear A2140
         by_cases c215 : t423 = 0
         ·
          rw [if_pos c215] at H
          have c215b0 : (t423 == 0) = true := beq_iff_eq.mpr c215
          have c215b1 : (t423 != 0) = false := bne_eq_false_iff_eq.mpr c215
          clear c215
          replace H := Option.bind_eq_some_iff.mp H
          obtain ⟨⟨t428, t431⟩, A2160, H⟩ := H
          replace H : (if t427 = 0 then (if t431 = 0 then ((downpourref02_Texts.f kj122 t424 t428).bind fun t432 => (some t432)) else (none)) else (none)) = some r := H
          have A216 := Aside0.mk A2160
          clear A2160
          by_cases c217 : t427 = 0
          ·
           rw [if_pos c217] at H
           have c217b0 : (t427 == 0) = true := beq_iff_eq.mpr c217
           have c217b1 : (t427 != 0) = false := bne_eq_false_iff_eq.mpr c217
           clear c217
           by_cases c218 : t431 = 0
           ·
            rw [if_pos c218] at H
            have c218b0 : (t431 == 0) = true := beq_iff_eq.mpr c218
            have c218b1 : (t431 != 0) = false := bne_eq_false_iff_eq.mpr c218
            clear c218
            replace H := Option.bind_eq_some_iff.mp H
            obtain ⟨t432, A2190, H⟩ := H
            replace H : (some t432) = some r := H
            have A219 := Aside0.mk A2190
            clear A2190
            obtain rfl := Option.some.inj H
            have hnb220 := NB353_352.out
            have hnc220 := NB352_353.out
            have hnb221 := NB353_370.out
            have hnc221 := NB370_353.out
            have hnb222 := NB353_378.out
            have hnc222 := NB378_353.out
            have hnb223 := NB353_384.out
            have hnc223 := NB384_353.out
            have hnb224 := NB353_390.out
            have hnc224 := NB390_353.out
            have hnb225 := NB353_399.out
            have hnc225 := NB399_353.out
            have hnb226 := NB353_406.out
            have hnc226 := NB406_353.out
            have hnb227 := NB353_412.out
            have hnc227 := NB412_353.out
            have hnb228 := NB353_418.out
            have hnc228 := NB418_353.out
            have hcz229_0 : wc.cell? ⟨gb353, 0, none⟩ = some (.int .i64 t358) := (blk_cell BK353.out 0).trans rfl
            have hcz229_1 : wc.cell? ⟨gb353, 1, none⟩ = some (.slice Ao24 t359.length co24) := (blk_cell BK353.out 1).trans rfl
            have hfz229_0 := blk_frozen BK353.out 0
            have hfz229_1 := blk_frozen BK353.out 1
            obtain ⟨Ao230, co230, eo230⟩ := Kd.R_slice HO_3.out
            subst eo230
            go_wp2_with (first | ((with_reducible refine gate_callee (f := 37) rfl ?_); refine goesL_ (some 140) rfl rfl Tryd.func37 (by kernel_rfl) rfl #[.agg #[.int .i64 t358, .slice Ao24 t359.length co24], .int .i64 a2, .slice Ao230 t362.length co230] rfl (by (try simp only [List.map_toArray, List.map_cons, List.map_nil]); first | done | rfl | (simp only [List.length_drop, List.length_take]; rfl)) ?_; (with_reducible refine (matrix_Apply.calls kj122 t358 _ _ t359 a2 _ _ t362 t420 t423 _ ?side5 ?side1 ?side2 ?side3 ?side4 A213.out).mono ?_); (case side1 => repeat (first | exact (Kd.N_reads' HO_354001.out).2.2 | (with_reducible refine Kd.C_alloc ?_ _) | (with_reducible refine Kd.C_drewN ?_ _) | (with_reducible refine Kd.C_drew ?_))); (case side2 => exact (Kd.N_reads' HO_354001.out).2.1); (case side3 => repeat (first | exact (Kd.R_reads' HO_3.out).2.2 | (with_reducible refine Kd.C_alloc ?_ _) | (with_reducible refine Kd.C_drewN ?_ _) | (with_reducible refine Kd.C_drew ?_))); (case side4 => exact (Kd.R_reads' HO_3.out).2.1); (case side5 => exact TabOk.below HT.out (pb HB)); rintro e w231 ⟨v421, rfl, ho0, hb⟩; refine ⟨_, rfl, ?_⟩; have n0_ := am (Kd.R_elder' (pr HO_3) (Kd.R_base ho0) hb); have n1_ := am (Kd.N_elder' (pn HO_353001) (Kd.R_base ho0) hb); have n2_ := am (Kd.N_elder' (pn HO_354001) (Kd.R_base ho0) hb); have n3_ := am (Kd.N_elder' (pn HO_371001) (Kd.R_base ho0) hb); have n4_ := am (Kd.N_elder' (pn HO_379001) (Kd.R_base ho0) hb); have n5_ := am (Kd.N_elder' (pn HO_385001) (Kd.R_base ho0) hb); have n6_ := am (Kd.N_elder' (pn HO_391001) (Kd.R_base ho0) hb); have n7_ := am (Kd.N_elder' (pn HO_400001) (Kd.R_base ho0) hb); have n8_ := am (Kd.N_elder' (pn HO_407001) (Kd.R_base ho0) hb); have n9_ := am (Kd.N_elder' (pn HO_413001) (Kd.R_base ho0) hb); have n10_ := am (Kd.N_elder' (pn HO_419001) (Kd.R_base ho0) hb); have n11_ := am (Kd.R_lower (Kd.R_new' ho0 (Kd.R_lt (pr HO_3))) (below_size (pb HB))); have n12_ := bb BK352 hb; have n13_ := bb BK353 hb; have n14_ := bb BK370 hb; have n15_ := bb BK378 hb; have n16_ := bb BK384 hb; have n17_ := bb BK390 hb; have n18_ := bb BK399 hb; have n19_ := bb BK406 hb; have n20_ := bb BK412 hb; have n21_ := bb BK418 hb; have n22_ := am (below_step (pb HB) hb); clear HO_3 HO_353001 HO_354001 HO_371001 HO_379001 HO_385001 HO_391001 HO_400001 HO_407001 HO_413001 HO_419001 BK352 BK353 BK370 BK378 BK384 BK390 BK399 BK406 BK412 BK418 HB; have HO_3 := n0_; have HO_353001 := n1_; have HO_354001 := n2_; have HO_371001 := n3_; have HO_379001 := n4_; have HO_385001 := n5_; have HO_391001 := n6_; have HO_400001 := n7_; have HO_407001 := n8_; have HO_413001 := n9_; have HO_419001 := n10_; have HO422 := n11_; have BK352 := n12_; have BK353 := n13_; have BK370 := n14_; have BK378 := n15_; have BK384 := n16_; have BK390 := n17_; have BK399 := n18_; have BK406 := n19_; have BK412 := n20_; have BK418 := n21_; have HB := n22_; clear n0_ n1_ n2_ n3_ n4_ n5_ n6_ n7_ n8_ n9_ n10_ n11_ n12_ n13_ n14_ n15_ n16_ n17_ n18_ n19_ n20_ n21_ n22_; (try clear hb); (try clear hb2); (try clear hk); (try clear hi); (try clear ho0); have hnb232 := NB399_352.out; have hnc232 := NB352_399.out; have hnb233 := NB399_370.out; have hnc233 := NB370_399.out; have hnb234 := NB399_378.out; have hnc234 := NB378_399.out; have hnb235 := NB399_384.out; have hnc235 := NB384_399.out; have hnb236 := NB399_390.out; have hnc236 := NB390_399.out; have hnb237 := NB399_406.out; have hnc237 := NB406_399.out; have hnb238 := NB399_412.out; have hnc238 := NB412_399.out; have hnb239 := NB399_418.out; have hnc239 := NB418_399.out; have hcz240_0 : w231.cell? ⟨gb399, 0, none⟩ = some (.int .i64 t394) := (blk_cell BK399.out 0).trans rfl; have hcz240_1 : w231.cell? ⟨gb399, 1, none⟩ = some (.slice Ao144 t395.length co144) := (blk_cell BK399.out 1).trans rfl; have hfz240_0 := blk_frozen BK399.out 0; have hfz240_1 := blk_frozen BK399.out 1) | ((with_reducible refine gate_callee (f := 37) rfl ?_); refine goesL_ (some 147) rfl rfl Tryd.func37 (by kernel_rfl) rfl #[.agg #[.int .i64 t394, .slice Ao144 t395.length co144], .int .i64 a2, .slice Ao230 t362.length co230] rfl (by (try simp only [List.map_toArray, List.map_cons, List.map_nil]); first | done | rfl | (simp only [List.length_drop, List.length_take]; rfl)) ?_; (with_reducible refine (matrix_Apply.calls kj122 t394 _ _ t395 a2 _ _ t362 t424 t427 _ ?side5 ?side1 ?side2 ?side3 ?side4 A214.out).mono ?_); (case side1 => repeat (first | exact (Kd.N_reads' HO_400001.out).2.2 | (with_reducible refine Kd.C_alloc ?_ _) | (with_reducible refine Kd.C_drewN ?_ _) | (with_reducible refine Kd.C_drew ?_))); (case side2 => exact (Kd.N_reads' HO_400001.out).2.1); (case side3 => repeat (first | exact (Kd.R_reads' HO_3.out).2.2 | (with_reducible refine Kd.C_alloc ?_ _) | (with_reducible refine Kd.C_drewN ?_ _) | (with_reducible refine Kd.C_drew ?_))); (case side4 => exact (Kd.R_reads' HO_3.out).2.1); (case side5 => exact TabOk.below HT.out (pb HB)); rintro e w241 ⟨v425, rfl, ho0, hb⟩; refine ⟨_, rfl, ?_⟩; have n0_ := am (Kd.R_elder' (pr HO_3) (Kd.R_base ho0) hb); have n1_ := am (Kd.N_elder' (pn HO_353001) (Kd.R_base ho0) hb); have n2_ := am (Kd.N_elder' (pn HO_354001) (Kd.R_base ho0) hb); have n3_ := am (Kd.N_elder' (pn HO_371001) (Kd.R_base ho0) hb); have n4_ := am (Kd.N_elder' (pn HO_379001) (Kd.R_base ho0) hb); have n5_ := am (Kd.N_elder' (pn HO_385001) (Kd.R_base ho0) hb); have n6_ := am (Kd.N_elder' (pn HO_391001) (Kd.R_base ho0) hb); have n7_ := am (Kd.N_elder' (pn HO_400001) (Kd.R_base ho0) hb); have n8_ := am (Kd.N_elder' (pn HO_407001) (Kd.R_base ho0) hb); have n9_ := am (Kd.N_elder' (pn HO_413001) (Kd.R_base ho0) hb); have n10_ := am (Kd.N_elder' (pn HO_419001) (Kd.R_base ho0) hb); have n11_ := am (Kd.R_elder' (pr HO422) (Kd.R_base ho0) hb); have n12_ := am (Kd.R_lower (Kd.R_new' (Kd.R_new' ho0 (Kd.R_lt (pr HO_3))) (Kd.R_lt (pr HO422))) (below_size (pb HB))); have n13_ := bb BK352 hb; have n14_ := bb BK353 hb; have n15_ := bb BK370 hb; have n16_ := bb BK378 hb; have n17_ := bb BK384 hb; have n18_ := bb BK390 hb; have n19_ := bb BK399 hb; have n20_ := bb BK406 hb; have n21_ := bb BK412 hb; have n22_ := bb BK418 hb; have n23_ := am (below_step (pb HB) hb); clear HO_3 HO_353001 HO_354001 HO_371001 HO_379001 HO_385001 HO_391001 HO_400001 HO_407001 HO_413001 HO_419001 HO422 BK352 BK353 BK370 BK378 BK384 BK390 BK399 BK406 BK412 BK418 HB; have HO_3 := n0_; have HO_353001 := n1_; have HO_354001 := n2_; have HO_371001 := n3_; have HO_379001 := n4_; have HO_385001 := n5_; have HO_391001 := n6_; have HO_400001 := n7_; have HO_407001 := n8_; have HO_413001 := n9_; have HO_419001 := n10_; have HO422 := n11_; have HO426 := n12_; have BK352 := n13_; have BK353 := n14_; have BK370 := n15_; have BK378 := n16_; have BK384 := n17_; have BK390 := n18_; have BK399 := n19_; have BK406 := n20_; have BK412 := n21_; have BK418 := n22_; have HB := n23_; clear n0_ n1_ n2_ n3_ n4_ n5_ n6_ n7_ n8_ n9_ n10_ n11_ n12_ n13_ n14_ n15_ n16_ n17_ n18_ n19_ n20_ n21_ n22_ n23_; (try clear hb); (try clear hb2); (try clear hk); (try clear hi); (try clear ho0); have hnb242 := NB352_370.out; have hnc242 := NB370_352.out; have hnb243 := NB352_378.out; have hnc243 := NB378_352.out; have hnb244 := NB352_384.out; have hnc244 := NB384_352.out; have hnb245 := NB352_390.out; have hnc245 := NB390_352.out; have hnb246 := NB352_406.out; have hnc246 := NB406_352.out; have hnb247 := NB352_412.out; have hnc247 := NB412_352.out; have hnb248 := NB352_418.out; have hnc248 := NB418_352.out; have hcz249_0 : w241.cell? ⟨gb352, 0, none⟩ = some (.int .i64 t354) := (blk_cell BK352.out 0).trans rfl; have hcz249_1 : w241.cell? ⟨gb352, 1, none⟩ = some (.slice Ao21 t355.length co21) := (blk_cell BK352.out 1).trans rfl; have hfz249_0 := blk_frozen BK352.out 0; have hfz249_1 := blk_frozen BK352.out 1; obtain ⟨Ao250, co250, eo250⟩ := Kd.R_slice HO422.out; subst eo250) | ((with_reducible refine gate_callee (f := 37) rfl ?_); refine goesL_ (some 167) rfl rfl Tryd.func37 (by kernel_rfl) rfl #[.agg #[.int .i64 t354, .slice Ao21 t355.length co21], .int .i64 a2, .slice Ao250 t420.length co250] rfl (by (try simp only [List.map_toArray, List.map_cons, List.map_nil]); first | done | rfl | (simp only [List.length_drop, List.length_take]; rfl)) ?_; (with_reducible refine (matrix_Apply.calls kj122 t354 _ _ t355 a2 _ _ t420 t428 t431 _ ?side5 ?side1 ?side2 ?side3 ?side4 A216.out).mono ?_); (case side1 => repeat (first | exact (Kd.N_reads' HO_353001.out).2.2 | (with_reducible refine Kd.C_alloc ?_ _) | (with_reducible refine Kd.C_drewN ?_ _) | (with_reducible refine Kd.C_drew ?_))); (case side2 => exact (Kd.N_reads' HO_353001.out).2.1); (case side3 => repeat (first | exact (Kd.R_reads' HO422.out).2.2 | (with_reducible refine Kd.C_alloc ?_ _) | (with_reducible refine Kd.C_drewN ?_ _) | (with_reducible refine Kd.C_drew ?_))); (case side4 => exact (Kd.R_reads' HO422.out).2.1); (case side5 => exact TabOk.below HT.out (pb HB)); rintro e w251 ⟨v429, rfl, ho0, hb⟩; refine ⟨_, rfl, ?_⟩; have n0_ := am (Kd.R_elder' (pr HO_3) (Kd.R_base ho0) hb); have n1_ := am (Kd.N_elder' (pn HO_353001) (Kd.R_base ho0) hb); have n2_ := am (Kd.N_elder' (pn HO_354001) (Kd.R_base ho0) hb); have n3_ := am (Kd.N_elder' (pn HO_371001) (Kd.R_base ho0) hb); have n4_ := am (Kd.N_elder' (pn HO_379001) (Kd.R_base ho0) hb); have n5_ := am (Kd.N_elder' (pn HO_385001) (Kd.R_base ho0) hb); have n6_ := am (Kd.N_elder' (pn HO_391001) (Kd.R_base ho0) hb); have n7_ := am (Kd.N_elder' (pn HO_400001) (Kd.R_base ho0) hb); have n8_ := am (Kd.N_elder' (pn HO_407001) (Kd.R_base ho0) hb); have n9_ := am (Kd.N_elder' (pn HO_413001) (Kd.R_base ho0) hb); have n10_ := am (Kd.N_elder' (pn HO_419001) (Kd.R_base ho0) hb); have n11_ := am (Kd.R_elder' (pr HO422) (Kd.R_base ho0) hb); have n12_ := am (Kd.R_elder' (pr HO426) (Kd.R_base ho0) hb); have n13_ := am (Kd.R_lower (Kd.R_new' (Kd.R_new' (Kd.R_new' ho0 (Kd.R_lt (pr HO_3))) (Kd.R_lt (pr HO422))) (Kd.R_lt (pr HO426))) (below_size (pb HB))); have n14_ := bb BK352 hb; have n15_ := bb BK353 hb; have n16_ := bb BK370 hb; have n17_ := bb BK378 hb; have n18_ := bb BK384 hb; have n19_ := bb BK390 hb; have n20_ := bb BK399 hb; have n21_ := bb BK406 hb; have n22_ := bb BK412 hb; have n23_ := bb BK418 hb; have n24_ := am (below_step (pb HB) hb); clear HO_3 HO_353001 HO_354001 HO_371001 HO_379001 HO_385001 HO_391001 HO_400001 HO_407001 HO_413001 HO_419001 HO422 HO426 BK352 BK353 BK370 BK378 BK384 BK390 BK399 BK406 BK412 BK418 HB; have HO_3 := n0_; have HO_353001 := n1_; have HO_354001 := n2_; have HO_371001 := n3_; have HO_379001 := n4_; have HO_385001 := n5_; have HO_391001 := n6_; have HO_400001 := n7_; have HO_407001 := n8_; have HO_413001 := n9_; have HO_419001 := n10_; have HO422 := n11_; have HO426 := n12_; have HO430 := n13_; have BK352 := n14_; have BK353 := n15_; have BK370 := n16_; have BK378 := n17_; have BK384 := n18_; have BK390 := n19_; have BK399 := n20_; have BK406 := n21_; have BK412 := n22_; have BK418 := n23_; have HB := n24_; clear n0_ n1_ n2_ n3_ n4_ n5_ n6_ n7_ n8_ n9_ n10_ n11_ n12_ n13_ n14_ n15_ n16_ n17_ n18_ n19_ n20_ n21_ n22_ n23_ n24_; (try clear hb); (try clear hb2); (try clear hk); (try clear hi); (try clear ho0); obtain ⟨Ao252, co252, eo252⟩ := Kd.R_slice HO426.out; subst eo252; obtain ⟨Ao253, co253, eo253⟩ := Kd.R_slice HO430.out; subst eo253) | (go_at_call 42; (with_reducible refine (downpourref02_Texts.calls kj122 _ _ t424 _ _ t428 t432 _ ?side1 ?side2 ?side3 ?side4 A219.out).mono ?_); (case side1 => repeat (first | exact (Kd.R_reads' HO426.out).2.2 | (with_reducible refine Kd.C_alloc ?_ _) | (with_reducible refine Kd.C_drewN ?_ _) | (with_reducible refine Kd.C_drew ?_))); (case side2 => exact (Kd.R_reads' HO426.out).2.1); (case side3 => repeat (first | exact (Kd.R_reads' HO430.out).2.2 | (with_reducible refine Kd.C_alloc ?_ _) | (with_reducible refine Kd.C_drewN ?_ _) | (with_reducible refine Kd.C_drew ?_))); (case side4 => exact (Kd.R_reads' HO430.out).2.1); rintro e w' ⟨rfl, ⟨nd, rfl⟩⟩))
            go_ret
            exact ⟨by first | rfl | (simp [errW_none, errW_some] <;> rfl) | (simp [*, errW_none, errW_some] <;> rfl), pb HB⟩
           ·
            rw [if_neg c218] at H
            exact absurd H (by simp)
          ·
           rw [if_neg c217] at H
           exact absurd H (by simp)
         ·
          rw [if_neg c215] at H
          have c215b0 : (t423 == 0) = false := beq_eq_false_iff_ne.mpr c215
          have c215b1 : (t423 != 0) = true := bne_iff_ne.mpr c215
          by_cases c254 : t427 = t423
          ·
           rw [if_pos c254] at H
           have c254b0 : (t427 == t423) = true := beq_iff_eq.mpr c254
           have c254b1 : (t427 != t423) = false := bne_eq_false_iff_eq.mpr c254
           clear c254
           obtain rfl := Option.some.inj H
           have hnb255 := NB353_352.out
           have hnc255 := NB352_353.out
           have hnb256 := NB353_370.out
           have hnc256 := NB370_353.out
           have hnb257 := NB353_378.out
           have hnc257 := NB378_353.out
           have hnb258 := NB353_384.out
           have hnc258 := NB384_353.out
           have hnb259 := NB353_390.out
           have hnc259 := NB390_353.out
           have hnb260 := NB353_399.out
           have hnc260 := NB399_353.out
           have hnb261 := NB353_406.out
           have hnc261 := NB406_353.out
           have hnb262 := NB353_412.out
           have hnc262 := NB412_353.out
           have hnb263 := NB353_418.out
           have hnc263 := NB418_353.out
           have hcz264_0 : wc.cell? ⟨gb353, 0, none⟩ = some (.int .i64 t358) := (blk_cell BK353.out 0).trans rfl
           have hcz264_1 : wc.cell? ⟨gb353, 1, none⟩ = some (.slice Ao24 t359.length co24) := (blk_cell BK353.out 1).trans rfl
           have hfz264_0 := blk_frozen BK353.out 0
           have hfz264_1 := blk_frozen BK353.out 1
           obtain ⟨Ao265, co265, eo265⟩ := Kd.R_slice HO_3.out
           subst eo265
           go_wp2_with (first | ((with_reducible refine gate_callee (f := 37) rfl ?_); refine goesL_ (some 140) rfl rfl Tryd.func37 (by kernel_rfl) rfl #[.agg #[.int .i64 t358, .slice Ao24 t359.length co24], .int .i64 a2, .slice Ao265 t362.length co265] rfl (by (try simp only [List.map_toArray, List.map_cons, List.map_nil]); first | done | rfl | (simp only [List.length_drop, List.length_take]; rfl)) ?_; (with_reducible refine (matrix_Apply.calls kj122 t358 _ _ t359 a2 _ _ t362 t420 t423 _ ?side5 ?side1 ?side2 ?side3 ?side4 A213.out).mono ?_); (case side1 => repeat (first | exact (Kd.N_reads' HO_354001.out).2.2 | (with_reducible refine Kd.C_alloc ?_ _) | (with_reducible refine Kd.C_drewN ?_ _) | (with_reducible refine Kd.C_drew ?_))); (case side2 => exact (Kd.N_reads' HO_354001.out).2.1); (case side3 => repeat (first | exact (Kd.R_reads' HO_3.out).2.2 | (with_reducible refine Kd.C_alloc ?_ _) | (with_reducible refine Kd.C_drewN ?_ _) | (with_reducible refine Kd.C_drew ?_))); (case side4 => exact (Kd.R_reads' HO_3.out).2.1); (case side5 => exact TabOk.below HT.out (pb HB)); rintro e w266 ⟨v421, rfl, ho0, hb⟩; refine ⟨_, rfl, ?_⟩; have n0_ := am (Kd.R_elder' (pr HO_3) (Kd.R_base ho0) hb); have n1_ := am (Kd.N_elder' (pn HO_353001) (Kd.R_base ho0) hb); have n2_ := am (Kd.N_elder' (pn HO_354001) (Kd.R_base ho0) hb); have n3_ := am (Kd.N_elder' (pn HO_371001) (Kd.R_base ho0) hb); have n4_ := am (Kd.N_elder' (pn HO_379001) (Kd.R_base ho0) hb); have n5_ := am (Kd.N_elder' (pn HO_385001) (Kd.R_base ho0) hb); have n6_ := am (Kd.N_elder' (pn HO_391001) (Kd.R_base ho0) hb); have n7_ := am (Kd.N_elder' (pn HO_400001) (Kd.R_base ho0) hb); have n8_ := am (Kd.N_elder' (pn HO_407001) (Kd.R_base ho0) hb); have n9_ := am (Kd.N_elder' (pn HO_413001) (Kd.R_base ho0) hb); have n10_ := am (Kd.N_elder' (pn HO_419001) (Kd.R_base ho0) hb); have n11_ := am (Kd.R_lower (Kd.R_new' ho0 (Kd.R_lt (pr HO_3))) (below_size (pb HB))); have n12_ := bb BK352 hb; have n13_ := bb BK353 hb; have n14_ := bb BK370 hb; have n15_ := bb BK378 hb; have n16_ := bb BK384 hb; have n17_ := bb BK390 hb; have n18_ := bb BK399 hb; have n19_ := bb BK406 hb; have n20_ := bb BK412 hb; have n21_ := bb BK418 hb; have n22_ := am (below_step (pb HB) hb); clear HO_3 HO_353001 HO_354001 HO_371001 HO_379001 HO_385001 HO_391001 HO_400001 HO_407001 HO_413001 HO_419001 BK352 BK353 BK370 BK378 BK384 BK390 BK399 BK406 BK412 BK418 HB; have HO_3 := n0_; have HO_353001 := n1_; have HO_354001 := n2_; have HO_371001 := n3_; have HO_379001 := n4_; have HO_385001 := n5_; have HO_391001 := n6_; have HO_400001 := n7_; have HO_407001 := n8_; have HO_413001 := n9_; have HO_419001 := n10_; have HO422 := n11_; have BK352 := n12_; have BK353 := n13_; have BK370 := n14_; have BK378 := n15_; have BK384 := n16_; have BK390 := n17_; have BK399 := n18_; have BK406 := n19_; have BK412 := n20_; have BK418 := n21_; have HB := n22_; clear n0_ n1_ n2_ n3_ n4_ n5_ n6_ n7_ n8_ n9_ n10_ n11_ n12_ n13_ n14_ n15_ n16_ n17_ n18_ n19_ n20_ n21_ n22_; (try clear hb); (try clear hb2); (try clear hk); (try clear hi); (try clear ho0); have hnb267 := NB399_352.out; have hnc267 := NB352_399.out; have hnb268 := NB399_370.out; have hnc268 := NB370_399.out; have hnb269 := NB399_378.out; have hnc269 := NB378_399.out; have hnb270 := NB399_384.out; have hnc270 := NB384_399.out; have hnb271 := NB399_390.out; have hnc271 := NB390_399.out; have hnb272 := NB399_406.out; have hnc272 := NB406_399.out; have hnb273 := NB399_412.out; have hnc273 := NB412_399.out; have hnb274 := NB399_418.out; have hnc274 := NB418_399.out; have hcz275_0 : w266.cell? ⟨gb399, 0, none⟩ = some (.int .i64 t394) := (blk_cell BK399.out 0).trans rfl; have hcz275_1 : w266.cell? ⟨gb399, 1, none⟩ = some (.slice Ao144 t395.length co144) := (blk_cell BK399.out 1).trans rfl; have hfz275_0 := blk_frozen BK399.out 0; have hfz275_1 := blk_frozen BK399.out 1) | ((with_reducible refine gate_callee (f := 37) rfl ?_); refine goesL_ (some 147) rfl rfl Tryd.func37 (by kernel_rfl) rfl #[.agg #[.int .i64 t394, .slice Ao144 t395.length co144], .int .i64 a2, .slice Ao265 t362.length co265] rfl (by (try simp only [List.map_toArray, List.map_cons, List.map_nil]); first | done | rfl | (simp only [List.length_drop, List.length_take]; rfl)) ?_; (with_reducible refine (matrix_Apply.calls kj122 t394 _ _ t395 a2 _ _ t362 t424 t427 _ ?side5 ?side1 ?side2 ?side3 ?side4 A214.out).mono ?_); (case side1 => repeat (first | exact (Kd.N_reads' HO_400001.out).2.2 | (with_reducible refine Kd.C_alloc ?_ _) | (with_reducible refine Kd.C_drewN ?_ _) | (with_reducible refine Kd.C_drew ?_))); (case side2 => exact (Kd.N_reads' HO_400001.out).2.1); (case side3 => repeat (first | exact (Kd.R_reads' HO_3.out).2.2 | (with_reducible refine Kd.C_alloc ?_ _) | (with_reducible refine Kd.C_drewN ?_ _) | (with_reducible refine Kd.C_drew ?_))); (case side4 => exact (Kd.R_reads' HO_3.out).2.1); (case side5 => exact TabOk.below HT.out (pb HB)); rintro e w276 ⟨v425, rfl, ho0, hb⟩; refine ⟨_, rfl, ?_⟩; have n0_ := am (Kd.R_elder' (pr HO_3) (Kd.R_base ho0) hb); have n1_ := am (Kd.N_elder' (pn HO_353001) (Kd.R_base ho0) hb); have n2_ := am (Kd.N_elder' (pn HO_354001) (Kd.R_base ho0) hb); have n3_ := am (Kd.N_elder' (pn HO_371001) (Kd.R_base ho0) hb); have n4_ := am (Kd.N_elder' (pn HO_379001) (Kd.R_base ho0) hb); have n5_ := am (Kd.N_elder' (pn HO_385001) (Kd.R_base ho0) hb); have n6_ := am (Kd.N_elder' (pn HO_391001) (Kd.R_base ho0) hb); have n7_ := am (Kd.N_elder' (pn HO_400001) (Kd.R_base ho0) hb); have n8_ := am (Kd.N_elder' (pn HO_407001) (Kd.R_base ho0) hb); have n9_ := am (Kd.N_elder' (pn HO_413001) (Kd.R_base ho0) hb); have n10_ := am (Kd.N_elder' (pn HO_419001) (Kd.R_base ho0) hb); have n11_ := am (Kd.R_elder' (pr HO422) (Kd.R_base ho0) hb); have n12_ := am (Kd.R_lower (Kd.R_new' (Kd.R_new' ho0 (Kd.R_lt (pr HO_3))) (Kd.R_lt (pr HO422))) (below_size (pb HB))); have n13_ := bb BK352 hb; have n14_ := bb BK353 hb; have n15_ := bb BK370 hb; have n16_ := bb BK378 hb; have n17_ := bb BK384 hb; have n18_ := bb BK390 hb; have n19_ := bb BK399 hb; have n20_ := bb BK406 hb; have n21_ := bb BK412 hb; have n22_ := bb BK418 hb; have n23_ := am (below_step (pb HB) hb); clear HO_3 HO_353001 HO_354001 HO_371001 HO_379001 HO_385001 HO_391001 HO_400001 HO_407001 HO_413001 HO_419001 HO422 BK352 BK353 BK370 BK378 BK384 BK390 BK399 BK406 BK412 BK418 HB; have HO_3 := n0_; have HO_353001 := n1_; have HO_354001 := n2_; have HO_371001 := n3_; have HO_379001 := n4_; have HO_385001 := n5_; have HO_391001 := n6_; have HO_400001 := n7_; have HO_407001 := n8_; have HO_413001 := n9_; have HO_419001 := n10_; have HO422 := n11_; have HO426 := n12_; have BK352 := n13_; have BK353 := n14_; have BK370 := n15_; have BK378 := n16_; have BK384 := n17_; have BK390 := n18_; have BK399 := n19_; have BK406 := n20_; have BK412 := n21_; have BK418 := n22_; have HB := n23_; clear n0_ n1_ n2_ n3_ n4_ n5_ n6_ n7_ n8_ n9_ n10_ n11_ n12_ n13_ n14_ n15_ n16_ n17_ n18_ n19_ n20_ n21_ n22_ n23_; (try clear hb); (try clear hb2); (try clear hk); (try clear hi); (try clear ho0); obtain ⟨Ao277, co277, eo277⟩ := Kd.R_slice HO422.out; subst eo277; obtain ⟨Ao278, co278, eo278⟩ := Kd.R_slice HO426.out; subst eo278))
           go_ret
           exact ⟨by first | rfl | (simp [errW_none, errW_some] <;> rfl) | (simp [*, errW_none, errW_some] <;> rfl), pb HB⟩
          ·
           rw [if_neg c254] at H
           exact absurd H (by simp)
     ·
      rw [if_neg c119] at H
      have c119b0 : (t398 == 0) = false := beq_eq_false_iff_ne.mpr c119
      have c119b1 : (t398 != 0) = true := bne_iff_ne.mpr c119
      replace H := Option.bind_eq_some_iff.mp H
      obtain ⟨t400, A2790, H⟩ := H
      replace H : (some t400) = some r := H
      have A279 := Aside0.mk A2790
      clear A2790
      obtain rfl := Option.some.inj H
      have hnb280 := NB352_353.out
      have hnc280 := NB353_352.out
      have hnb281 := NB352_370.out
      have hnc281 := NB370_352.out
      have hnb282 := NB352_378.out
      have hnc282 := NB378_352.out
      have hnb283 := NB352_384.out
      have hnc283 := NB384_352.out
      have hnb284 := NB352_390.out
      have hnc284 := NB390_352.out
      have hcz285_0 : wc.cell? ⟨gb352, 0, none⟩ = some (.int .i64 t354) := (blk_cell BK352.out 0).trans rfl
      have hcz285_1 : wc.cell? ⟨gb352, 1, none⟩ = some (.slice Ao21 t355.length co21) := (blk_cell BK352.out 1).trans rfl
      have hfz285_0 := blk_frozen BK352.out 0
      have hfz285_1 := blk_frozen BK352.out 1
      have hnb286 := NB353_370.out
      have hnc286 := NB370_353.out
      have hnb287 := NB353_378.out
      have hnc287 := NB378_353.out
      have hnb288 := NB353_384.out
      have hnc288 := NB384_353.out
      have hnb289 := NB353_390.out
      have hnc289 := NB390_353.out
      have hcz290_0 : wc.cell? ⟨gb353, 0, none⟩ = some (.int .i64 t358) := (blk_cell BK353.out 0).trans rfl
      have hcz290_1 : wc.cell? ⟨gb353, 1, none⟩ = some (.slice Ao24 t359.length co24) := (blk_cell BK353.out 1).trans rfl
      have hfz290_0 := blk_frozen BK353.out 0
      have hfz290_1 := blk_frozen BK353.out 1
      go_wp2_with (first | ((with_reducible refine gate_callee (f := 36) rfl ?_); refine goesL_ (some 96) rfl rfl Tryd.func36 (by kernel_rfl) rfl #[.agg #[.int .i64 t354, .slice Ao21 t355.length co21], .agg #[.int .i64 t358, .slice Ao24 t359.length co24]] rfl (by (try simp only [List.map_toArray, List.map_cons, List.map_nil]); first | done | rfl | (simp only [List.length_drop, List.length_take]; rfl)) ?_; (with_reducible refine (matrix_Mul.calls kj12 t354 _ _ t355 t358 _ _ t359 t394 t395 t398 _ ?side5 ?side1 ?side2 ?side3 ?side4 A118.out).mono ?_); (case side1 => repeat (first | exact (Kd.N_reads' HO_353001.out).2.2 | (with_reducible refine Kd.C_alloc ?_ _) | (with_reducible refine Kd.C_drewN ?_ _) | (with_reducible refine Kd.C_drew ?_))); (case side2 => exact (Kd.N_reads' HO_353001.out).2.1); (case side3 => repeat (first | exact (Kd.N_reads' HO_354001.out).2.2 | (with_reducible refine Kd.C_alloc ?_ _) | (with_reducible refine Kd.C_drewN ?_ _) | (with_reducible refine Kd.C_drew ?_))); (case side4 => exact (Kd.N_reads' HO_354001.out).2.1); (case side5 => exact TabOk.below HT.out (pb HB)); rintro e w291 ⟨v396, rfl, ho0, hb⟩; refine ⟨_, rfl, ?_⟩; have n0_ := am (Kd.R_below (pr HO_3) hb); have n1_ := am (Kd.N_elder' (pn HO_353001) (by first | exact Kd.N_base ho0 | exact Kd.S_base ho0 | exact Kd.R_base ho0) hb); have n2_ := am (Kd.N_elder' (pn HO_354001) (by first | exact Kd.N_base ho0 | exact Kd.S_base ho0 | exact Kd.R_base ho0) hb); have n3_ := am (Kd.N_elder' (pn HO_371001) (by first | exact Kd.N_base ho0 | exact Kd.S_base ho0 | exact Kd.R_base ho0) hb); have n4_ := am (Kd.N_elder' (pn HO_379001) (by first | exact Kd.N_base ho0 | exact Kd.S_base ho0 | exact Kd.R_base ho0) hb); have n5_ := am (Kd.N_elder' (pn HO_385001) (by first | exact Kd.N_base ho0 | exact Kd.S_base ho0 | exact Kd.R_base ho0) hb); have n6_ := am (Kd.N_elder' (pn HO_391001) (by first | exact Kd.N_base ho0 | exact Kd.S_base ho0 | exact Kd.R_base ho0) hb); have n7_ := am (Kd.N_lower (Kd.N_mono (ok' := fun k_ => some k_ ≠ (v363 : Value).ownBlock ∧ some k_ ≠ (.slice Ao21 t355.length co21 : Value).ownBlock ∧ some k_ ≠ (.slice Ao24 t359.length co24 : Value).ownBlock ∧ some k_ ≠ (.slice Ao33 t366.length co33 : Value).ownBlock ∧ some k_ ≠ (.slice Ao40 t374.length co40 : Value).ownBlock ∧ some k_ ≠ (.slice Ao49 t380.length co49 : Value).ownBlock ∧ some k_ ≠ (.slice Ao59 t386.length co59 : Value).ownBlock ∧ k_ ≠ gb352 ∧ k_ ≠ gb353 ∧ k_ ≠ gb370 ∧ k_ ≠ gb378 ∧ k_ ≠ gb384 ∧ k_ ≠ gb390) (Kd.S_N (Kd.S_bound ho0)) (fun k_ hk_ => ⟨(Kd.fresh' (Kd.R_lt (pr HO_3)) k_ hk_.2.1), (Kd.fresh' (Kd.N_lt (pn HO_353001)) k_ hk_.2.1), (Kd.fresh' (Kd.N_lt (pn HO_354001)) k_ hk_.2.1), (Kd.fresh' (Kd.N_lt (pn HO_371001)) k_ hk_.2.1), (Kd.fresh' (Kd.N_lt (pn HO_379001)) k_ hk_.2.1), (Kd.fresh' (Kd.N_lt (pn HO_385001)) k_ hk_.2.1), (Kd.fresh' (Kd.N_lt (pn HO_391001)) k_ hk_.2.1), (Kd.freshB (g := gb352) (o := .cells #[.int .i64 t354, .slice Ao21 t355.length co21] 55 (0, 0)) (pk BK352) k_ hk_.2.1), (Kd.freshB (g := gb353) (o := .cells #[.int .i64 t358, .slice Ao24 t359.length co24] 55 (0, 0)) (pk BK353) k_ hk_.2.1), (Kd.freshB (g := gb370) (o := .cells #[.int .i64 t365, .slice Ao33 t366.length co33] 55 (0, 0)) (pk BK370) k_ hk_.2.1), (Kd.freshB (g := gb378) (o := .cells #[.int .i64 t373, .slice Ao40 t374.length co40] 55 (0, 0)) (pk BK378) k_ hk_.2.1), (Kd.freshB (g := gb384) (o := .cells #[.int .i64 t379, .slice Ao49 t380.length co49] 55 (0, 0)) (pk BK384) k_ hk_.2.1), (Kd.freshB (g := gb390) (o := .cells #[.int .i64 t385, .slice Ao59 t386.length co59] 55 (0, 0)) (pk BK390) k_ hk_.2.1)⟩)) (below_size (pb HB))); have n8_ := bb BK352 hb; have n9_ := bb BK353 hb; have n10_ := bb BK370 hb; have n11_ := bb BK378 hb; have n12_ := bb BK384 hb; have n13_ := bb BK390 hb; have n14_ := am (below_step (pb HB) hb); clear HO_3 HO_353001 HO_354001 HO_371001 HO_379001 HO_385001 HO_391001 BK352 BK353 BK370 BK378 BK384 BK390 HB; have HO_3 := n0_; have HO_353001 := n1_; have HO_354001 := n2_; have HO_371001 := n3_; have HO_379001 := n4_; have HO_385001 := n5_; have HO_391001 := n6_; have HO397 := n7_; have BK352 := n8_; have BK353 := n9_; have BK370 := n10_; have BK378 := n11_; have BK384 := n12_; have BK390 := n13_; have HB := n14_; clear n0_ n1_ n2_ n3_ n4_ n5_ n6_ n7_ n8_ n9_ n10_ n11_ n12_ n13_ n14_; (try clear hb); (try clear hb2); (try clear hk); (try clear hi); (try clear ho0)) | ((with_reducible refine gate_dst (N := 17) rfl ?_); (try (refine gate_guard (by rfl) ?_; dsimp only)); refine box_event ?hg (N := 17) ?hd (cs := #[.int .i64 0, .slice none 0 0]) (t := 55) ?hr ?_; (case hd => rfl); (case hg => rfl); (case hr => first | (go_simp; done) | (go_simp; rfl)); intro gb399 hg w292 hbox hb; have n0_ := am (Kd.R_below (pr HO_3) hb); have n1_ := am (Kd.N_below (Kd.N_elderB (pn HO_353001) gb399 (Nat.le_of_eq hg.symm)) hb); have n2_ := am (Kd.N_below (Kd.N_elderB (pn HO_354001) gb399 (Nat.le_of_eq hg.symm)) hb); have n3_ := am (Kd.N_below (Kd.N_elderB (pn HO_371001) gb399 (Nat.le_of_eq hg.symm)) hb); have n4_ := am (Kd.N_below (Kd.N_elderB (pn HO_379001) gb399 (Nat.le_of_eq hg.symm)) hb); have n5_ := am (Kd.N_below (Kd.N_elderB (pn HO_385001) gb399 (Nat.le_of_eq hg.symm)) hb); have n6_ := am (Kd.N_below (Kd.N_elderB (pn HO_391001) gb399 (Nat.le_of_eq hg.symm)) hb); have n7_ := am (Kd.N_below (Kd.N_elderB (pn HO397) gb399 (Nat.le_of_eq hg.symm)) hb); have n8_ := bb BK352 hb; have n9_ := bb BK353 hb; have n10_ := bb BK370 hb; have n11_ := bb BK378 hb; have n12_ := bb BK384 hb; have n13_ := bb BK390 hb; have n14_ := am (below_step (pb HB) hb); have n15_ := am (hbox); have n16_ := am ((by rw [hg]; exact (below_size (pb HB)) : w.heap.size ≤ gb399)); have n17_ := am ((by rw [hg]; exact (below_size (pb HB)) : w.heap.size ≤ gb399)); have n18_ := am ((by rw [hg]; exact Nat.ne_of_lt (bl BK352) : gb352 ≠ gb399)); have n19_ := am ((by rw [hg]; exact Nat.ne_of_gt (bl BK352) : gb399 ≠ gb352)); have n20_ := am ((by rw [hg]; exact Nat.ne_of_lt (bl BK353) : gb353 ≠ gb399)); have n21_ := am ((by rw [hg]; exact Nat.ne_of_gt (bl BK353) : gb399 ≠ gb353)); have n22_ := am ((by rw [hg]; exact Nat.ne_of_lt (bl BK370) : gb370 ≠ gb399)); have n23_ := am ((by rw [hg]; exact Nat.ne_of_gt (bl BK370) : gb399 ≠ gb370)); have n24_ := am ((by rw [hg]; exact Nat.ne_of_lt (bl BK378) : gb378 ≠ gb399)); have n25_ := am ((by rw [hg]; exact Nat.ne_of_gt (bl BK378) : gb399 ≠ gb378)); have n26_ := am ((by rw [hg]; exact Nat.ne_of_lt (bl BK384) : gb384 ≠ gb399)); have n27_ := am ((by rw [hg]; exact Nat.ne_of_gt (bl BK384) : gb399 ≠ gb384)); have n28_ := am ((by rw [hg]; exact Nat.ne_of_lt (bl BK390) : gb390 ≠ gb399)); have n29_ := am ((by rw [hg]; exact Nat.ne_of_gt (bl BK390) : gb399 ≠ gb390)); clear HO_3 HO_353001 HO_354001 HO_371001 HO_379001 HO_385001 HO_391001 HO397 BK352 BK353 BK370 BK378 BK384 BK390 HB; have HO_3 := n0_; have HO_353001 := n1_; have HO_354001 := n2_; have HO_371001 := n3_; have HO_379001 := n4_; have HO_385001 := n5_; have HO_391001 := n6_; have HO397 := n7_; have BK352 := n8_; have BK353 := n9_; have BK370 := n10_; have BK378 := n11_; have BK384 := n12_; have BK390 := n13_; have HB := n14_; have BK399 := n15_; have GW399 := n16_; have GE399 := n17_; have NB352_399 := n18_; have NB399_352 := n19_; have NB353_399 := n20_; have NB399_353 := n21_; have NB370_399 := n22_; have NB399_370 := n23_; have NB378_399 := n24_; have NB399_378 := n25_; have NB384_399 := n26_; have NB399_384 := n27_; have NB390_399 := n28_; have NB399_390 := n29_; clear n0_ n1_ n2_ n3_ n4_ n5_ n6_ n7_ n8_ n9_ n10_ n11_ n12_ n13_ n14_ n15_ n16_ n17_ n18_ n19_ n20_ n21_ n22_ n23_ n24_ n25_ n26_ n27_ n28_ n29_ hb hbox hg; have hnb293 := NB399_352.out; have hnc293 := NB352_399.out; have hnb294 := NB399_353.out; have hnc294 := NB353_399.out; have hnb295 := NB399_370.out; have hnc295 := NB370_399.out; have hnb296 := NB399_378.out; have hnc296 := NB378_399.out; have hnb297 := NB399_384.out; have hnc297 := NB384_399.out; have hnb298 := NB399_390.out; have hnc298 := NB390_399.out; have hcz299_0 : w292.cell? ⟨gb399, 0, none⟩ = some (.int .i64 0) := (blk_cell BK399.out 0).trans rfl; have hcz299_1 : w292.cell? ⟨gb399, 1, none⟩ = some (.slice none 0 0) := (blk_cell BK399.out 1).trans rfl; have hfz299_0 := blk_frozen BK399.out 0; have hfz299_1 := blk_frozen BK399.out 1; obtain ⟨Ao300, co300, eo300⟩ := Kd.N_slice HO397.out; subst eo300) | ((with_reducible refine gate_callee (f := 40) rfl ?_); refine goesL_ (some 103) rfl rfl Tryd.func40 (by kernel_rfl) rfl #[.agg #[.int .i64 t394, .slice Ao300 t395.length co300], .agg #[.int .i64 0, .slice none 0 0]] rfl (by (try simp only [List.map_toArray, List.map_cons, List.map_nil]); first | done | rfl | (simp only [List.length_drop, List.length_take]; rfl)) ?_; (refine calls_of_args (args' := #[.agg #[.int .i64 t394, .slice Ao300 t395.length co300], .agg #[.int .i64 0, .slice none ([] : List (S25)).length 0]]) (by rfl) ?_; with_reducible refine (downpourref03_Same.calls kj12 t394 _ _ t395 0 _ _ ([] : List (S25)) t400 _ ?side1 ?side2 ?side3 ?side4 A279.out).mono ?_); (case side1 => refine (Kd.N_reads' (e := 25) (base := w.heap.size) (ok := fun k_ => ((some k_ ≠ (v363 : Value).ownBlock ∧ (some k_ ≠ (.slice Ao21 t355.length co21 : Value).ownBlock ∧ (some k_ ≠ (.slice Ao24 t359.length co24 : Value).ownBlock ∧ (some k_ ≠ (.slice Ao33 t366.length co33 : Value).ownBlock ∧ (some k_ ≠ (.slice Ao40 t374.length co40 : Value).ownBlock ∧ (some k_ ≠ (.slice Ao49 t380.length co49 : Value).ownBlock ∧ (some k_ ≠ (.slice Ao59 t386.length co59 : Value).ownBlock ∧ (k_ ≠ gb352 ∧ (k_ ≠ gb353 ∧ (k_ ≠ gb370 ∧ (k_ ≠ gb378 ∧ (k_ ≠ gb384 ∧ k_ ≠ gb390)))))))))))) ∧ k_ ≠ gb399)) (n := t395.length) (c := co300) ?_).2.2; exact (pnx (Kd.N_mono (nf2N (Kd.N_mono HO397.out (fun k_ hk => (⟨hk, hk.2⟩ : _ ∧ k_ ≠ gb399))) (fun _ hk => hk.2) (.int .i64 t394) (.slice Ao300 t395.length co300)) (fun _ h_ => h_.1)))); (case side2 => exact (Kd.N_reads' HO397.out).2.1); (case side3 => exact Kd.C_nil _ _); (case side4 => exact Nat.le_refl _); rintro e w301 ⟨rfl, hb⟩; refine ⟨_, rfl, ?_⟩; have n0_ := am (Kd.R_below (by (with_reducible repeat (first | apply Kd.R_alloc | apply Kd.R_drewN | apply Kd.R_drew)); exact (Kd.R_mono (nf2R (Kd.R_types HO_3.out BK399.out (by decide)) (fun _ hk => hk.2) (.int .i64 t394) (.slice Ao300 t395.length co300)) (fun _ h_ => h_.1))) hb); have n1_ := am (Kd.N_below (pnx (Kd.N_mono (nf2N (Kd.N_mono HO_353001.out (fun k_ hk => (⟨hk, hk.2⟩ : _ ∧ k_ ≠ gb399))) (fun _ hk => hk.2) (.int .i64 t394) (.slice Ao300 t395.length co300)) (fun _ h_ => h_.1))) hb); have n2_ := am (Kd.N_below (pnx (Kd.N_mono (nf2N (Kd.N_mono HO_354001.out (fun k_ hk => (⟨hk, hk.2⟩ : _ ∧ k_ ≠ gb399))) (fun _ hk => hk.2) (.int .i64 t394) (.slice Ao300 t395.length co300)) (fun _ h_ => h_.1))) hb); have n3_ := am (Kd.N_below (pnx (Kd.N_mono (nf2N (Kd.N_mono HO_371001.out (fun k_ hk => (⟨hk, hk.2⟩ : _ ∧ k_ ≠ gb399))) (fun _ hk => hk.2) (.int .i64 t394) (.slice Ao300 t395.length co300)) (fun _ h_ => h_.1))) hb); have n4_ := am (Kd.N_below (pnx (Kd.N_mono (nf2N (Kd.N_mono HO_379001.out (fun k_ hk => (⟨hk, hk.2⟩ : _ ∧ k_ ≠ gb399))) (fun _ hk => hk.2) (.int .i64 t394) (.slice Ao300 t395.length co300)) (fun _ h_ => h_.1))) hb); have n5_ := am (Kd.N_below (pnx (Kd.N_mono (nf2N (Kd.N_mono HO_385001.out (fun k_ hk => (⟨hk, hk.2⟩ : _ ∧ k_ ≠ gb399))) (fun _ hk => hk.2) (.int .i64 t394) (.slice Ao300 t395.length co300)) (fun _ h_ => h_.1))) hb); have n6_ := am (Kd.N_below (pnx (Kd.N_mono (nf2N (Kd.N_mono HO_391001.out (fun k_ hk => (⟨hk, hk.2⟩ : _ ∧ k_ ≠ gb399))) (fun _ hk => hk.2) (.int .i64 t394) (.slice Ao300 t395.length co300)) (fun _ h_ => h_.1))) hb); have n7_ := am (Kd.N_below (pnx (Kd.N_mono (nf2N (Kd.N_mono HO397.out (fun k_ hk => (⟨hk, hk.2⟩ : _ ∧ k_ ≠ gb399))) (fun _ hk => hk.2) (.int .i64 t394) (.slice Ao300 t395.length co300)) (fun _ h_ => h_.1))) hb); have n8_ := bq BK352 hb; have n9_ := bq BK353 hb; have n10_ := bq BK370 hb; have n11_ := bq BK378 hb; have n12_ := bq BK384 hb; have n13_ := bq BK390 hb; have n14_ := am (blk_below (g := gb399) (o := .cells #[.int .i64 t394, .slice Ao300 t395.length co300] 55 (0, 0)) (by (with_reducible repeat (first | refine blk_drewN ?_ _ | refine blk_drew ?_ | refine blk_alloc ?_ _)); refine blk_put (cs := #[.int .i64 t394, .slice none 0 0]) ?_ 1 _ rfl; (with_reducible repeat (first | refine blk_drewN ?_ _ | refine blk_drew ?_ | refine blk_alloc ?_ _)); refine blk_put (cs := #[.int .i64 0, .slice none 0 0]) ?_ 0 _ rfl; (with_reducible repeat (first | refine blk_drewN ?_ _ | refine blk_drew ?_ | refine blk_alloc ?_ _)); exact BK399.out) hb); have n15_ := am (below_step (pb HB) hb); clear HO_3 HO_353001 HO_354001 HO_371001 HO_379001 HO_385001 HO_391001 HO397 BK352 BK353 BK370 BK378 BK384 BK390 BK399 HB; have HO_3 := n0_; have HO_353001 := n1_; have HO_354001 := n2_; have HO_371001 := n3_; have HO_379001 := n4_; have HO_385001 := n5_; have HO_391001 := n6_; have HO397 := n7_; have BK352 := n8_; have BK353 := n9_; have BK370 := n10_; have BK378 := n11_; have BK384 := n12_; have BK390 := n13_; have BK399 := n14_; have HB := n15_; clear n0_ n1_ n2_ n3_ n4_ n5_ n6_ n7_ n8_ n9_ n10_ n11_ n12_ n13_ n14_ n15_; (try clear hb); (try clear hb2); (try clear hk); (try clear hi)))
      go_ret
      exact ⟨by first | rfl | (simp [errW_none, errW_some] <;> rfl) | (simp [*, errW_none, errW_some] <;> rfl), pb HB⟩
 ·
  rw [if_neg c9] at H
  have c9b0 : (t369 == 0) = false := beq_eq_false_iff_ne.mpr c9
  have c9b1 : (t369 != 0) = true := bne_iff_ne.mpr c9
  replace H := Option.bind_eq_some_iff.mp H
  obtain ⟨t371, A3020, H⟩ := H
  replace H : (if t371 = true then ((downpourref03_Same.f k t365 t366 0 ([] : List (S25))).bind fun t372 => (some t372)) else (none)) = some r := H
  have A302 := Aside0.mk A3020
  clear A3020
  by_cases c303 : t371 = true
  ·
   subst c303
   have H1 : ((downpourref03_Same.f k t365 t366 0 ([] : List (S25))).bind fun t372 => (some t372)) = some r := by rw [if_pos rfl] at H; exact H
   clear H
   have H := H1
   clear H1
   replace H := Option.bind_eq_some_iff.mp H
   obtain ⟨t372, A3040, H⟩ := H
   replace H : (some t372) = some r := H
   have A304 := Aside0.mk A3040
   clear A3040
   obtain rfl := Option.some.inj H
   go_enter Tryd.func8, Tryd.ntmps8
   try go_wp2_with (first | ((with_reducible refine gate_dst (N := 4) rfl ?_); (try (refine gate_guard (by rfl) ?_; dsimp only)); refine box_event ?hg (N := 4) ?hd (cs := #[.int .i64 a0_0, .slice A0_1 l0_1.length c0_1]) (t := 55) ?hr ?_; (case hd => rfl); (case hg => rfl); (case hr => first | (go_simp; done) | (go_simp; rfl)); intro gb352 hg w305 hbox hb; have n0_ := am (below_step (pb HB) hb); have n1_ := am (hbox); have n2_ := am ((by rw [hg]; exact (below_size (pb HB)) : w.heap.size ≤ gb352)); have n3_ := am ((by rw [hg]; exact (below_size (pb HB)) : w.heap.size ≤ gb352)); clear HB; have HB := n0_; have BK352 := n1_; have GW352 := n2_; have GE352 := n3_; clear n0_ n1_ n2_ n3_ hb hbox hg) | ((with_reducible refine gate_dst (N := 5) rfl ?_); (try (refine gate_guard (by rfl) ?_; dsimp only)); refine box_event ?hg (N := 5) ?hd (cs := #[.int .i64 a1_0, .slice A1_1 l1_1.length c1_1]) (t := 55) ?hr ?_; (case hd => rfl); (case hg => rfl); (case hr => first | (go_simp; done) | (go_simp; rfl)); intro gb353 hg w306 hbox hb; have n0_ := bb BK352 hb; have n1_ := am (below_step (pb HB) hb); have n2_ := am (hbox); have n3_ := am ((by rw [hg]; exact (below_size (pb HB)) : w.heap.size ≤ gb353)); have n4_ := am ((by rw [hg]; exact (below_size (pb HB)) : w.heap.size ≤ gb353)); have n5_ := am ((by rw [hg]; exact Nat.ne_of_lt (bl BK352) : gb352 ≠ gb353)); have n6_ := am ((by rw [hg]; exact Nat.ne_of_gt (bl BK352) : gb353 ≠ gb352)); clear BK352 HB; have BK352 := n0_; have HB := n1_; have BK353 := n2_; have GW353 := n3_; have GE353 := n4_; have NB352_353 := n5_; have NB353_352 := n6_; clear n0_ n1_ n2_ n3_ n4_ n5_ n6_ hb hbox hg))
   have n0_ := am (blk_drew BK352.out)
   have n1_ := am (blk_drew BK353.out)
   have n2_ := am (below_drew1 HB.out)
   clear BK352
   clear BK353
   clear HB
   have BK352 := n0_
   have BK353 := n1_
   have HB := n2_
   clear n0_ n1_ n2_
   refine start_ (n := 9) (S := fun w' => w'.cell? ⟨gb352, 0, none⟩ = some (.int .i64 a0_0) ∧ w'.cell? ⟨gb352, 1, none⟩ = some (.slice A0_1 l0_1.length c0_1) ∧ w'.cell? ⟨gb353, 0, none⟩ = some (.int .i64 a1_0) ∧ w'.cell? ⟨gb353, 1, none⟩ = some (.slice A1_1 l1_1.length c1_1)) (ds := [6, 7]) #[F, F, F, F, F, F, F, F, F] (by kernel_rfl) rfl rfl ⟨(blk_cell BK352.out 0).trans rfl, (blk_cell BK352.out 1).trans rfl, (blk_cell BK353.out 0).trans rfl, (blk_cell BK353.out 1).trans rfl⟩ (fun hHeld => ?_); refine with_tabW downpourlaw03_MatrixRound.tab1 downpourlaw03_MatrixRound.bits1 (fun HT_ HW_ => ?_)
   generalize w306.drew = w307 at BK352 BK353 HB hHeld ⊢
   refine pure_ (i := 4) (N := some 35) (v := ?_) (a' := ?_) #[F, F, F, F, T, F, F, F, F] rfl rfl (any_of HT_.out (by kernel_rfl)) (fun _ _ _ h => h) (Or.inl ⟨by rfl, ?_⟩) ?_ ?_
   rotate_left
   ·
    intro w'
    go_simp
    with_reducible rfl
   rotate_left
   ·
    simp only [Act.put, q1, q2, q3, i64_w, i32_w]
    rfl
   refine take_ (i := 0) (N := some 31) (v := ?_) (a' := ?_) #[T, F, F, F, T, F, F, F, F] rfl rfl (take_ofW HT_.out HW_.out (by kernel_rfl)) (fun _ _ _ h => h) (Or.inl ⟨by rfl, ?_⟩) hHeld ?_ ?_
   rotate_left
   ·
    rintro w' ⟨s0, s1, s2, s3⟩
    go_simp
    with_reducible rfl
   rotate_left
   ·
    simp only [Act.put, q1, q2, q3, i64_w, i32_w]
    rfl
   refine take_ (i := 2) (N := some 33) (v := ?_) (a' := ?_) #[T, F, T, F, T, F, F, F, F] rfl rfl (take_ofW HT_.out HW_.out (by kernel_rfl)) (fun _ _ _ h => h) (Or.inl ⟨by rfl, ?_⟩) hHeld ?_ ?_
   rotate_left
   ·
    rintro w' ⟨s0, s1, s2, s3⟩
    go_simp
    with_reducible rfl
   rotate_left
   ·
    simp only [Act.put, q1, q2, q3, i64_w, i32_w]
    rfl
   refine one_ (i := 1) (N := some 32) #[T, T, T, F, T, F, F, F, F] rfl rfl (one_of HT_.out (by kernel_rfl)) (by decide) (fun K hK => ?_)
   refine goes_ Tryd.func34 (by kernel_rfl) rfl #[.agg #[.int .i64 a0_0, .slice A0_1 l0_1.length c0_1]] (by rfl) rfl rfl (by (try simp only [List.map_toArray, List.map_cons, List.map_nil]); first | done | rfl | (simp only [List.length_drop, List.length_take]; rfl)) ?_
   with_reducible refine (downpourlaw03_few.calls k a0_0 (fun k_ => k_ < w.heap.size) _ _ l0_1 t354 t355 _ ?side1 A5.out).mono ?_
   (case side1 => exact Kd.V_mk HC0_1.out (Kd.F_below (Kd.C_F k25_heap HR0_1.out) (pb HB)))
   rintro e w308 ⟨v356, rfl, ho0, hb⟩
   refine ⟨_, rfl, ?_⟩
   have n0_ := am (Kd.N_lower (Kd.N_mono (ok' := fun k_ => k_ ≠ gb352 ∧ k_ ≠ gb353) ho0 (fun k_ hk_ => ⟨Or.elim hk_ (fun hs_ => fun e_ => Nat.not_le.2 hs_ (by rw [e_]; exact GW352.out)) (fun hn_ => (Kd.freshB (g := gb352) (o := .cells #[.int .i64 a0_0, .slice A0_1 l0_1.length c0_1] 55 (0, 0)) (pk BK352) k_ hn_)), Or.elim hk_ (fun hs_ => fun e_ => Nat.not_le.2 hs_ (by rw [e_]; exact GW353.out)) (fun hn_ => (Kd.freshB (g := gb353) (o := .cells #[.int .i64 a1_0, .slice A1_1 l1_1.length c1_1] 55 (0, 0)) (pk BK353) k_ hn_))⟩)) (below_size (pb HB)))
   have n1_ := bb BK352 hb
   have n2_ := bb BK353 hb
   have n3_ := am (below_step (pb HB) hb)
   clear BK352
   clear BK353
   clear HB
   have HO357 := n0_
   have BK352 := n1_
   have BK353 := n2_
   have HB := n3_
   clear n0_ n1_ n2_ n3_
   (try clear hb)
   (try clear hb2)
   (try clear hk)
   (try clear hi)
   (try clear ho0)
   refine hK.out _ _ ⟨(blk_cell BK352.out 0).trans rfl, (blk_cell BK352.out 1).trans rfl, (blk_cell BK353.out 0).trans rfl, (blk_cell BK353.out 1).trans rfl⟩ (fun hHeld => ?_)
   clear hK K
   refine norm_ (a' := ?_) ?_ ?_
   rotate_left
   ·
    show Act.put _ (some 32) _ = _
    simp only [Act.put, q1, q2, q3, i64_w, i32_w]
    rfl
   refine one_ (i := 3) (N := some 34) #[T, T, T, T, T, F, F, F, F] rfl rfl (one_of HT_.out (by kernel_rfl)) (by decide) (fun K hK => ?_)
   refine goes_ Tryd.func34 (by kernel_rfl) rfl #[.agg #[.int .i64 a1_0, .slice A1_1 l1_1.length c1_1]] (by rfl) rfl rfl (by (try simp only [List.map_toArray, List.map_cons, List.map_nil]); first | done | rfl | (simp only [List.length_drop, List.length_take]; rfl)) ?_
   with_reducible refine (downpourlaw03_few.calls k a1_0 (fun k_ => k_ < w.heap.size) _ _ l1_1 t358 t359 _ ?side1 A6.out).mono ?_
   (case side1 => exact Kd.V_mk HC1_1.out (Kd.F_below (Kd.C_F k25_heap HR1_1.out) (pb HB)))
   rintro e w309 ⟨v360, rfl, ho0, hb⟩
   refine ⟨_, rfl, ?_⟩
   have n0_ := am (Kd.N_elder' (pn HO357) (by first | exact Kd.N_base ho0 | exact Kd.S_base ho0 | exact Kd.R_base ho0) hb)
   have n1_ := am (Kd.N_lower (Kd.N_mono (ok' := fun k_ => some k_ ≠ (v356 : Value).ownBlock ∧ k_ ≠ gb352 ∧ k_ ≠ gb353) ho0 (fun k_ hk_ => ⟨Or.elim hk_ (fun hs_ => fun e_ => Nat.not_le.2 hs_ (Kd.N_base HO357.out k_ e_.symm)) (fun hn_ => (Kd.fresh' (Kd.N_lt (pn HO357)) k_ hn_)), Or.elim hk_ (fun hs_ => fun e_ => Nat.not_le.2 hs_ (by rw [e_]; exact GW352.out)) (fun hn_ => (Kd.freshB (g := gb352) (o := .cells #[.int .i64 a0_0, .slice A0_1 l0_1.length c0_1] 55 (0, 0)) (pk BK352) k_ hn_)), Or.elim hk_ (fun hs_ => fun e_ => Nat.not_le.2 hs_ (by rw [e_]; exact GW353.out)) (fun hn_ => (Kd.freshB (g := gb353) (o := .cells #[.int .i64 a1_0, .slice A1_1 l1_1.length c1_1] 55 (0, 0)) (pk BK353) k_ hn_))⟩)) (below_size (pb HB)))
   have n2_ := bb BK352 hb
   have n3_ := bb BK353 hb
   have n4_ := am (below_step (pb HB) hb)
   clear HO357
   clear BK352
   clear BK353
   clear HB
   have HO357 := n0_
   have HO361 := n1_
   have BK352 := n2_
   have BK353 := n3_
   have HB := n4_
   clear n0_ n1_ n2_ n3_ n4_
   (try clear hb)
   (try clear hb2)
   (try clear hk)
   (try clear hi)
   (try clear ho0)
   refine hK.out _ _ ⟨(blk_cell BK352.out 0).trans rfl, (blk_cell BK352.out 1).trans rfl, (blk_cell BK353.out 0).trans rfl, (blk_cell BK353.out 1).trans rfl⟩ (fun hHeld => ?_)
   clear hK K
   refine norm_ (a' := ?_) ?_ ?_
   rotate_left
   ·
    show Act.put _ (some 34) _ = _
    simp only [Act.put, q1, q2, q3, i64_w, i32_w]
    rfl
   refine one_ (i := 5) (N := some 36) #[T, T, T, T, T, T, F, F, F] rfl rfl (one_of HT_.out (by kernel_rfl)) (by decide) (fun K hK => ?_)
   refine goes_ Tryd.func35 (by kernel_rfl) rfl #[.slice A3 l3.length c3] (by rfl) rfl rfl (by (try simp only [List.map_toArray, List.map_cons, List.map_nil]); first | done | rfl | (simp only [List.length_drop, List.length_take]; rfl)) ?_
   with_reducible refine (downpourlaw03_blocks.calls k _ _ l3 t362 _ ?side1 ?side2 A7.out).mono ?_
   (case side1 => repeat (first | exact (Kd.C_below HR3.out HB.out) | (with_reducible refine Kd.C_alloc ?_ _) | (with_reducible refine Kd.C_drewN ?_ _) | (with_reducible refine Kd.C_drew ?_)))
   (case side2 => exact HC3.out)
   rintro e w310 ⟨v363, rfl, ho0, hb⟩
   refine ⟨_, rfl, ?_⟩
   have n0_ := am (Kd.N_elder' (pn HO357) (Kd.R_base ho0) hb)
   have n1_ := am (Kd.N_elder' (pn HO361) (Kd.R_base ho0) hb)
   have n2_ := am (Kd.R_lower ho0 (below_size (pb HB)))
   have n3_ := bb BK352 hb
   have n4_ := bb BK353 hb
   have n5_ := am (below_step (pb HB) hb)
   clear HO357
   clear HO361
   clear BK352
   clear BK353
   clear HB
   have HO357 := n0_
   have HO361 := n1_
   have HO364 := n2_
   have BK352 := n3_
   have BK353 := n4_
   have HB := n5_
   clear n0_ n1_ n2_ n3_ n4_ n5_
   (try clear hb)
   (try clear hb2)
   (try clear hk)
   (try clear hi)
   (try clear ho0)
   obtain ⟨Ao312, co312, eo312⟩ := Kd.N_slice HO357.out
   (first | subst eo312 | (injection eo312 with f1_ f2_ f3_; have f4_ := f1_.symm; have f5_ := f3_.symm; clear f1_ f2_ f3_; subst f4_; subst f5_))
   obtain ⟨Ao315, co315, eo315⟩ := Kd.N_slice HO361.out
   (first | subst eo315 | (injection eo315 with f1_ f2_ f3_; have f4_ := f1_.symm; have f5_ := f3_.symm; clear f1_ f2_ f3_; subst f4_; subst f5_))
   refine hK.out _ _ ⟨(blk_cell BK352.out 0).trans rfl, (blk_cell BK352.out 1).trans rfl, (blk_cell BK353.out 0).trans rfl, (blk_cell BK353.out 1).trans rfl⟩ (fun hHeld => ?_)
   clear hK K
   refine norm_ (a' := ?_) ?_ ?_
   rotate_left
   ·
    show Act.put _ (some 36) _ = _
    simp only [Act.put, q1, q2, q3, i64_w, i32_w]
    rfl
   refine last_ (i := 6) (N := none) #[T, T, T, T, T, T, T, F, F] rfl rfl (one_of HT_.out (by kernel_rfl)) (by decide) (fun K hK => ?_)
   have hs311 : w310.cell? ⟨gb352, 0, none⟩ = some (.int .i64 a0_0) := (blk_cell BK352.out 0).trans rfl
   have hfs311 := blk_frozen BK352.out 0
   have hns311_1 := NB353_352.out
   have hms311_1 := NB352_353.out
   have hs313 : w310.cell? ⟨gb352, 1, none⟩ = some (.slice A0_1 l0_1.length c0_1) := (blk_cell BK352.out 1).trans rfl
   have hfs313 := blk_frozen BK352.out 1
   have hns313_1 := NB353_352.out
   have hms313_1 := NB352_353.out
   refine skip_ (w1 := ?_) (by rfl) rfl ?_ ?_
   rotate_left
   ·
    go_simp
    rfl
   refine hK.out _ _ ?_
   clear hK K
   refine last_ (i := 7) (N := none) #[T, T, T, T, T, T, T, T, F] rfl rfl (one_of HT_.out (by kernel_rfl)) (by decide) (fun K hK => ?_)
   have hs314 : w310.cell? ⟨gb353, 0, none⟩ = some (.int .i64 a1_0) := (blk_cell BK353.out 0).trans rfl
   have hfs314 := blk_frozen BK353.out 0
   have hns314_0 := NB352_353.out
   have hms314_0 := NB353_352.out
   have hs316 : w310.cell? ⟨gb353, 1, none⟩ = some (.slice A1_1 l1_1.length c1_1) := (blk_cell BK353.out 1).trans rfl
   have hfs316 := blk_frozen BK353.out 1
   have hns316_0 := NB352_353.out
   have hms316_0 := NB353_352.out
   refine skip_ (w1 := ?_) (by rfl) rfl ?_ ?_
   rotate_left
   ·
    go_simp
    rfl
   refine hK.out _ _ ?_
   clear hK K
   refine pure_ (i := 8) (N := some 3) (v := ?_) (a' := ?_) #[T, T, T, T, T, T, T, T, T] rfl rfl (any_of HT_.out (by kernel_rfl)) (fun _ _ _ h => h) (Or.inl ⟨by rfl, ?_⟩) ?_ ?_
   rotate_left
   ·
    intro w'
    go_simp
    with_reducible rfl
   rotate_left
   ·
    simp only [Act.put, q1, q2, q3, i64_w, i32_w]
    rfl
   refine done_ (done_of HT_.out (by kernel_rfl)) ?_
   have hnb317 := NB352_353.out
   have hnc317 := NB353_352.out
   have hcz318_0 : w310.cell? ⟨gb352, 0, none⟩ = some (.int .i64 a0_0) := (blk_cell BK352.out 0).trans rfl
   have hcz318_1 : w310.cell? ⟨gb352, 1, none⟩ = some (.slice A0_1 l0_1.length c0_1) := (blk_cell BK352.out 1).trans rfl
   have hfz318_0 := blk_frozen BK352.out 0
   have hfz318_1 := blk_frozen BK352.out 1
   try go_wp2_with (first | ((with_reducible refine gate_callee (f := 44) rfl ?_); refine goesL_ (some 39) rfl rfl Tryd.func44 (by kernel_rfl) rfl #[.agg #[.int .i64 t354, .slice Ao312 t355.length co312]] rfl (by (try simp only [List.map_toArray, List.map_cons, List.map_nil]); first | done | rfl | (simp only [List.length_drop, List.length_take]; rfl)) ?_; (with_reducible refine (matrix_Turn.calls k t354 _ _ t355 t365 t366 t369 _ ?side1 ?side2 A8.out).mono ?_); (case side1 => refine (Kd.N_reads' (e := 25) (base := w.heap.size) (ok := fun k_ => (((k_ ≠ gb352 ∧ k_ ≠ gb353) ∧ some k_ ≠ (.slice Ao315 t359.length co315 : Value).ownBlock) ∧ some k_ ≠ (v363 : Value).ownBlock)) (n := t355.length) (c := co312) ?_).2.2; exact (pnx (Kd.N_mono (Kd.N_mono (nf2N (nf2N (Kd.N_mono (Kd.N_mono HO357.out (fun k_ hk => (⟨hk, hk.1.1.1⟩ : _ ∧ k_ ≠ gb352))) (fun k_ hk => (⟨hk, hk.1.1.1.2⟩ : _ ∧ k_ ≠ gb353))) (fun _ hk => hk.1.2) (.int .i64 t354) (.slice Ao312 t355.length co312)) (fun _ hk => hk.2) (.int .i64 t358) (.slice Ao315 t359.length co315)) (fun _ h_ => h_.1)) (fun _ h_ => h_.1)))); (case side2 => exact (Kd.N_reads' HO357.out).2.1); rintro e w319 ⟨v367, rfl, ho0, hb⟩; refine ⟨_, rfl, ?_⟩; have n0_ := am (Kd.N_elder' (pnx (Kd.N_mono (Kd.N_mono (nf2N (nf2N (Kd.N_mono (Kd.N_mono HO357.out (fun k_ hk => (⟨hk, hk.1.1.1⟩ : _ ∧ k_ ≠ gb352))) (fun k_ hk => (⟨hk, hk.1.1.1.2⟩ : _ ∧ k_ ≠ gb353))) (fun _ hk => hk.1.2) (.int .i64 t354) (.slice Ao312 t355.length co312)) (fun _ hk => hk.2) (.int .i64 t358) (.slice Ao315 t359.length co315)) (fun _ h_ => h_.1)) (fun _ h_ => h_.1))) (by first | exact Kd.N_base ho0 | exact Kd.S_base ho0 | exact Kd.R_base ho0) hb); have n1_ := am (Kd.N_elder' (pnx (Kd.N_mono (Kd.N_mono (nf2N (nf2N (Kd.N_mono (Kd.N_mono HO361.out (fun k_ hk => (⟨hk, hk.1.2.1⟩ : _ ∧ k_ ≠ gb352))) (fun k_ hk => (⟨hk, hk.1.1.2.2⟩ : _ ∧ k_ ≠ gb353))) (fun _ hk => hk.1.2) (.int .i64 t354) (.slice Ao312 t355.length co312)) (fun _ hk => hk.2) (.int .i64 t358) (.slice Ao315 t359.length co315)) (fun _ h_ => h_.1)) (fun _ h_ => h_.1))) (by first | exact Kd.N_base ho0 | exact Kd.S_base ho0 | exact Kd.R_base ho0) hb); have n2_ := am (Kd.R_below (by (with_reducible repeat (first | apply Kd.R_alloc | apply Kd.R_drewN | apply Kd.R_drew)); exact (Kd.R_mono (Kd.R_mono (nf2R (nf2R (Kd.R_types (Kd.R_types HO364.out BK352.out (by decide)) BK353.out (by decide)) (fun _ hk => hk.1.2) (.int .i64 t354) (.slice Ao312 t355.length co312)) (fun _ hk => hk.2) (.int .i64 t358) (.slice Ao315 t359.length co315)) (fun _ h_ => h_.1)) (fun _ h_ => h_.1))) hb); have n3_ := am (Kd.N_lower (Kd.N_mono (ok' := fun k_ => some k_ ≠ (.slice Ao312 t355.length co312 : Value).ownBlock ∧ some k_ ≠ (.slice Ao315 t359.length co315 : Value).ownBlock ∧ some k_ ≠ (v363 : Value).ownBlock ∧ k_ ≠ gb352 ∧ k_ ≠ gb353) (Kd.S_N (Kd.S_bound ho0)) (fun k_ hk_ => ⟨(Kd.fresh' (Kd.N_lt (pnx (Kd.N_mono (Kd.N_mono (nf2N (nf2N (Kd.N_mono (Kd.N_mono HO357.out (fun k_ hk => (⟨hk, hk.1.1.1⟩ : _ ∧ k_ ≠ gb352))) (fun k_ hk => (⟨hk, hk.1.1.1.2⟩ : _ ∧ k_ ≠ gb353))) (fun _ hk => hk.1.2) (.int .i64 t354) (.slice Ao312 t355.length co312)) (fun _ hk => hk.2) (.int .i64 t358) (.slice Ao315 t359.length co315)) (fun _ h_ => h_.1)) (fun _ h_ => h_.1)))) k_ hk_.2.1), (Kd.fresh' (Kd.N_lt (pnx (Kd.N_mono (Kd.N_mono (nf2N (nf2N (Kd.N_mono (Kd.N_mono HO361.out (fun k_ hk => (⟨hk, hk.1.2.1⟩ : _ ∧ k_ ≠ gb352))) (fun k_ hk => (⟨hk, hk.1.1.2.2⟩ : _ ∧ k_ ≠ gb353))) (fun _ hk => hk.1.2) (.int .i64 t354) (.slice Ao312 t355.length co312)) (fun _ hk => hk.2) (.int .i64 t358) (.slice Ao315 t359.length co315)) (fun _ h_ => h_.1)) (fun _ h_ => h_.1)))) k_ hk_.2.1), (Kd.fresh' (Kd.R_lt (by (with_reducible repeat (first | apply Kd.R_alloc | apply Kd.R_drewN | apply Kd.R_drew)); exact (Kd.R_mono (Kd.R_mono (nf2R (nf2R (Kd.R_types (Kd.R_types HO364.out BK352.out (by decide)) BK353.out (by decide)) (fun _ hk => hk.1.2) (.int .i64 t354) (.slice Ao312 t355.length co312)) (fun _ hk => hk.2) (.int .i64 t358) (.slice Ao315 t359.length co315)) (fun _ h_ => h_.1)) (fun _ h_ => h_.1)))) k_ hk_.2.1), (Kd.freshB (g := gb352) (o := .cells #[.int .i64 t354, .slice Ao312 t355.length co312] 55 (0, 0)) (by (with_reducible repeat (first | refine blk_drewN ?_ _ | refine blk_drew ?_ | refine blk_alloc ?_ _)); refine blk_far ?_ NB352_353.out _; (with_reducible repeat (first | refine blk_drewN ?_ _ | refine blk_drew ?_ | refine blk_alloc ?_ _)); refine blk_far ?_ NB352_353.out _; (with_reducible repeat (first | refine blk_drewN ?_ _ | refine blk_drew ?_ | refine blk_alloc ?_ _)); refine blk_put (cs := #[.int .i64 t354, .slice A0_1 l0_1.length c0_1]) ?_ 1 _ rfl; (with_reducible repeat (first | refine blk_drewN ?_ _ | refine blk_drew ?_ | refine blk_alloc ?_ _)); refine blk_put (cs := #[.int .i64 a0_0, .slice A0_1 l0_1.length c0_1]) ?_ 0 _ rfl; (with_reducible repeat (first | refine blk_drewN ?_ _ | refine blk_drew ?_ | refine blk_alloc ?_ _)); exact BK352.out) k_ hk_.2.1), (Kd.freshB (g := gb353) (o := .cells #[.int .i64 t358, .slice Ao315 t359.length co315] 55 (0, 0)) (by (with_reducible repeat (first | refine blk_drewN ?_ _ | refine blk_drew ?_ | refine blk_alloc ?_ _)); refine blk_put (cs := #[.int .i64 t358, .slice A1_1 l1_1.length c1_1]) ?_ 1 _ rfl; (with_reducible repeat (first | refine blk_drewN ?_ _ | refine blk_drew ?_ | refine blk_alloc ?_ _)); refine blk_put (cs := #[.int .i64 a1_0, .slice A1_1 l1_1.length c1_1]) ?_ 0 _ rfl; (with_reducible repeat (first | refine blk_drewN ?_ _ | refine blk_drew ?_ | refine blk_alloc ?_ _)); refine blk_far ?_ NB353_352.out _; (with_reducible repeat (first | refine blk_drewN ?_ _ | refine blk_drew ?_ | refine blk_alloc ?_ _)); refine blk_far ?_ NB353_352.out _; (with_reducible repeat (first | refine blk_drewN ?_ _ | refine blk_drew ?_ | refine blk_alloc ?_ _)); exact BK353.out) k_ hk_.2.1)⟩)) (below_size (pb HB))); have n4_ := am (blk_below (g := gb352) (o := .cells #[.int .i64 t354, .slice Ao312 t355.length co312] 55 (0, 0)) (by (with_reducible repeat (first | refine blk_drewN ?_ _ | refine blk_drew ?_ | refine blk_alloc ?_ _)); refine blk_far ?_ NB352_353.out _; (with_reducible repeat (first | refine blk_drewN ?_ _ | refine blk_drew ?_ | refine blk_alloc ?_ _)); refine blk_far ?_ NB352_353.out _; (with_reducible repeat (first | refine blk_drewN ?_ _ | refine blk_drew ?_ | refine blk_alloc ?_ _)); refine blk_put (cs := #[.int .i64 t354, .slice A0_1 l0_1.length c0_1]) ?_ 1 _ rfl; (with_reducible repeat (first | refine blk_drewN ?_ _ | refine blk_drew ?_ | refine blk_alloc ?_ _)); refine blk_put (cs := #[.int .i64 a0_0, .slice A0_1 l0_1.length c0_1]) ?_ 0 _ rfl; (with_reducible repeat (first | refine blk_drewN ?_ _ | refine blk_drew ?_ | refine blk_alloc ?_ _)); exact BK352.out) hb); have n5_ := am (blk_below (g := gb353) (o := .cells #[.int .i64 t358, .slice Ao315 t359.length co315] 55 (0, 0)) (by (with_reducible repeat (first | refine blk_drewN ?_ _ | refine blk_drew ?_ | refine blk_alloc ?_ _)); refine blk_put (cs := #[.int .i64 t358, .slice A1_1 l1_1.length c1_1]) ?_ 1 _ rfl; (with_reducible repeat (first | refine blk_drewN ?_ _ | refine blk_drew ?_ | refine blk_alloc ?_ _)); refine blk_put (cs := #[.int .i64 a1_0, .slice A1_1 l1_1.length c1_1]) ?_ 0 _ rfl; (with_reducible repeat (first | refine blk_drewN ?_ _ | refine blk_drew ?_ | refine blk_alloc ?_ _)); refine blk_far ?_ NB353_352.out _; (with_reducible repeat (first | refine blk_drewN ?_ _ | refine blk_drew ?_ | refine blk_alloc ?_ _)); refine blk_far ?_ NB353_352.out _; (with_reducible repeat (first | refine blk_drewN ?_ _ | refine blk_drew ?_ | refine blk_alloc ?_ _)); exact BK353.out) hb); have n6_ := am (below_step (pb HB) hb); clear HO357 HO361 HO364 BK352 BK353 HB; have HO357 := n0_; have HO361 := n1_; have HO364 := n2_; have HO368 := n3_; have BK352 := n4_; have BK353 := n5_; have HB := n6_; clear n0_ n1_ n2_ n3_ n4_ n5_ n6_; (try clear hb); (try clear hb2); (try clear hk); (try clear hi); (try clear ho0)) | ((with_reducible refine gate_dst (N := 9) rfl ?_); (try (refine gate_guard (by rfl) ?_; dsimp only)); refine box_event ?hg (N := 9) ?hd (cs := #[.int .i64 0, .slice none 0 0]) (t := 55) ?hr ?_; (case hd => rfl); (case hg => rfl); (case hr => first | (go_simp; done) | (go_simp; rfl)); intro gb370 hg w320 hbox hb; have n0_ := am (Kd.N_below (Kd.N_elderB (pn HO357) gb370 (Nat.le_of_eq hg.symm)) hb); have n1_ := am (Kd.N_below (Kd.N_elderB (pn HO361) gb370 (Nat.le_of_eq hg.symm)) hb); have n2_ := am (Kd.R_below (pr HO364) hb); have n3_ := am (Kd.N_below (Kd.N_elderB (pn HO368) gb370 (Nat.le_of_eq hg.symm)) hb); have n4_ := bb BK352 hb; have n5_ := bb BK353 hb; have n6_ := am (below_step (pb HB) hb); have n7_ := am (hbox); have n8_ := am ((by rw [hg]; exact (below_size (pb HB)) : w.heap.size ≤ gb370)); have n9_ := am ((by rw [hg]; exact (below_size (pb HB)) : w.heap.size ≤ gb370)); have n10_ := am ((by rw [hg]; exact Nat.ne_of_lt (bl BK352) : gb352 ≠ gb370)); have n11_ := am ((by rw [hg]; exact Nat.ne_of_gt (bl BK352) : gb370 ≠ gb352)); have n12_ := am ((by rw [hg]; exact Nat.ne_of_lt (bl BK353) : gb353 ≠ gb370)); have n13_ := am ((by rw [hg]; exact Nat.ne_of_gt (bl BK353) : gb370 ≠ gb353)); clear HO357 HO361 HO364 HO368 BK352 BK353 HB; have HO357 := n0_; have HO361 := n1_; have HO364 := n2_; have HO368 := n3_; have BK352 := n4_; have BK353 := n5_; have HB := n6_; have BK370 := n7_; have GW370 := n8_; have GE370 := n9_; have NB352_370 := n10_; have NB370_352 := n11_; have NB353_370 := n12_; have NB370_353 := n13_; clear n0_ n1_ n2_ n3_ n4_ n5_ n6_ n7_ n8_ n9_ n10_ n11_ n12_ n13_ hb hbox hg; have hnb321 := NB370_352.out; have hnc321 := NB352_370.out; have hnb322 := NB370_353.out; have hnc322 := NB353_370.out; have hcz323_0 : w320.cell? ⟨gb370, 0, none⟩ = some (.int .i64 0) := (blk_cell BK370.out 0).trans rfl; have hcz323_1 : w320.cell? ⟨gb370, 1, none⟩ = some (.slice none 0 0) := (blk_cell BK370.out 1).trans rfl; have hfz323_0 := blk_frozen BK370.out 0; have hfz323_1 := blk_frozen BK370.out 1; obtain ⟨Ao324, co324, eo324⟩ := Kd.N_slice HO368.out; subst eo324) | ((with_reducible refine gate_callee (f := 38) rfl ?_); refine goesL_ (some 44) rfl rfl Tryd.func38 (by kernel_rfl) rfl #[] rfl (by (try simp only [List.map_toArray, List.map_cons, List.map_nil]); first | done | rfl | (simp only [List.length_drop, List.length_take]; rfl)) ?_; (with_reducible refine (downpourlaw03_alive.calls k  true _ A302.out).mono ?_); rintro e w325 ⟨rfl, hb⟩; refine ⟨_, rfl, ?_⟩; have n0_ := am (Kd.N_below (pnx (Kd.N_mono (nf2N (Kd.N_mono HO357.out (fun k_ hk => (⟨hk, hk.2⟩ : _ ∧ k_ ≠ gb370))) (fun _ hk => hk.2) (.int .i64 t365) (.slice Ao324 t366.length co324)) (fun _ h_ => h_.1))) hb); have n1_ := am (Kd.N_below (pnx (Kd.N_mono (nf2N (Kd.N_mono HO361.out (fun k_ hk => (⟨hk, hk.2⟩ : _ ∧ k_ ≠ gb370))) (fun _ hk => hk.2) (.int .i64 t365) (.slice Ao324 t366.length co324)) (fun _ h_ => h_.1))) hb); have n2_ := am (Kd.R_below (by (with_reducible repeat (first | apply Kd.R_alloc | apply Kd.R_drewN | apply Kd.R_drew)); exact (Kd.R_mono (nf2R (Kd.R_types HO364.out BK370.out (by decide)) (fun _ hk => hk.2) (.int .i64 t365) (.slice Ao324 t366.length co324)) (fun _ h_ => h_.1))) hb); have n3_ := am (Kd.N_below (pnx (Kd.N_mono (nf2N (Kd.N_mono HO368.out (fun k_ hk => (⟨hk, hk.2⟩ : _ ∧ k_ ≠ gb370))) (fun _ hk => hk.2) (.int .i64 t365) (.slice Ao324 t366.length co324)) (fun _ h_ => h_.1))) hb); have n4_ := bq BK352 hb; have n5_ := bq BK353 hb; have n6_ := am (blk_below (g := gb370) (o := .cells #[.int .i64 t365, .slice Ao324 t366.length co324] 55 (0, 0)) (by (with_reducible repeat (first | refine blk_drewN ?_ _ | refine blk_drew ?_ | refine blk_alloc ?_ _)); refine blk_put (cs := #[.int .i64 t365, .slice none 0 0]) ?_ 1 _ rfl; (with_reducible repeat (first | refine blk_drewN ?_ _ | refine blk_drew ?_ | refine blk_alloc ?_ _)); refine blk_put (cs := #[.int .i64 0, .slice none 0 0]) ?_ 0 _ rfl; (with_reducible repeat (first | refine blk_drewN ?_ _ | refine blk_drew ?_ | refine blk_alloc ?_ _)); exact BK370.out) hb); have n7_ := am (below_step (pb HB) hb); clear HO357 HO361 HO364 HO368 BK352 BK353 BK370 HB; have HO357 := n0_; have HO361 := n1_; have HO364 := n2_; have HO368 := n3_; have BK352 := n4_; have BK353 := n5_; have BK370 := n6_; have HB := n7_; clear n0_ n1_ n2_ n3_ n4_ n5_ n6_ n7_; (try clear hb); (try clear hb2); (try clear hk); (try clear hi); have hcz326_0 : w325.cell? ⟨gb370, 0, none⟩ = some (.int .i64 t365) := (blk_cell BK370.out 0).trans rfl; have hcz326_1 : w325.cell? ⟨gb370, 1, none⟩ = some (.slice Ao324 t366.length co324) := (blk_cell BK370.out 1).trans rfl; have hfz326_0 := blk_frozen BK370.out 0; have hfz326_1 := blk_frozen BK370.out 1) | (go_at_call 40; (refine calls_of_args (args' := #[.agg #[.int .i64 t365, .slice Ao324 t366.length co324], .agg #[.int .i64 0, .slice none ([] : List (S25)).length 0]]) (by rfl) ?_; with_reducible refine (downpourref03_Same.calls k t365 _ _ t366 0 _ _ ([] : List (S25)) t372 _ ?side1 ?side2 ?side3 ?side4 A304.out).mono ?_); (case side1 => repeat (first | exact (Kd.N_reads' HO368.out).2.2 | (with_reducible refine Kd.C_alloc ?_ _) | (with_reducible refine Kd.C_drewN ?_ _) | (with_reducible refine Kd.C_drew ?_))); (case side2 => exact (Kd.N_reads' HO368.out).2.1); (case side3 => exact Kd.C_nil _ _); (case side4 => exact Nat.le_refl _); rintro e w327 ⟨rfl, hb⟩; have n0_ := am (Kd.N_below (pn HO357) hb); have n1_ := am (Kd.N_below (pn HO361) hb); have n2_ := am (Kd.R_below (pr HO364) hb); have n3_ := am (Kd.N_below (pn HO368) hb); have n4_ := bb BK352 hb; have n5_ := bb BK353 hb; have n6_ := bb BK370 hb; have n7_ := am (below_step (pb HB) hb); clear HO357 HO361 HO364 HO368 BK352 BK353 BK370 HB; have HO357 := n0_; have HO361 := n1_; have HO364 := n2_; have HO368 := n3_; have BK352 := n4_; have BK353 := n5_; have BK370 := n6_; have HB := n7_; clear n0_ n1_ n2_ n3_ n4_ n5_ n6_ n7_; (try clear hb); (try clear hb2); (try clear hk); (try clear hi)))
   go_ret
   exact ⟨by first | rfl | (simp [errW_none, errW_some] <;> rfl) | (simp [*, errW_none, errW_some] <;> rfl), pb HB⟩
  ·
   replace c303 := Bool.eq_false_iff.mpr c303
   subst c303
   have H1 : (none) = some r := by rw [if_neg (show ¬ (false = true) by decide)] at H; exact H
   clear H
   have H := H1
   clear H1
   exact absurd H (by simp)

end Go.Proofs.YtfcedhejbnoinaaDoor.PR
