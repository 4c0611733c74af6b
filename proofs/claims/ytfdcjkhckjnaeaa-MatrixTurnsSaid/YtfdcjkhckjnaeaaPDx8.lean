-- PRINTED by print.py (a twelfth state) out of the translation. Not trusted: Lean checks it.
import Derived.Test.YtfdcjkhckjnaeaaPDx0
import Derived.Test.YtfdcjkhckjnaeaaPDx1
import Derived.Test.YtfdcjkhckjnaeaaPDx2
import Derived.Test.YtfdcjkhckjnaeaaPDx3
import Derived.Test.YtfdcjkhckjnaeaaPDx4
import Derived.Test.YtfdcjkhckjnaeaaPDx5
import Derived.Test.YtfdcjkhckjnaeaaPDx6
import Derived.Test.YtfdcjkhckjnaeaaPDx7
namespace Go.Proofs.Ytfdcjkhckjnaeaa.PD
open Go.RowKit Go.Proofs.YtfdcjkhckjnaeaaW.PrintWords Go.Proofs.YtfdcjkhckjnaeaaW.PrintLast Go.Proofs.YtfdcjkhckjnaeaaW.PrintMore
open Bool renaming true → T, false → F
open List renaming setIfInBounds_toArray → q1, set_cons_zero → q2, set_cons_succ → q3
attribute [local go_sem] run_store_func max2_int min2_int max_two min_two max_three min_three max_four min_four   -- for this text's walks alone
set_option linter.unusedVariables false
set_option linter.unusedSimpArgs false

/-! ### downpourlaw03_MatrixTurns: function 8 -/
mutual
def downpourlaw03_MatrixTurns.j0 : Nat → Int → Int → Int → Bool → Int → List (S25) → Int → List (S25) → Int → List (S25) → Option (Bool)
 | 0, _, _, _, _, _, _, _, _, _, _ => none
 | k + 1, x2, x8, x10, x49, x321000, x321001, x336000, x336001, x342000, x342001 => if x49 = true then (none) else (if x2 ≥ 0 then (downpourlaw03_MatrixTurns.j1 k x2 x8 x10 (decide (x2 ≤ 64)) x321000 x321001 x336000 x336001 x342000 x342001) else (downpourlaw03_MatrixTurns.j1 k x2 x8 x10 false x321000 x321001 x336000 x336001 x342000 x342001))
def downpourlaw03_MatrixTurns.j1 : Nat → Int → Int → Int → Bool → Int → List (S25) → Int → List (S25) → Int → List (S25) → Option (Bool)
 | 0, _, _, _, _, _, _, _, _, _, _ => none
 | k + 1, x2, x8, x10, x11, x321000, x321001, x336000, x336001, x342000, x342001 => if x11 = true then (if x10 = 0 then ((downpourref03_One.f k x2).bind fun bt348 => ((downpourref03_Same.f k x342000 x342001 bt348.1 bt348.2).bind fun t352 => (if t352 = true then (downpourlaw03_MatrixTurns.j2 k x8 false x321000 x321001 x336000 x336001) else (downpourlaw03_MatrixTurns.j2 k x8 true x321000 x321001 x336000 x336001)))) else (downpourlaw03_MatrixTurns.j2 k x8 true x321000 x321001 x336000 x336001)) else (if x10 = 2 then ((downpourref03_Same.f k x342000 x342001 0 ([] : List (S25))).bind fun t353 => (downpourlaw03_MatrixTurns.j2 k x8 (!t353) x321000 x321001 x336000 x336001)) else (downpourlaw03_MatrixTurns.j2 k x8 true x321000 x321001 x336000 x336001))
def downpourlaw03_MatrixTurns.j2 : Nat → Int → Bool → Int → List (S25) → Int → List (S25) → Option (Bool)
 | 0, _, _, _, _, _, _ => none
 | k + 1, x8, x81, x321000, x321001, x336000, x336001 => if x81 = true then (none) else ((downpourref03_Right.f k x321000 x321001).bind fun t354 => (if t354 = true then (if x8 = 0 then ((downpourref03_Turn.f k x321000 x321001).bind fun bt355 => ((downpourref03_Same.f k x336000 x336001 bt355.1 bt355.2).bind fun t359 => (some t359))) else (none)) else (if x8 = 1 then ((downpourref03_Same.f k x336000 x336001 0 ([] : List (S25))).bind fun t360 => (some t360)) else (none))))
end
def downpourlaw03_MatrixTurns.f (k : Nat) (a0_0 : Int) (l0_1 : List (S25)) (a1_0 : Int) (l1_1 : List (S25)) (a2 : Int) : Option (Bool) := (downpourlaw03_few.f k a0_0 l0_1).bind fun bt322 => ((downpourlaw03_few.f k a1_0 l1_1).bind fun bt326 => ((matrix_Turn.f k bt322.1 bt322.2).bind fun bt330 => ((matrix_One.f k a2).bind fun bt336 => ((matrix_Right.f k bt322.1 bt322.2).bind fun t342 => ((downpourref03_Right.f k bt322.1 bt322.2).bind fun t343 => (if (t342 != t343) = true then (downpourlaw03_MatrixTurns.j0 k a2 bt330.2.2 bt336.2.2 true bt322.1 bt322.2 bt330.1 bt330.2.1 bt336.1 bt336.2.1) else ((matrix_Like.f k bt322.1 bt322.2 bt326.1 bt326.2).bind fun t344 => ((downpourref03_Same.f k bt322.1 bt322.2 bt326.1 bt326.2).bind fun t345 => (if (t344 != t345) = true then (downpourlaw03_MatrixTurns.j0 k a2 bt330.2.2 bt336.2.2 true bt322.1 bt322.2 bt330.1 bt330.2.1 bt336.1 bt336.2.1) else ((matrix_Like.f k bt322.1 bt322.2 bt322.1 bt322.2).bind fun t346 => (if t346 = true then ((downpourlaw03_alive.f k).bind fun t347 => (downpourlaw03_MatrixTurns.j0 k a2 bt330.2.2 bt336.2.2 (!t347) bt322.1 bt322.2 bt330.1 bt330.2.1 bt336.1 bt336.2.1)) else (downpourlaw03_MatrixTurns.j0 k a2 bt330.2.2 bt336.2.2 true bt322.1 bt322.2 bt330.1 bt330.2.1 bt336.1 bt336.2.1))))))))))))
theorem downpourlaw03_MatrixTurns.mono_l : ∀ k, (∀ y0 y1 y2 y3 y4 y5 y6 y7 y8 y9, LeO (downpourlaw03_MatrixTurns.j0 k y0 y1 y2 y3 y4 y5 y6 y7 y8 y9) (downpourlaw03_MatrixTurns.j0 (k + 1) y0 y1 y2 y3 y4 y5 y6 y7 y8 y9)) ∧ (∀ y0 y1 y2 y3 y4 y5 y6 y7 y8 y9, LeO (downpourlaw03_MatrixTurns.j1 k y0 y1 y2 y3 y4 y5 y6 y7 y8 y9) (downpourlaw03_MatrixTurns.j1 (k + 1) y0 y1 y2 y3 y4 y5 y6 y7 y8 y9)) ∧ (∀ y0 y1 y2 y3 y4 y5, LeO (downpourlaw03_MatrixTurns.j2 k y0 y1 y2 y3 y4 y5) (downpourlaw03_MatrixTurns.j2 (k + 1) y0 y1 y2 y3 y4 y5))
 | 0 => ⟨fun _ _ _ _ _ _ _ _ _ _ r h => by simp [downpourlaw03_MatrixTurns.j0] at h, fun _ _ _ _ _ _ _ _ _ _ r h => by simp [downpourlaw03_MatrixTurns.j1] at h, fun _ _ _ _ _ _ r h => by simp [downpourlaw03_MatrixTurns.j2] at h⟩
 | k + 1 => by
  obtain ⟨ih0, ih1, ih2⟩ := downpourlaw03_MatrixTurns.mono_l k
  refine ⟨?_, ?_, ?_⟩
  ·
   intro y0 y1 y2 y3 y4 y5 y6 y7 y8 y9
   unfold downpourlaw03_MatrixTurns.j0
   repeat' first
   | (with_reducible exact ih0 _ _ _ _ _ _ _ _ _ _)
   | (with_reducible exact ih1 _ _ _ _ _ _ _ _ _ _)
   | (with_reducible exact ih2 _ _ _ _ _ _)
   | (with_reducible exact downpourlaw03_alive.mono _)
   | (with_reducible exact downpourlaw03_few.mono _ _ _)
   | (with_reducible exact downpourref03_One.mono _ _)
   | (with_reducible exact downpourref03_Right.mono _ _ _)
   | (with_reducible exact downpourref03_Same.mono _ _ _ _ _)
   | (with_reducible exact downpourref03_Turn.mono _ _ _)
   | (with_reducible exact matrix_Like.mono _ _ _ _ _)
   | (with_reducible exact matrix_One.mono _ _)
   | (with_reducible exact matrix_Right.mono _ _ _)
   | (with_reducible exact matrix_Turn.mono _ _ _)
   | (with_reducible exact LeO.refl _)
   | (with_reducible exact LeO.none _)
   | (with_reducible refine LeO.ite ?_ ?_)
   | (with_reducible refine LeO.bind ?_ (fun _ => ?_))
   | exact ih0 _ _ _ _ _ _ _ _ _ _
   | exact ih1 _ _ _ _ _ _ _ _ _ _
   | exact ih2 _ _ _ _ _ _
   | exact downpourlaw03_alive.mono _
   | exact downpourlaw03_few.mono _ _ _
   | exact downpourref03_One.mono _ _
   | exact downpourref03_Right.mono _ _ _
   | exact downpourref03_Same.mono _ _ _ _ _
   | exact downpourref03_Turn.mono _ _ _
   | exact matrix_Like.mono _ _ _ _ _
   | exact matrix_One.mono _ _
   | exact matrix_Right.mono _ _ _
   | exact matrix_Turn.mono _ _ _
   | exact LeO.none _
   | refine LeO.ite ?_ ?_
   | refine LeO.bind ?_ (fun _ => ?_)
  ·
   intro y0 y1 y2 y3 y4 y5 y6 y7 y8 y9
   unfold downpourlaw03_MatrixTurns.j1
   repeat' first
   | (with_reducible exact ih0 _ _ _ _ _ _ _ _ _ _)
   | (with_reducible exact ih1 _ _ _ _ _ _ _ _ _ _)
   | (with_reducible exact ih2 _ _ _ _ _ _)
   | (with_reducible exact downpourlaw03_alive.mono _)
   | (with_reducible exact downpourlaw03_few.mono _ _ _)
   | (with_reducible exact downpourref03_One.mono _ _)
   | (with_reducible exact downpourref03_Right.mono _ _ _)
   | (with_reducible exact downpourref03_Same.mono _ _ _ _ _)
   | (with_reducible exact downpourref03_Turn.mono _ _ _)
   | (with_reducible exact matrix_Like.mono _ _ _ _ _)
   | (with_reducible exact matrix_One.mono _ _)
   | (with_reducible exact matrix_Right.mono _ _ _)
   | (with_reducible exact matrix_Turn.mono _ _ _)
   | (with_reducible exact LeO.refl _)
   | (with_reducible exact LeO.none _)
   | (with_reducible refine LeO.ite ?_ ?_)
   | (with_reducible refine LeO.bind ?_ (fun _ => ?_))
   | exact ih0 _ _ _ _ _ _ _ _ _ _
   | exact ih1 _ _ _ _ _ _ _ _ _ _
   | exact ih2 _ _ _ _ _ _
   | exact downpourlaw03_alive.mono _
   | exact downpourlaw03_few.mono _ _ _
   | exact downpourref03_One.mono _ _
   | exact downpourref03_Right.mono _ _ _
   | exact downpourref03_Same.mono _ _ _ _ _
   | exact downpourref03_Turn.mono _ _ _
   | exact matrix_Like.mono _ _ _ _ _
   | exact matrix_One.mono _ _
   | exact matrix_Right.mono _ _ _
   | exact matrix_Turn.mono _ _ _
   | exact LeO.none _
   | refine LeO.ite ?_ ?_
   | refine LeO.bind ?_ (fun _ => ?_)
  ·
   intro y0 y1 y2 y3 y4 y5
   unfold downpourlaw03_MatrixTurns.j2
   repeat' first
   | (with_reducible exact ih0 _ _ _ _ _ _ _ _ _ _)
   | (with_reducible exact ih1 _ _ _ _ _ _ _ _ _ _)
   | (with_reducible exact ih2 _ _ _ _ _ _)
   | (with_reducible exact downpourlaw03_alive.mono _)
   | (with_reducible exact downpourlaw03_few.mono _ _ _)
   | (with_reducible exact downpourref03_One.mono _ _)
   | (with_reducible exact downpourref03_Right.mono _ _ _)
   | (with_reducible exact downpourref03_Same.mono _ _ _ _ _)
   | (with_reducible exact downpourref03_Turn.mono _ _ _)
   | (with_reducible exact matrix_Like.mono _ _ _ _ _)
   | (with_reducible exact matrix_One.mono _ _)
   | (with_reducible exact matrix_Right.mono _ _ _)
   | (with_reducible exact matrix_Turn.mono _ _ _)
   | (with_reducible exact LeO.refl _)
   | (with_reducible exact LeO.none _)
   | (with_reducible refine LeO.ite ?_ ?_)
   | (with_reducible refine LeO.bind ?_ (fun _ => ?_))
   | exact ih0 _ _ _ _ _ _ _ _ _ _
   | exact ih1 _ _ _ _ _ _ _ _ _ _
   | exact ih2 _ _ _ _ _ _
   | exact downpourlaw03_alive.mono _
   | exact downpourlaw03_few.mono _ _ _
   | exact downpourref03_One.mono _ _
   | exact downpourref03_Right.mono _ _ _
   | exact downpourref03_Same.mono _ _ _ _ _
   | exact downpourref03_Turn.mono _ _ _
   | exact matrix_Like.mono _ _ _ _ _
   | exact matrix_One.mono _ _
   | exact matrix_Right.mono _ _ _
   | exact matrix_Turn.mono _ _ _
   | exact LeO.none _
   | refine LeO.ite ?_ ?_
   | refine LeO.bind ?_ (fun _ => ?_)
theorem downpourlaw03_MatrixTurns.mono : ∀ a0 a1 a2 a3 a4 k, LeO (downpourlaw03_MatrixTurns.f k a0 a1 a2 a3 a4) (downpourlaw03_MatrixTurns.f (k + 1) a0 a1 a2 a3 a4) := by
 intro a0 a1 a2 a3 a4 k
 obtain ⟨ih0, ih1, ih2⟩ := downpourlaw03_MatrixTurns.mono_l k
 unfold downpourlaw03_MatrixTurns.f
 repeat' first
   | (with_reducible exact ih0 _ _ _ _ _ _ _ _ _ _)
   | (with_reducible exact ih1 _ _ _ _ _ _ _ _ _ _)
   | (with_reducible exact ih2 _ _ _ _ _ _)
   | (with_reducible exact downpourlaw03_alive.mono _)
   | (with_reducible exact downpourlaw03_few.mono _ _ _)
   | (with_reducible exact downpourref03_One.mono _ _)
   | (with_reducible exact downpourref03_Right.mono _ _ _)
   | (with_reducible exact downpourref03_Same.mono _ _ _ _ _)
   | (with_reducible exact downpourref03_Turn.mono _ _ _)
   | (with_reducible exact matrix_Like.mono _ _ _ _ _)
   | (with_reducible exact matrix_One.mono _ _)
   | (with_reducible exact matrix_Right.mono _ _ _)
   | (with_reducible exact matrix_Turn.mono _ _ _)
   | (with_reducible exact LeO.refl _)
   | (with_reducible exact LeO.none _)
   | (with_reducible refine LeO.ite ?_ ?_)
   | (with_reducible refine LeO.bind ?_ (fun _ => ?_))
   | exact ih0 _ _ _ _ _ _ _ _ _ _
   | exact ih1 _ _ _ _ _ _ _ _ _ _
   | exact ih2 _ _ _ _ _ _
   | exact downpourlaw03_alive.mono _
   | exact downpourlaw03_few.mono _ _ _
   | exact downpourref03_One.mono _ _
   | exact downpourref03_Right.mono _ _ _
   | exact downpourref03_Same.mono _ _ _ _ _
   | exact downpourref03_Turn.mono _ _ _
   | exact matrix_Like.mono _ _ _ _ _
   | exact matrix_One.mono _ _
   | exact matrix_Right.mono _ _ _
   | exact matrix_Turn.mono _ _ _
   | exact LeO.none _
   | refine LeO.ite ?_ ?_
   | refine LeO.bind ?_ (fun _ => ?_)
def downpourlaw03_MatrixTurns.T4 : Bool × List (List Nat × List Nat) := (true, [([], []), ([0], [0]), ([], []), ([2, 1], [2]), ([1, 3], [1, 3]), ([4, 3], [4]), ([5], [5]), ([5], [5]), ([6, 7, 5, 5], [5, 6, 7]), ([5], [5]), ([5], [5]), ([9, 10, 8, 5], [5, 9, 10]), ([8, 11, 5], [5, 8, 11]), ([5, 12], [5, 12]), ([13, 11], [13]), ([14], [14]), ([14], [14]), ([15, 16, 14, 14], [14, 15, 16]), ([17, 14], [14, 17]), ([14, 18], [14, 18]), ([19, 17], [19]), ([20, 20], [20]), ([21, 20], [20, 21]), ([20, 22], [20, 22])])
def downpourlaw03_MatrixTurns.B4 : List Nat := [0, 1, 0, 7, 15, 31, 63, 63, 255, 63, 63, 2047, 4095, 8191, 16383, 32767, 32767, 131071, 262143, 524287, 1048575, 2097151, 4194303, 8388607]
theorem downpourlaw03_MatrixTurns.tab4 : rtab .any (opsOf Try.f8 4) = downpourlaw03_MatrixTurns.T4 := by kernel_rfl
theorem downpourlaw03_MatrixTurns.bits4 : waitsOk downpourlaw03_MatrixTurns.T4.2 downpourlaw03_MatrixTurns.B4 = true := by kernel_rfl
def downpourlaw03_MatrixTurns.T7 : Bool × List (List Nat × List Nat) := (true, [([], []), ([0], [0]), ([1], [1]), ([2, 1], [1, 2]), ([3, 1, 1], [1, 3]), ([4], [4]), ([4], [4]), ([6, 4, 4], [4, 6]), ([5, 7, 7, 4], [4, 5, 7]), ([8, 4], [4, 8]), ([4, 9, 1], [1, 4, 9]), ([1, 10], [1, 10]), ([11, 8], [11]), ([12], [12]), ([13, 12], [12, 13]), ([14, 12, 12], [12, 14]), ([15], [15]), ([16, 15], [15, 16]), ([17, 15, 15], [15, 17]), ([18], [18]), ([18], [18]), ([19, 20, 18, 18], [18, 19, 20]), ([21, 18], [18, 21]), ([18, 22, 15], [15, 18, 22]), ([15, 23, 12], [12, 15, 23]), ([12, 24], [12, 24])])
def downpourlaw03_MatrixTurns.B7 : List Nat := [0, 1, 3, 7, 15, 31, 31, 95, 255, 511, 1023, 2047, 4095, 8191, 16383, 32767, 65535, 131071, 262143, 524287, 524287, 2097151, 4194303, 8388607, 16777215, 33554431]
theorem downpourlaw03_MatrixTurns.tab7 : rtab .any (opsOf Try.f8 7) = downpourlaw03_MatrixTurns.T7 := by kernel_rfl
theorem downpourlaw03_MatrixTurns.bits7 : waitsOk downpourlaw03_MatrixTurns.T7.2 downpourlaw03_MatrixTurns.B7 = true := by kernel_rfl
def downpourlaw03_MatrixTurns.T11 : Bool × List (List Nat × List Nat) := (true, [([], []), ([0], [0]), ([1], [1]), ([2], [2]), ([2], [2]), ([4, 2, 2], [2, 4]), ([3, 5, 5, 2], [2, 3, 5]), ([2, 6], [2, 6]), ([7, 6, 0, 1, 2, 3, 4, 5, 6, 7], [7])])
def downpourlaw03_MatrixTurns.B11 : List Nat := [0, 1, 3, 7, 7, 23, 63, 127, 255]
theorem downpourlaw03_MatrixTurns.tab11 : rtab .any (opsOf Try.f8 11) = downpourlaw03_MatrixTurns.T11 := by kernel_rfl
theorem downpourlaw03_MatrixTurns.bits11 : waitsOk downpourlaw03_MatrixTurns.T11.2 downpourlaw03_MatrixTurns.B11 = true := by kernel_rfl
set_option maxHeartbeats 8000000 in
set_option maxRecDepth 100000 in
theorem downpourlaw03_MatrixTurns.calls (k : Nat) (a0_0 : Int) (A0_1 : Option Addr) (c0_1 : Nat) (l0_1 : List (S25)) (a1_0 : Int) (A1_1 : Option Addr) (c1_1 : Nat) (l1_1 : List (S25)) (a2 : Int) (r : Bool) (w : World) (hr0_1 : Kd.C k25 w A0_1 l0_1.length l0_1) (hc0_1 : l0_1.length ≤ c0_1) (hr1_1 : Kd.C k25 w A1_1 l1_1.length l1_1) (hc1_1 : l1_1.length ≤ c1_1) (h : downpourlaw03_MatrixTurns.f k a0_0 l0_1 a1_0 l1_1 a2 = some r) :
  Calls Try.prog 8 #[.agg #[.int .i64 a0_0, .slice A0_1 l0_1.length c0_1], .agg #[.int .i64 a1_0, .slice A1_1 l1_1.length c1_1], .int .i64 a2] w fun e w' => e = .returned (.bool r) ∧ Below w.heap.size w w' := by
 have hu42 := Try.underlying42
 have HR0_1 := Aside0.mk hr0_1
 have HC0_1 := Aside0.mk hc0_1
 clear hr0_1 hc0_1
 have HR1_1 := Aside0.mk hr1_1
 have HC1_1 := Aside0.mk hc1_1
 clear hr1_1 hc1_1
 have HB := am (Below.refl w.heap.size w)
 have H : ((downpourlaw03_few.f k a0_0 l0_1).bind fun bt322 => ((downpourlaw03_few.f k a1_0 l1_1).bind fun bt326 => ((matrix_Turn.f k bt322.1 bt322.2).bind fun bt330 => ((matrix_One.f k a2).bind fun bt336 => ((matrix_Right.f k bt322.1 bt322.2).bind fun t342 => ((downpourref03_Right.f k bt322.1 bt322.2).bind fun t343 => (if (t342 != t343) = true then (downpourlaw03_MatrixTurns.j0 k a2 bt330.2.2 bt336.2.2 true bt322.1 bt322.2 bt330.1 bt330.2.1 bt336.1 bt336.2.1) else ((matrix_Like.f k bt322.1 bt322.2 bt326.1 bt326.2).bind fun t344 => ((downpourref03_Same.f k bt322.1 bt322.2 bt326.1 bt326.2).bind fun t345 => (if (t344 != t345) = true then (downpourlaw03_MatrixTurns.j0 k a2 bt330.2.2 bt336.2.2 true bt322.1 bt322.2 bt330.1 bt330.2.1 bt336.1 bt336.2.1) else ((matrix_Like.f k bt322.1 bt322.2 bt322.1 bt322.2).bind fun t346 => (if t346 = true then ((downpourlaw03_alive.f k).bind fun t347 => (downpourlaw03_MatrixTurns.j0 k a2 bt330.2.2 bt336.2.2 (!t347) bt322.1 bt322.2 bt330.1 bt330.2.1 bt336.1 bt336.2.1)) else (downpourlaw03_MatrixTurns.j0 k a2 bt330.2.2 bt336.2.2 true bt322.1 bt322.2 bt330.1 bt330.2.1 bt336.1 bt336.2.1))))))))))))) = some r := h
 clear h
 replace H := Option.bind_eq_some_iff.mp H
 obtain ⟨⟨t322, t323⟩, A40, H⟩ := H
 replace H : ((downpourlaw03_few.f k a1_0 l1_1).bind fun bt326 => ((matrix_Turn.f k t322 t323).bind fun bt330 => ((matrix_One.f k a2).bind fun bt336 => ((matrix_Right.f k t322 t323).bind fun t342 => ((downpourref03_Right.f k t322 t323).bind fun t343 => (if (t342 != t343) = true then (downpourlaw03_MatrixTurns.j0 k a2 bt330.2.2 bt336.2.2 true t322 t323 bt330.1 bt330.2.1 bt336.1 bt336.2.1) else ((matrix_Like.f k t322 t323 bt326.1 bt326.2).bind fun t344 => ((downpourref03_Same.f k t322 t323 bt326.1 bt326.2).bind fun t345 => (if (t344 != t345) = true then (downpourlaw03_MatrixTurns.j0 k a2 bt330.2.2 bt336.2.2 true t322 t323 bt330.1 bt330.2.1 bt336.1 bt336.2.1) else ((matrix_Like.f k t322 t323 t322 t323).bind fun t346 => (if t346 = true then ((downpourlaw03_alive.f k).bind fun t347 => (downpourlaw03_MatrixTurns.j0 k a2 bt330.2.2 bt336.2.2 (!t347) t322 t323 bt330.1 bt330.2.1 bt336.1 bt336.2.1)) else (downpourlaw03_MatrixTurns.j0 k a2 bt330.2.2 bt336.2.2 true t322 t323 bt330.1 bt330.2.1 bt336.1 bt336.2.1)))))))))))) = some r := H
 have A4 := Aside0.mk A40
 clear A40
 replace H := Option.bind_eq_some_iff.mp H
 obtain ⟨⟨t326, t327⟩, A50, H⟩ := H
 replace H : ((matrix_Turn.f k t322 t323).bind fun bt330 => ((matrix_One.f k a2).bind fun bt336 => ((matrix_Right.f k t322 t323).bind fun t342 => ((downpourref03_Right.f k t322 t323).bind fun t343 => (if (t342 != t343) = true then (downpourlaw03_MatrixTurns.j0 k a2 bt330.2.2 bt336.2.2 true t322 t323 bt330.1 bt330.2.1 bt336.1 bt336.2.1) else ((matrix_Like.f k t322 t323 t326 t327).bind fun t344 => ((downpourref03_Same.f k t322 t323 t326 t327).bind fun t345 => (if (t344 != t345) = true then (downpourlaw03_MatrixTurns.j0 k a2 bt330.2.2 bt336.2.2 true t322 t323 bt330.1 bt330.2.1 bt336.1 bt336.2.1) else ((matrix_Like.f k t322 t323 t322 t323).bind fun t346 => (if t346 = true then ((downpourlaw03_alive.f k).bind fun t347 => (downpourlaw03_MatrixTurns.j0 k a2 bt330.2.2 bt336.2.2 (!t347) t322 t323 bt330.1 bt330.2.1 bt336.1 bt336.2.1)) else (downpourlaw03_MatrixTurns.j0 k a2 bt330.2.2 bt336.2.2 true t322 t323 bt330.1 bt330.2.1 bt336.1 bt336.2.1))))))))))) = some r := H
 have A5 := Aside0.mk A50
 clear A50
 replace H := Option.bind_eq_some_iff.mp H
 obtain ⟨⟨t330, t331, t334⟩, A60, H⟩ := H
 replace H : ((matrix_One.f k a2).bind fun bt336 => ((matrix_Right.f k t322 t323).bind fun t342 => ((downpourref03_Right.f k t322 t323).bind fun t343 => (if (t342 != t343) = true then (downpourlaw03_MatrixTurns.j0 k a2 t334 bt336.2.2 true t322 t323 t330 t331 bt336.1 bt336.2.1) else ((matrix_Like.f k t322 t323 t326 t327).bind fun t344 => ((downpourref03_Same.f k t322 t323 t326 t327).bind fun t345 => (if (t344 != t345) = true then (downpourlaw03_MatrixTurns.j0 k a2 t334 bt336.2.2 true t322 t323 t330 t331 bt336.1 bt336.2.1) else ((matrix_Like.f k t322 t323 t322 t323).bind fun t346 => (if t346 = true then ((downpourlaw03_alive.f k).bind fun t347 => (downpourlaw03_MatrixTurns.j0 k a2 t334 bt336.2.2 (!t347) t322 t323 t330 t331 bt336.1 bt336.2.1)) else (downpourlaw03_MatrixTurns.j0 k a2 t334 bt336.2.2 true t322 t323 t330 t331 bt336.1 bt336.2.1)))))))))) = some r := H
 have A6 := Aside0.mk A60
 clear A60
 replace H := Option.bind_eq_some_iff.mp H
 obtain ⟨⟨t336, t337, t340⟩, A70, H⟩ := H
 replace H : ((matrix_Right.f k t322 t323).bind fun t342 => ((downpourref03_Right.f k t322 t323).bind fun t343 => (if (t342 != t343) = true then (downpourlaw03_MatrixTurns.j0 k a2 t334 t340 true t322 t323 t330 t331 t336 t337) else ((matrix_Like.f k t322 t323 t326 t327).bind fun t344 => ((downpourref03_Same.f k t322 t323 t326 t327).bind fun t345 => (if (t344 != t345) = true then (downpourlaw03_MatrixTurns.j0 k a2 t334 t340 true t322 t323 t330 t331 t336 t337) else ((matrix_Like.f k t322 t323 t322 t323).bind fun t346 => (if t346 = true then ((downpourlaw03_alive.f k).bind fun t347 => (downpourlaw03_MatrixTurns.j0 k a2 t334 t340 (!t347) t322 t323 t330 t331 t336 t337)) else (downpourlaw03_MatrixTurns.j0 k a2 t334 t340 true t322 t323 t330 t331 t336 t337))))))))) = some r := H
 have A7 := Aside0.mk A70
 clear A70
 have HC8 := Aside0.mk H
 clear H
 go_enter Try.func8, Try.ntmps8
 try go_wp2_with (first | ((with_reducible refine gate_dst (N := 3) rfl ?_); refine box_event ?hg (N := 3) ?hd (cs := #[.int .i64 a0_0, .slice A0_1 l0_1.length c0_1]) (t := 42) ?hr ?_; (case hd => rfl); (case hg => rfl); (case hr => first | (go_simp; done) | (go_simp; rfl)); intro gb320 hg w9 hbox hb; have n0_ := am (below_step (pb HB) hb); have n1_ := am (hbox); have n2_ := am ((by rw [hg]; exact (below_size (pb HB)) : w.heap.size ≤ gb320)); have n3_ := am ((by rw [hg]; exact (below_size (pb HB)) : w.heap.size ≤ gb320)); clear HB; have HB := n0_; have BK320 := n1_; have GW320 := n2_; have GE320 := n3_; clear n0_ n1_ n2_ n3_ hb hbox hg) | ((with_reducible refine gate_dst (N := 4) rfl ?_); refine box_event ?hg (N := 4) ?hd (cs := #[.int .i64 a1_0, .slice A1_1 l1_1.length c1_1]) (t := 42) ?hr ?_; (case hd => rfl); (case hg => rfl); (case hr => first | (go_simp; done) | (go_simp; rfl)); intro gb321 hg w10 hbox hb; have n0_ := bb BK320 hb; have n1_ := am (below_step (pb HB) hb); have n2_ := am (hbox); have n3_ := am ((by rw [hg]; exact (below_size (pb HB)) : w.heap.size ≤ gb321)); have n4_ := am ((by rw [hg]; exact (below_size (pb HB)) : w.heap.size ≤ gb321)); have n5_ := am ((by rw [hg]; exact Nat.ne_of_lt (bl BK320) : gb320 ≠ gb321)); have n6_ := am ((by rw [hg]; exact Nat.ne_of_gt (bl BK320) : gb321 ≠ gb320)); clear BK320 HB; have BK320 := n0_; have HB := n1_; have BK321 := n2_; have GW321 := n3_; have GE321 := n4_; have NB320_321 := n5_; have NB321_320 := n6_; clear n0_ n1_ n2_ n3_ n4_ n5_ n6_ hb hbox hg))
 have n0_ := am (blk_drew BK320.out)
 have n1_ := am (blk_drew BK321.out)
 have n2_ := am (below_drew1 HB.out)
 clear BK320
 clear BK321
 clear HB
 have BK320 := n0_
 have BK321 := n1_
 have HB := n2_
 clear n0_ n1_ n2_
 refine start_ (n := 6) (S := fun w' => w'.cell? ⟨gb320, 0, none⟩ = some (.int .i64 a0_0) ∧ w'.cell? ⟨gb320, 1, none⟩ = some (.slice A0_1 l0_1.length c0_1) ∧ w'.cell? ⟨gb321, 0, none⟩ = some (.int .i64 a1_0) ∧ w'.cell? ⟨gb321, 1, none⟩ = some (.slice A1_1 l1_1.length c1_1)) (ds := [4, 5]) #[F, F, F, F, F, F] (by kernel_rfl) rfl rfl ⟨(blk_cell BK320.out 0).trans rfl, (blk_cell BK320.out 1).trans rfl, (blk_cell BK321.out 0).trans rfl, (blk_cell BK321.out 1).trans rfl⟩ (fun hHeld => ?_)
 generalize w10.drew = w11 at BK320 BK321 HB hHeld ⊢
 refine take_ (i := 0) (N := some 12) (v := ?_) (a' := ?_) #[T, F, F, F, F, F] rfl rfl (by kernel_rfl) (fun _ _ _ h => h) (Or.inl ⟨by rfl, ?_⟩) hHeld ?_ ?_
 rotate_left
 ·
  rintro w' ⟨s0, s1, s2, s3⟩
  go_simp
  with_reducible rfl
 rotate_left
 ·
  simp only [Act.put, q1, q2, q3, i64_w, i32_w]
  rfl
 refine take_ (i := 2) (N := some 14) (v := ?_) (a' := ?_) #[T, F, T, F, F, F] rfl rfl (by kernel_rfl) (fun _ _ _ h => h) (Or.inl ⟨by rfl, ?_⟩) hHeld ?_ ?_
 rotate_left
 ·
  rintro w' ⟨s0, s1, s2, s3⟩
  go_simp
  with_reducible rfl
 rotate_left
 ·
  simp only [Act.put, q1, q2, q3, i64_w, i32_w]
  rfl
 refine one_ (i := 1) (N := some 13) #[T, T, T, F, F, F] rfl rfl (by kernel_rfl) (by decide) (fun K hK => ?_)
 refine goes_ Try.func42 (by kernel_rfl) rfl #[.agg #[.int .i64 a0_0, .slice A0_1 l0_1.length c0_1]] (by rfl) rfl rfl (by (try simp only [List.map_toArray, List.map_cons, List.map_nil]); first | done | rfl | (simp only [List.length_drop, List.length_take]; rfl)) ?_
 with_reducible refine (downpourlaw03_few.calls k a0_0 (fun k_ => k_ < w.heap.size) _ _ l0_1 t322 t323 _ ?side1 A4.out).mono ?_
 (case side1 => exact Kd.V_mk HC0_1.out (Kd.F_below (Kd.C_F k25_heap HR0_1.out) (pb HB)))
 rintro e w12 ⟨v324, rfl, ho0, hb⟩
 refine ⟨_, rfl, ?_⟩
 have n0_ := am (Kd.N_lower (Kd.N_mono (ok' := fun k_ => k_ ≠ gb320 ∧ k_ ≠ gb321) ho0 (fun k_ hk_ => ⟨Or.elim hk_ (fun hs_ => fun e_ => Nat.not_le.2 hs_ (by rw [e_]; exact GW320.out)) (fun hn_ => (Kd.freshB (g := gb320) (o := .cells #[.int .i64 a0_0, .slice A0_1 l0_1.length c0_1] 42 (0, 0)) (pk BK320) k_ hn_)), Or.elim hk_ (fun hs_ => fun e_ => Nat.not_le.2 hs_ (by rw [e_]; exact GW321.out)) (fun hn_ => (Kd.freshB (g := gb321) (o := .cells #[.int .i64 a1_0, .slice A1_1 l1_1.length c1_1] 42 (0, 0)) (pk BK321) k_ hn_))⟩)) (below_size (pb HB)))
 have n1_ := bb BK320 hb
 have n2_ := bb BK321 hb
 have n3_ := am (below_step (pb HB) hb)
 clear BK320
 clear BK321
 clear HB
 have HO325 := n0_
 have BK320 := n1_
 have BK321 := n2_
 have HB := n3_
 clear n0_ n1_ n2_ n3_
 (try clear hb)
 (try clear hb2)
 (try clear hk)
 (try clear hi)
 (try clear ho0)
 refine hK.out _ _ ⟨(blk_cell BK320.out 0).trans rfl, (blk_cell BK320.out 1).trans rfl, (blk_cell BK321.out 0).trans rfl, (blk_cell BK321.out 1).trans rfl⟩ (fun hHeld => ?_)
 clear hK K
 refine norm_ (a' := ?_) ?_ ?_
 rotate_left
 ·
  show Act.put _ (some 13) _ = _
  simp only [Act.put, q1, q2, q3, i64_w, i32_w]
  rfl
 refine one_ (i := 3) (N := some 15) #[T, T, T, T, F, F] rfl rfl (by kernel_rfl) (by decide) (fun K hK => ?_)
 refine goes_ Try.func42 (by kernel_rfl) rfl #[.agg #[.int .i64 a1_0, .slice A1_1 l1_1.length c1_1]] (by rfl) rfl rfl (by (try simp only [List.map_toArray, List.map_cons, List.map_nil]); first | done | rfl | (simp only [List.length_drop, List.length_take]; rfl)) ?_
 with_reducible refine (downpourlaw03_few.calls k a1_0 (fun k_ => k_ < w.heap.size) _ _ l1_1 t326 t327 _ ?side1 A5.out).mono ?_
 (case side1 => exact Kd.V_mk HC1_1.out (Kd.F_below (Kd.C_F k25_heap HR1_1.out) (pb HB)))
 rintro e w13 ⟨v328, rfl, ho0, hb⟩
 refine ⟨_, rfl, ?_⟩
 have n0_ := am (Kd.N_elder' (pn HO325) (by first | exact Kd.N_base ho0 | exact Kd.S_base ho0 | exact Kd.R_base ho0) hb)
 have n1_ := am (Kd.N_lower (Kd.N_mono (ok' := fun k_ => some k_ ≠ (v324 : Value).ownBlock ∧ k_ ≠ gb320 ∧ k_ ≠ gb321) ho0 (fun k_ hk_ => ⟨Or.elim hk_ (fun hs_ => fun e_ => Nat.not_le.2 hs_ (Kd.N_base HO325.out k_ e_.symm)) (fun hn_ => (Kd.fresh' (Kd.N_lt (pn HO325)) k_ hn_)), Or.elim hk_ (fun hs_ => fun e_ => Nat.not_le.2 hs_ (by rw [e_]; exact GW320.out)) (fun hn_ => (Kd.freshB (g := gb320) (o := .cells #[.int .i64 a0_0, .slice A0_1 l0_1.length c0_1] 42 (0, 0)) (pk BK320) k_ hn_)), Or.elim hk_ (fun hs_ => fun e_ => Nat.not_le.2 hs_ (by rw [e_]; exact GW321.out)) (fun hn_ => (Kd.freshB (g := gb321) (o := .cells #[.int .i64 a1_0, .slice A1_1 l1_1.length c1_1] 42 (0, 0)) (pk BK321) k_ hn_))⟩)) (below_size (pb HB)))
 have n2_ := bb BK320 hb
 have n3_ := bb BK321 hb
 have n4_ := am (below_step (pb HB) hb)
 clear HO325
 clear BK320
 clear BK321
 clear HB
 have HO325 := n0_
 have HO329 := n1_
 have BK320 := n2_
 have BK321 := n3_
 have HB := n4_
 clear n0_ n1_ n2_ n3_ n4_
 (try clear hb)
 (try clear hb2)
 (try clear hk)
 (try clear hi)
 (try clear ho0)
 obtain ⟨Ao15, co15, eo15⟩ := Kd.N_slice HO325.out
 (first | subst eo15 | (injection eo15 with f1_ f2_ f3_; have f4_ := f1_.symm; have f5_ := f3_.symm; clear f1_ f2_ f3_; subst f4_; subst f5_))
 obtain ⟨Ao18, co18, eo18⟩ := Kd.N_slice HO329.out
 (first | subst eo18 | (injection eo18 with f1_ f2_ f3_; have f4_ := f1_.symm; have f5_ := f3_.symm; clear f1_ f2_ f3_; subst f4_; subst f5_))
 refine hK.out _ _ ⟨(blk_cell BK320.out 0).trans rfl, (blk_cell BK320.out 1).trans rfl, (blk_cell BK321.out 0).trans rfl, (blk_cell BK321.out 1).trans rfl⟩ (fun hHeld => ?_)
 clear hK K
 refine norm_ (a' := ?_) ?_ ?_
 rotate_left
 ·
  show Act.put _ (some 15) _ = _
  simp only [Act.put, q1, q2, q3, i64_w, i32_w]
  rfl
 refine last_ (i := 4) (N := none) #[T, T, T, T, T, F] rfl rfl (by kernel_rfl) (by decide) (fun K hK => ?_)
 have hs14 : w13.cell? ⟨gb320, 0, none⟩ = some (.int .i64 a0_0) := (blk_cell BK320.out 0).trans rfl
 have hfs14 := blk_frozen BK320.out 0
 have hns14_1 := NB321_320.out
 have hms14_1 := NB320_321.out
 have hs16 : w13.cell? ⟨gb320, 1, none⟩ = some (.slice A0_1 l0_1.length c0_1) := (blk_cell BK320.out 1).trans rfl
 have hfs16 := blk_frozen BK320.out 1
 have hns16_1 := NB321_320.out
 have hms16_1 := NB320_321.out
 refine skip_ (w1 := ?_) (by rfl) rfl ?_ ?_
 rotate_left
 ·
  go_simp
  rfl
 refine hK.out _ _ ?_
 clear hK K
 refine last_ (i := 5) (N := none) #[T, T, T, T, T, T] rfl rfl (by kernel_rfl) (by decide) (fun K hK => ?_)
 have hs17 : w13.cell? ⟨gb321, 0, none⟩ = some (.int .i64 a1_0) := (blk_cell BK321.out 0).trans rfl
 have hfs17 := blk_frozen BK321.out 0
 have hns17_0 := NB320_321.out
 have hms17_0 := NB321_320.out
 have hs19 : w13.cell? ⟨gb321, 1, none⟩ = some (.slice A1_1 l1_1.length c1_1) := (blk_cell BK321.out 1).trans rfl
 have hfs19 := blk_frozen BK321.out 1
 have hns19_0 := NB320_321.out
 have hms19_0 := NB321_320.out
 refine skip_ (w1 := ?_) (by rfl) rfl ?_ ?_
 rotate_left
 ·
  go_simp
  rfl
 refine hK.out _ _ ?_
 clear hK K
 refine done_ (by kernel_rfl) ?_
 have hnb20 := NB320_321.out
 have hnc20 := NB321_320.out
 have hcz21_0 : w13.cell? ⟨gb320, 0, none⟩ = some (.int .i64 a0_0) := (blk_cell BK320.out 0).trans rfl
 have hcz21_1 : w13.cell? ⟨gb320, 1, none⟩ = some (.slice A0_1 l0_1.length c0_1) := (blk_cell BK320.out 1).trans rfl
 have hfz21_0 := blk_frozen BK320.out 0
 have hfz21_1 := blk_frozen BK320.out 1
 go_upto_region 4 with (first | ((with_reducible refine gate_callee (f := 43) rfl ?_); refine goesL_ (some 18) rfl rfl Try.func43 (by kernel_rfl) rfl #[.agg #[.int .i64 t322, .slice Ao15 t323.length co15]] rfl (by (try simp only [List.map_toArray, List.map_cons, List.map_nil]); first | done | rfl | (simp only [List.length_drop, List.length_take]; rfl)) ?_; (with_reducible refine (matrix_Turn.calls k t322 _ _ t323 t330 t331 t334 _ ?side1 ?side2 A6.out).mono ?_); (case side1 => refine (Kd.N_reads' (e := 25) (base := w.heap.size) (ok := fun k_ => ((k_ ≠ gb320 ∧ k_ ≠ gb321) ∧ some k_ ≠ (.slice Ao18 t327.length co18 : Value).ownBlock)) (n := t323.length) (c := co15) ?_).2.2; exact (by (with_reducible repeat (first | apply Kd.N_alloc | apply Kd.N_drewN | apply Kd.N_drew)); exact (Kd.N_mono (Kd.N_mono (Kd.N_far (p := ⟨gb321, 1, none⟩) (Kd.N_far (p := ⟨gb321, 0, none⟩) (Kd.N_far (p := ⟨gb320, 1, none⟩) (Kd.N_far (p := ⟨gb320, 0, none⟩) (Kd.N_mono (Kd.N_mono HO325.out (fun k_ hk => (⟨hk, hk.1.1⟩ : _ ∧ k_ ≠ gb320))) (fun k_ hk => (⟨hk, hk.1.1.2⟩ : _ ∧ k_ ≠ gb321))) (fun _ hk => hk.1.2) (.int .i64 t322)) (fun _ hk => hk.1.2) (.slice Ao15 t323.length co15)) (fun _ hk => hk.2) (.int .i64 t326)) (fun _ hk => hk.2) (.slice Ao18 t327.length co18)) (fun _ h_ => h_.1)) (fun _ h_ => h_.1)))); (case side2 => exact (Kd.N_reads' HO325.out).2.1); rintro e w22 ⟨v332, rfl, ho0, hb⟩; refine ⟨_, rfl, ?_⟩; have n0_ := am (Kd.N_elder' (by (with_reducible repeat (first | apply Kd.N_alloc | apply Kd.N_drewN | apply Kd.N_drew)); exact (Kd.N_mono (Kd.N_mono (Kd.N_far (p := ⟨gb321, 1, none⟩) (Kd.N_far (p := ⟨gb321, 0, none⟩) (Kd.N_far (p := ⟨gb320, 1, none⟩) (Kd.N_far (p := ⟨gb320, 0, none⟩) (Kd.N_mono (Kd.N_mono HO325.out (fun k_ hk => (⟨hk, hk.1.1⟩ : _ ∧ k_ ≠ gb320))) (fun k_ hk => (⟨hk, hk.1.1.2⟩ : _ ∧ k_ ≠ gb321))) (fun _ hk => hk.1.2) (.int .i64 t322)) (fun _ hk => hk.1.2) (.slice Ao15 t323.length co15)) (fun _ hk => hk.2) (.int .i64 t326)) (fun _ hk => hk.2) (.slice Ao18 t327.length co18)) (fun _ h_ => h_.1)) (fun _ h_ => h_.1))) (by first | exact Kd.N_base ho0 | exact Kd.S_base ho0 | exact Kd.R_base ho0) hb); have n1_ := am (Kd.N_elder' (by (with_reducible repeat (first | apply Kd.N_alloc | apply Kd.N_drewN | apply Kd.N_drew)); exact (Kd.N_mono (Kd.N_mono (Kd.N_far (p := ⟨gb321, 1, none⟩) (Kd.N_far (p := ⟨gb321, 0, none⟩) (Kd.N_far (p := ⟨gb320, 1, none⟩) (Kd.N_far (p := ⟨gb320, 0, none⟩) (Kd.N_mono (Kd.N_mono HO329.out (fun k_ hk => (⟨hk, hk.2.1⟩ : _ ∧ k_ ≠ gb320))) (fun k_ hk => (⟨hk, hk.1.2.2⟩ : _ ∧ k_ ≠ gb321))) (fun _ hk => hk.1.2) (.int .i64 t322)) (fun _ hk => hk.1.2) (.slice Ao15 t323.length co15)) (fun _ hk => hk.2) (.int .i64 t326)) (fun _ hk => hk.2) (.slice Ao18 t327.length co18)) (fun _ h_ => h_.1)) (fun _ h_ => h_.1))) (by first | exact Kd.N_base ho0 | exact Kd.S_base ho0 | exact Kd.R_base ho0) hb); have n2_ := am (Kd.N_lower (Kd.N_mono (ok' := fun k_ => some k_ ≠ (.slice Ao15 t323.length co15 : Value).ownBlock ∧ some k_ ≠ (.slice Ao18 t327.length co18 : Value).ownBlock ∧ k_ ≠ gb320 ∧ k_ ≠ gb321) (Kd.S_N (Kd.S_bound ho0)) (fun k_ hk_ => ⟨(Kd.fresh' (Kd.N_lt (by (with_reducible repeat (first | apply Kd.N_alloc | apply Kd.N_drewN | apply Kd.N_drew)); exact (Kd.N_mono (Kd.N_mono (Kd.N_far (p := ⟨gb321, 1, none⟩) (Kd.N_far (p := ⟨gb321, 0, none⟩) (Kd.N_far (p := ⟨gb320, 1, none⟩) (Kd.N_far (p := ⟨gb320, 0, none⟩) (Kd.N_mono (Kd.N_mono HO325.out (fun k_ hk => (⟨hk, hk.1.1⟩ : _ ∧ k_ ≠ gb320))) (fun k_ hk => (⟨hk, hk.1.1.2⟩ : _ ∧ k_ ≠ gb321))) (fun _ hk => hk.1.2) (.int .i64 t322)) (fun _ hk => hk.1.2) (.slice Ao15 t323.length co15)) (fun _ hk => hk.2) (.int .i64 t326)) (fun _ hk => hk.2) (.slice Ao18 t327.length co18)) (fun _ h_ => h_.1)) (fun _ h_ => h_.1)))) k_ hk_.2.1), (Kd.fresh' (Kd.N_lt (by (with_reducible repeat (first | apply Kd.N_alloc | apply Kd.N_drewN | apply Kd.N_drew)); exact (Kd.N_mono (Kd.N_mono (Kd.N_far (p := ⟨gb321, 1, none⟩) (Kd.N_far (p := ⟨gb321, 0, none⟩) (Kd.N_far (p := ⟨gb320, 1, none⟩) (Kd.N_far (p := ⟨gb320, 0, none⟩) (Kd.N_mono (Kd.N_mono HO329.out (fun k_ hk => (⟨hk, hk.2.1⟩ : _ ∧ k_ ≠ gb320))) (fun k_ hk => (⟨hk, hk.1.2.2⟩ : _ ∧ k_ ≠ gb321))) (fun _ hk => hk.1.2) (.int .i64 t322)) (fun _ hk => hk.1.2) (.slice Ao15 t323.length co15)) (fun _ hk => hk.2) (.int .i64 t326)) (fun _ hk => hk.2) (.slice Ao18 t327.length co18)) (fun _ h_ => h_.1)) (fun _ h_ => h_.1)))) k_ hk_.2.1), (Kd.freshB (g := gb320) (o := .cells #[.int .i64 t322, .slice Ao15 t323.length co15] 42 (0, 0)) (by (with_reducible repeat (first | refine blk_drewN ?_ _ | refine blk_drew ?_ | refine blk_alloc ?_ _)); refine blk_far ?_ NB320_321.out _; (with_reducible repeat (first | refine blk_drewN ?_ _ | refine blk_drew ?_ | refine blk_alloc ?_ _)); refine blk_far ?_ NB320_321.out _; (with_reducible repeat (first | refine blk_drewN ?_ _ | refine blk_drew ?_ | refine blk_alloc ?_ _)); refine blk_put (cs := #[.int .i64 t322, .slice A0_1 l0_1.length c0_1]) ?_ 1 _ rfl; (with_reducible repeat (first | refine blk_drewN ?_ _ | refine blk_drew ?_ | refine blk_alloc ?_ _)); refine blk_put (cs := #[.int .i64 a0_0, .slice A0_1 l0_1.length c0_1]) ?_ 0 _ rfl; (with_reducible repeat (first | refine blk_drewN ?_ _ | refine blk_drew ?_ | refine blk_alloc ?_ _)); exact BK320.out) k_ hk_.2.1), (Kd.freshB (g := gb321) (o := .cells #[.int .i64 t326, .slice Ao18 t327.length co18] 42 (0, 0)) (by (with_reducible repeat (first | refine blk_drewN ?_ _ | refine blk_drew ?_ | refine blk_alloc ?_ _)); refine blk_put (cs := #[.int .i64 t326, .slice A1_1 l1_1.length c1_1]) ?_ 1 _ rfl; (with_reducible repeat (first | refine blk_drewN ?_ _ | refine blk_drew ?_ | refine blk_alloc ?_ _)); refine blk_put (cs := #[.int .i64 a1_0, .slice A1_1 l1_1.length c1_1]) ?_ 0 _ rfl; (with_reducible repeat (first | refine blk_drewN ?_ _ | refine blk_drew ?_ | refine blk_alloc ?_ _)); refine blk_far ?_ NB321_320.out _; (with_reducible repeat (first | refine blk_drewN ?_ _ | refine blk_drew ?_ | refine blk_alloc ?_ _)); refine blk_far ?_ NB321_320.out _; (with_reducible repeat (first | refine blk_drewN ?_ _ | refine blk_drew ?_ | refine blk_alloc ?_ _)); exact BK321.out) k_ hk_.2.1)⟩)) (below_size (pb HB))); have n3_ := am (blk_below (g := gb320) (o := .cells #[.int .i64 t322, .slice Ao15 t323.length co15] 42 (0, 0)) (by (with_reducible repeat (first | refine blk_drewN ?_ _ | refine blk_drew ?_ | refine blk_alloc ?_ _)); refine blk_far ?_ NB320_321.out _; (with_reducible repeat (first | refine blk_drewN ?_ _ | refine blk_drew ?_ | refine blk_alloc ?_ _)); refine blk_far ?_ NB320_321.out _; (with_reducible repeat (first | refine blk_drewN ?_ _ | refine blk_drew ?_ | refine blk_alloc ?_ _)); refine blk_put (cs := #[.int .i64 t322, .slice A0_1 l0_1.length c0_1]) ?_ 1 _ rfl; (with_reducible repeat (first | refine blk_drewN ?_ _ | refine blk_drew ?_ | refine blk_alloc ?_ _)); refine blk_put (cs := #[.int .i64 a0_0, .slice A0_1 l0_1.length c0_1]) ?_ 0 _ rfl; (with_reducible repeat (first | refine blk_drewN ?_ _ | refine blk_drew ?_ | refine blk_alloc ?_ _)); exact BK320.out) hb); have n4_ := am (blk_below (g := gb321) (o := .cells #[.int .i64 t326, .slice Ao18 t327.length co18] 42 (0, 0)) (by (with_reducible repeat (first | refine blk_drewN ?_ _ | refine blk_drew ?_ | refine blk_alloc ?_ _)); refine blk_put (cs := #[.int .i64 t326, .slice A1_1 l1_1.length c1_1]) ?_ 1 _ rfl; (with_reducible repeat (first | refine blk_drewN ?_ _ | refine blk_drew ?_ | refine blk_alloc ?_ _)); refine blk_put (cs := #[.int .i64 a1_0, .slice A1_1 l1_1.length c1_1]) ?_ 0 _ rfl; (with_reducible repeat (first | refine blk_drewN ?_ _ | refine blk_drew ?_ | refine blk_alloc ?_ _)); refine blk_far ?_ NB321_320.out _; (with_reducible repeat (first | refine blk_drewN ?_ _ | refine blk_drew ?_ | refine blk_alloc ?_ _)); refine blk_far ?_ NB321_320.out _; (with_reducible repeat (first | refine blk_drewN ?_ _ | refine blk_drew ?_ | refine blk_alloc ?_ _)); exact BK321.out) hb); have n5_ := am (below_step (pb HB) hb); clear HO325 HO329 BK320 BK321 HB; have HO325 := n0_; have HO329 := n1_; have HO333 := n2_; have BK320 := n3_; have BK321 := n4_; have HB := n5_; clear n0_ n1_ n2_ n3_ n4_ n5_; (try clear hb); (try clear hb2); (try clear hk); (try clear hi); (try clear ho0)) | ((with_reducible refine gate_dst (N := 7) rfl ?_); refine box_event ?hg (N := 7) ?hd (cs := #[.int .i64 0, .slice none 0 0]) (t := 42) ?hr ?_; (case hd => rfl); (case hg => rfl); (case hr => first | (go_simp; done) | (go_simp; rfl)); intro gb335 hg w23 hbox hb; have n0_ := am (Kd.N_below (Kd.N_elderB (pn HO325) gb335 (Nat.le_of_eq hg.symm)) hb); have n1_ := am (Kd.N_below (Kd.N_elderB (pn HO329) gb335 (Nat.le_of_eq hg.symm)) hb); have n2_ := am (Kd.N_below (Kd.N_elderB (pn HO333) gb335 (Nat.le_of_eq hg.symm)) hb); have n3_ := bb BK320 hb; have n4_ := bb BK321 hb; have n5_ := am (below_step (pb HB) hb); have n6_ := am (hbox); have n7_ := am ((by rw [hg]; exact (below_size (pb HB)) : w.heap.size ≤ gb335)); have n8_ := am ((by rw [hg]; exact (below_size (pb HB)) : w.heap.size ≤ gb335)); have n9_ := am ((by rw [hg]; exact Nat.ne_of_lt (bl BK320) : gb320 ≠ gb335)); have n10_ := am ((by rw [hg]; exact Nat.ne_of_gt (bl BK320) : gb335 ≠ gb320)); have n11_ := am ((by rw [hg]; exact Nat.ne_of_lt (bl BK321) : gb321 ≠ gb335)); have n12_ := am ((by rw [hg]; exact Nat.ne_of_gt (bl BK321) : gb335 ≠ gb321)); clear HO325 HO329 HO333 BK320 BK321 HB; have HO325 := n0_; have HO329 := n1_; have HO333 := n2_; have BK320 := n3_; have BK321 := n4_; have HB := n5_; have BK335 := n6_; have GW335 := n7_; have GE335 := n8_; have NB320_335 := n9_; have NB335_320 := n10_; have NB321_335 := n11_; have NB335_321 := n12_; clear n0_ n1_ n2_ n3_ n4_ n5_ n6_ n7_ n8_ n9_ n10_ n11_ n12_ hb hbox hg; have hnb24 := NB335_320.out; have hnc24 := NB320_335.out; have hnb25 := NB335_321.out; have hnc25 := NB321_335.out; have hcz26_0 : w23.cell? ⟨gb335, 0, none⟩ = some (.int .i64 0) := (blk_cell BK335.out 0).trans rfl; have hcz26_1 : w23.cell? ⟨gb335, 1, none⟩ = some (.slice none 0 0) := (blk_cell BK335.out 1).trans rfl; have hfz26_0 := blk_frozen BK335.out 0; have hfz26_1 := blk_frozen BK335.out 1; obtain ⟨Ao27, co27, eo27⟩ := Kd.N_slice HO333.out; subst eo27) | ((with_reducible refine gate_callee (f := 44) rfl ?_); refine goesL_ (some 23) rfl rfl Try.func44 (by kernel_rfl) rfl #[.int .i64 a2] rfl (by (try simp only [List.map_toArray, List.map_cons, List.map_nil]); first | done | rfl | (simp only [List.length_drop, List.length_take]; rfl)) ?_; (with_reducible refine (matrix_One.calls k a2 t336 t337 t340 _ A7.out).mono ?_); rintro e w28 ⟨v338, rfl, ho0, hb⟩; refine ⟨_, rfl, ?_⟩; have n0_ := am (Kd.N_elder' (by (with_reducible repeat (first | apply Kd.N_alloc | apply Kd.N_drewN | apply Kd.N_drew)); exact (Kd.N_mono (Kd.N_far (p := ⟨gb335, 1, none⟩) (Kd.N_far (p := ⟨gb335, 0, none⟩) (Kd.N_mono HO325.out (fun k_ hk => (⟨hk, hk.2⟩ : _ ∧ k_ ≠ gb335))) (fun _ hk => hk.2) (.int .i64 t330)) (fun _ hk => hk.2) (.slice Ao27 t331.length co27)) (fun _ h_ => h_.1))) (by first | exact Kd.N_base ho0 | exact Kd.S_base ho0 | exact Kd.R_base ho0) hb); have n1_ := am (Kd.N_elder' (by (with_reducible repeat (first | apply Kd.N_alloc | apply Kd.N_drewN | apply Kd.N_drew)); exact (Kd.N_mono (Kd.N_far (p := ⟨gb335, 1, none⟩) (Kd.N_far (p := ⟨gb335, 0, none⟩) (Kd.N_mono HO329.out (fun k_ hk => (⟨hk, hk.2⟩ : _ ∧ k_ ≠ gb335))) (fun _ hk => hk.2) (.int .i64 t330)) (fun _ hk => hk.2) (.slice Ao27 t331.length co27)) (fun _ h_ => h_.1))) (by first | exact Kd.N_base ho0 | exact Kd.S_base ho0 | exact Kd.R_base ho0) hb); have n2_ := am (Kd.N_elder' (by (with_reducible repeat (first | apply Kd.N_alloc | apply Kd.N_drewN | apply Kd.N_drew)); exact (Kd.N_mono (Kd.N_far (p := ⟨gb335, 1, none⟩) (Kd.N_far (p := ⟨gb335, 0, none⟩) (Kd.N_mono HO333.out (fun k_ hk => (⟨hk, hk.2⟩ : _ ∧ k_ ≠ gb335))) (fun _ hk => hk.2) (.int .i64 t330)) (fun _ hk => hk.2) (.slice Ao27 t331.length co27)) (fun _ h_ => h_.1))) (by first | exact Kd.N_base ho0 | exact Kd.S_base ho0 | exact Kd.R_base ho0) hb); have n3_ := am (Kd.N_lower (Kd.N_mono (ok' := fun k_ => some k_ ≠ (.slice Ao15 t323.length co15 : Value).ownBlock ∧ some k_ ≠ (.slice Ao18 t327.length co18 : Value).ownBlock ∧ some k_ ≠ (.slice Ao27 t331.length co27 : Value).ownBlock ∧ k_ ≠ gb320 ∧ k_ ≠ gb321 ∧ k_ ≠ gb335) (Kd.S_N (Kd.S_bound ho0)) (fun k_ hk_ => ⟨(Kd.fresh' (Kd.N_lt (by (with_reducible repeat (first | apply Kd.N_alloc | apply Kd.N_drewN | apply Kd.N_drew)); exact (Kd.N_mono (Kd.N_far (p := ⟨gb335, 1, none⟩) (Kd.N_far (p := ⟨gb335, 0, none⟩) (Kd.N_mono HO325.out (fun k_ hk => (⟨hk, hk.2⟩ : _ ∧ k_ ≠ gb335))) (fun _ hk => hk.2) (.int .i64 t330)) (fun _ hk => hk.2) (.slice Ao27 t331.length co27)) (fun _ h_ => h_.1)))) k_ hk_.2.1), (Kd.fresh' (Kd.N_lt (by (with_reducible repeat (first | apply Kd.N_alloc | apply Kd.N_drewN | apply Kd.N_drew)); exact (Kd.N_mono (Kd.N_far (p := ⟨gb335, 1, none⟩) (Kd.N_far (p := ⟨gb335, 0, none⟩) (Kd.N_mono HO329.out (fun k_ hk => (⟨hk, hk.2⟩ : _ ∧ k_ ≠ gb335))) (fun _ hk => hk.2) (.int .i64 t330)) (fun _ hk => hk.2) (.slice Ao27 t331.length co27)) (fun _ h_ => h_.1)))) k_ hk_.2.1), (Kd.fresh' (Kd.N_lt (by (with_reducible repeat (first | apply Kd.N_alloc | apply Kd.N_drewN | apply Kd.N_drew)); exact (Kd.N_mono (Kd.N_far (p := ⟨gb335, 1, none⟩) (Kd.N_far (p := ⟨gb335, 0, none⟩) (Kd.N_mono HO333.out (fun k_ hk => (⟨hk, hk.2⟩ : _ ∧ k_ ≠ gb335))) (fun _ hk => hk.2) (.int .i64 t330)) (fun _ hk => hk.2) (.slice Ao27 t331.length co27)) (fun _ h_ => h_.1)))) k_ hk_.2.1), (Kd.freshB (g := gb320) (o := .cells #[.int .i64 t322, .slice Ao15 t323.length co15] 42 (0, 0)) (by (with_reducible repeat (first | refine blk_drewN ?_ _ | refine blk_drew ?_ | refine blk_alloc ?_ _)); refine blk_far ?_ NB320_335.out _; (with_reducible repeat (first | refine blk_drewN ?_ _ | refine blk_drew ?_ | refine blk_alloc ?_ _)); refine blk_far ?_ NB320_335.out _; (with_reducible repeat (first | refine blk_drewN ?_ _ | refine blk_drew ?_ | refine blk_alloc ?_ _)); exact BK320.out) k_ hk_.2.1), (Kd.freshB (g := gb321) (o := .cells #[.int .i64 t326, .slice Ao18 t327.length co18] 42 (0, 0)) (by (with_reducible repeat (first | refine blk_drewN ?_ _ | refine blk_drew ?_ | refine blk_alloc ?_ _)); refine blk_far ?_ NB321_335.out _; (with_reducible repeat (first | refine blk_drewN ?_ _ | refine blk_drew ?_ | refine blk_alloc ?_ _)); refine blk_far ?_ NB321_335.out _; (with_reducible repeat (first | refine blk_drewN ?_ _ | refine blk_drew ?_ | refine blk_alloc ?_ _)); exact BK321.out) k_ hk_.2.1), (Kd.freshB (g := gb335) (o := .cells #[.int .i64 t330, .slice Ao27 t331.length co27] 42 (0, 0)) (by (with_reducible repeat (first | refine blk_drewN ?_ _ | refine blk_drew ?_ | refine blk_alloc ?_ _)); refine blk_put (cs := #[.int .i64 t330, .slice none 0 0]) ?_ 1 _ rfl; (with_reducible repeat (first | refine blk_drewN ?_ _ | refine blk_drew ?_ | refine blk_alloc ?_ _)); refine blk_put (cs := #[.int .i64 0, .slice none 0 0]) ?_ 0 _ rfl; (with_reducible repeat (first | refine blk_drewN ?_ _ | refine blk_drew ?_ | refine blk_alloc ?_ _)); exact BK335.out) k_ hk_.2.1)⟩)) (below_size (pb HB))); have n4_ := am (blk_below (g := gb320) (o := .cells #[.int .i64 t322, .slice Ao15 t323.length co15] 42 (0, 0)) (by (with_reducible repeat (first | refine blk_drewN ?_ _ | refine blk_drew ?_ | refine blk_alloc ?_ _)); refine blk_far ?_ NB320_335.out _; (with_reducible repeat (first | refine blk_drewN ?_ _ | refine blk_drew ?_ | refine blk_alloc ?_ _)); refine blk_far ?_ NB320_335.out _; (with_reducible repeat (first | refine blk_drewN ?_ _ | refine blk_drew ?_ | refine blk_alloc ?_ _)); exact BK320.out) hb); have n5_ := am (blk_below (g := gb321) (o := .cells #[.int .i64 t326, .slice Ao18 t327.length co18] 42 (0, 0)) (by (with_reducible repeat (first | refine blk_drewN ?_ _ | refine blk_drew ?_ | refine blk_alloc ?_ _)); refine blk_far ?_ NB321_335.out _; (with_reducible repeat (first | refine blk_drewN ?_ _ | refine blk_drew ?_ | refine blk_alloc ?_ _)); refine blk_far ?_ NB321_335.out _; (with_reducible repeat (first | refine blk_drewN ?_ _ | refine blk_drew ?_ | refine blk_alloc ?_ _)); exact BK321.out) hb); have n6_ := am (blk_below (g := gb335) (o := .cells #[.int .i64 t330, .slice Ao27 t331.length co27] 42 (0, 0)) (by (with_reducible repeat (first | refine blk_drewN ?_ _ | refine blk_drew ?_ | refine blk_alloc ?_ _)); refine blk_put (cs := #[.int .i64 t330, .slice none 0 0]) ?_ 1 _ rfl; (with_reducible repeat (first | refine blk_drewN ?_ _ | refine blk_drew ?_ | refine blk_alloc ?_ _)); refine blk_put (cs := #[.int .i64 0, .slice none 0 0]) ?_ 0 _ rfl; (with_reducible repeat (first | refine blk_drewN ?_ _ | refine blk_drew ?_ | refine blk_alloc ?_ _)); exact BK335.out) hb); have n7_ := am (below_step (pb HB) hb); clear HO325 HO329 HO333 BK320 BK321 BK335 HB; have HO325 := n0_; have HO329 := n1_; have HO333 := n2_; have HO339 := n3_; have BK320 := n4_; have BK321 := n5_; have BK335 := n6_; have HB := n7_; clear n0_ n1_ n2_ n3_ n4_ n5_ n6_ n7_; (try clear hb); (try clear hb2); (try clear hk); (try clear hi); (try clear ho0)) | ((with_reducible refine gate_dst (N := 9) rfl ?_); refine box_event ?hg (N := 9) ?hd (cs := #[.int .i64 0, .slice none 0 0]) (t := 42) ?hr ?_; (case hd => rfl); (case hg => rfl); (case hr => first | (go_simp; done) | (go_simp; rfl)); intro gb341 hg w29 hbox hb; have n0_ := am (Kd.N_below (Kd.N_elderB (pn HO325) gb341 (Nat.le_of_eq hg.symm)) hb); have n1_ := am (Kd.N_below (Kd.N_elderB (pn HO329) gb341 (Nat.le_of_eq hg.symm)) hb); have n2_ := am (Kd.N_below (Kd.N_elderB (pn HO333) gb341 (Nat.le_of_eq hg.symm)) hb); have n3_ := am (Kd.N_below (Kd.N_elderB (pn HO339) gb341 (Nat.le_of_eq hg.symm)) hb); have n4_ := bb BK320 hb; have n5_ := bb BK321 hb; have n6_ := bb BK335 hb; have n7_ := am (below_step (pb HB) hb); have n8_ := am (hbox); have n9_ := am ((by rw [hg]; exact (below_size (pb HB)) : w.heap.size ≤ gb341)); have n10_ := am ((by rw [hg]; exact (below_size (pb HB)) : w.heap.size ≤ gb341)); have n11_ := am ((by rw [hg]; exact Nat.ne_of_lt (bl BK320) : gb320 ≠ gb341)); have n12_ := am ((by rw [hg]; exact Nat.ne_of_gt (bl BK320) : gb341 ≠ gb320)); have n13_ := am ((by rw [hg]; exact Nat.ne_of_lt (bl BK321) : gb321 ≠ gb341)); have n14_ := am ((by rw [hg]; exact Nat.ne_of_gt (bl BK321) : gb341 ≠ gb321)); have n15_ := am ((by rw [hg]; exact Nat.ne_of_lt (bl BK335) : gb335 ≠ gb341)); have n16_ := am ((by rw [hg]; exact Nat.ne_of_gt (bl BK335) : gb341 ≠ gb335)); clear HO325 HO329 HO333 HO339 BK320 BK321 BK335 HB; have HO325 := n0_; have HO329 := n1_; have HO333 := n2_; have HO339 := n3_; have BK320 := n4_; have BK321 := n5_; have BK335 := n6_; have HB := n7_; have BK341 := n8_; have GW341 := n9_; have GE341 := n10_; have NB320_341 := n11_; have NB341_320 := n12_; have NB321_341 := n13_; have NB341_321 := n14_; have NB335_341 := n15_; have NB341_335 := n16_; clear n0_ n1_ n2_ n3_ n4_ n5_ n6_ n7_ n8_ n9_ n10_ n11_ n12_ n13_ n14_ n15_ n16_ hb hbox hg; have hnb30 := NB341_320.out; have hnc30 := NB320_341.out; have hnb31 := NB341_321.out; have hnc31 := NB321_341.out; have hnb32 := NB341_335.out; have hnc32 := NB335_341.out; have hcz33_0 : w29.cell? ⟨gb341, 0, none⟩ = some (.int .i64 0) := (blk_cell BK341.out 0).trans rfl; have hcz33_1 : w29.cell? ⟨gb341, 1, none⟩ = some (.slice none 0 0) := (blk_cell BK341.out 1).trans rfl; have hfz33_0 := blk_frozen BK341.out 0; have hfz33_1 := blk_frozen BK341.out 1; obtain ⟨Ao34, co34, eo34⟩ := Kd.N_slice HO339.out; subst eo34))
 (try simp only [Act.put, q1, q2, q3])
 go_cut [49] (fun v49 wc => ∃ (kq : Nat) (x49_7 : Bool), v49 = .bool x49_7 ∧ Aside0 (downpourlaw03_MatrixTurns.j0 kq a2 t334 t340 x49_7 t322 t323 t330 t331 t336 t337 = some r) ∧ Aside0 (kq ≤ k) ∧ Aside0 (Kd.N k25 25 wc w.heap.size (fun k_ => some k_ ≠ ((.slice Ao18 t327.length co18) : Value).ownBlock ∧ some k_ ≠ ((.slice Ao27 t331.length co27) : Value).ownBlock ∧ some k_ ≠ ((.slice Ao34 t337.length co34) : Value).ownBlock ∧ k_ ≠ gb320 ∧ k_ ≠ gb321 ∧ k_ ≠ gb335 ∧ k_ ≠ gb341) (.slice Ao15 t323.length co15) t323) ∧ Aside0 (Kd.N k25 25 wc w.heap.size (fun k_ => some k_ ≠ ((.slice Ao15 t323.length co15) : Value).ownBlock ∧ some k_ ≠ ((.slice Ao27 t331.length co27) : Value).ownBlock ∧ some k_ ≠ ((.slice Ao34 t337.length co34) : Value).ownBlock ∧ k_ ≠ gb320 ∧ k_ ≠ gb321 ∧ k_ ≠ gb335 ∧ k_ ≠ gb341) (.slice Ao18 t327.length co18) t327) ∧ Aside0 (Kd.N k25 25 wc w.heap.size (fun k_ => some k_ ≠ ((.slice Ao15 t323.length co15) : Value).ownBlock ∧ some k_ ≠ ((.slice Ao18 t327.length co18) : Value).ownBlock ∧ some k_ ≠ ((.slice Ao34 t337.length co34) : Value).ownBlock ∧ k_ ≠ gb320 ∧ k_ ≠ gb321 ∧ k_ ≠ gb335 ∧ k_ ≠ gb341) (.slice Ao27 t331.length co27) t331) ∧ Aside0 (Kd.N k25 25 wc w.heap.size (fun k_ => some k_ ≠ ((.slice Ao15 t323.length co15) : Value).ownBlock ∧ some k_ ≠ ((.slice Ao18 t327.length co18) : Value).ownBlock ∧ some k_ ≠ ((.slice Ao27 t331.length co27) : Value).ownBlock ∧ k_ ≠ gb320 ∧ k_ ≠ gb321 ∧ k_ ≠ gb335 ∧ k_ ≠ gb341) (.slice Ao34 t337.length co34) t337) ∧ Aside0 (wc.heap[gb320]? = some (.cells #[.int .i64 t322, (.slice Ao15 t323.length co15)] 42 (0, 0))) ∧ Aside0 (wc.heap[gb321]? = some (.cells #[.int .i64 t326, (.slice Ao18 t327.length co18)] 42 (0, 0))) ∧ Aside0 (wc.heap[gb335]? = some (.cells #[.int .i64 t330, (.slice Ao27 t331.length co27)] 42 (0, 0))) ∧ Aside0 (wc.heap[gb341]? = some (.cells #[.int .i64 t336, (.slice Ao34 t337.length co34)] 42 (0, 0))) ∧ Aside0 (Below w.heap.size w wc))
 case first =>
  have H := HC8.out
  clear HC8
  replace H := Option.bind_eq_some_iff.mp H
  obtain ⟨t342, A350, H⟩ := H
  replace H : ((downpourref03_Right.f k t322 t323).bind fun t343 => (if (t342 != t343) = true then (downpourlaw03_MatrixTurns.j0 k a2 t334 t340 true t322 t323 t330 t331 t336 t337) else ((matrix_Like.f k t322 t323 t326 t327).bind fun t344 => ((downpourref03_Same.f k t322 t323 t326 t327).bind fun t345 => (if (t344 != t345) = true then (downpourlaw03_MatrixTurns.j0 k a2 t334 t340 true t322 t323 t330 t331 t336 t337) else ((matrix_Like.f k t322 t323 t322 t323).bind fun t346 => (if t346 = true then ((downpourlaw03_alive.f k).bind fun t347 => (downpourlaw03_MatrixTurns.j0 k a2 t334 t340 (!t347) t322 t323 t330 t331 t336 t337)) else (downpourlaw03_MatrixTurns.j0 k a2 t334 t340 true t322 t323 t330 t331 t336 t337)))))))) = some r := H
  have A35 := Aside0.mk A350
  clear A350
  replace H := Option.bind_eq_some_iff.mp H
  obtain ⟨t343, A360, H⟩ := H
  replace H : (if (t342 != t343) = true then (downpourlaw03_MatrixTurns.j0 k a2 t334 t340 true t322 t323 t330 t331 t336 t337) else ((matrix_Like.f k t322 t323 t326 t327).bind fun t344 => ((downpourref03_Same.f k t322 t323 t326 t327).bind fun t345 => (if (t344 != t345) = true then (downpourlaw03_MatrixTurns.j0 k a2 t334 t340 true t322 t323 t330 t331 t336 t337) else ((matrix_Like.f k t322 t323 t322 t323).bind fun t346 => (if t346 = true then ((downpourlaw03_alive.f k).bind fun t347 => (downpourlaw03_MatrixTurns.j0 k a2 t334 t340 (!t347) t322 t323 t330 t331 t336 t337)) else (downpourlaw03_MatrixTurns.j0 k a2 t334 t340 true t322 t323 t330 t331 t336 t337))))))) = some r := H
  have A36 := Aside0.mk A360
  clear A360
  by_cases c37 : (t342 != t343) = true
  ·
   rw [if_pos c37] at H
   have c37b0 : (t342 != t343) = true := c37
   (try (have c37b1 : decide (t342 = t343) = false := by simpa using c37))
   (try (have c37b2 : (t342 == t343) = false := by simpa using c37))
   (try (have c37b3 : ¬ (t342 = t343) := by simpa using c37))
   clear c37
   (first | rw [c37b0] | (simp only [i64_w, i32_w]; rw [c37b0]) | skip)
   have H' := Aside0.mk H
   clear H
   try go_wp2
   have n0_ : Aside0 (Kd.N k25 25 ((w29.setCell ⟨gb341, 0, none⟩ (.int .i64 t336)).setCell ⟨gb341, 1, none⟩ (.slice Ao34 t337.length co34)) w.heap.size (fun k_ => some k_ ≠ (.slice Ao18 t327.length co18 : Value).ownBlock ∧ some k_ ≠ (.slice Ao27 t331.length co27 : Value).ownBlock ∧ some k_ ≠ (.slice Ao34 t337.length co34 : Value).ownBlock ∧ k_ ≠ gb320 ∧ k_ ≠ gb321 ∧ k_ ≠ gb335 ∧ k_ ≠ gb341) (.slice Ao15 t323.length co15) t323) := ⟨by (with_reducible repeat (first | apply Kd.N_alloc | apply Kd.N_drewN | apply Kd.N_drew)); exact Kd.N_mono (Kd.N_far (p := ⟨gb341, 1, none⟩) (Kd.N_far (p := ⟨gb341, 0, none⟩) (Kd.N_mono HO325.out (fun k_ hk => (⟨hk, hk.2⟩ : _ ∧ k_ ≠ gb341))) (fun _ hk => hk.2) (.int .i64 t336)) (fun _ hk => hk.2) (.slice Ao34 t337.length co34)) (fun _ hk => ⟨hk.1.1.1.1.1.2, ⟨hk.1.1.1.1.2, ⟨hk.1.1.2, ⟨hk.1.1.1.1.1.1.1, ⟨hk.1.1.1.1.1.1.2, ⟨hk.1.1.1.2, hk.1.2⟩⟩⟩⟩⟩⟩)⟩
   have n1_ : Aside0 (Kd.N k25 25 ((w29.setCell ⟨gb341, 0, none⟩ (.int .i64 t336)).setCell ⟨gb341, 1, none⟩ (.slice Ao34 t337.length co34)) w.heap.size (fun k_ => some k_ ≠ (.slice Ao15 t323.length co15 : Value).ownBlock ∧ some k_ ≠ (.slice Ao27 t331.length co27 : Value).ownBlock ∧ some k_ ≠ (.slice Ao34 t337.length co34 : Value).ownBlock ∧ k_ ≠ gb320 ∧ k_ ≠ gb321 ∧ k_ ≠ gb335 ∧ k_ ≠ gb341) (.slice Ao18 t327.length co18) t327) := ⟨by (with_reducible repeat (first | apply Kd.N_alloc | apply Kd.N_drewN | apply Kd.N_drew)); exact Kd.N_mono (Kd.N_far (p := ⟨gb341, 1, none⟩) (Kd.N_far (p := ⟨gb341, 0, none⟩) (Kd.N_mono HO329.out (fun k_ hk => (⟨hk, hk.2⟩ : _ ∧ k_ ≠ gb341))) (fun _ hk => hk.2) (.int .i64 t336)) (fun _ hk => hk.2) (.slice Ao34 t337.length co34)) (fun _ hk => ⟨hk.1.1.1.1.1.1, ⟨hk.1.1.1.1.2, ⟨hk.1.1.2, ⟨hk.1.1.1.1.1.2.1, ⟨hk.1.1.1.1.1.2.2, ⟨hk.1.1.1.2, hk.1.2⟩⟩⟩⟩⟩⟩)⟩
   have n2_ : Aside0 (Kd.N k25 25 ((w29.setCell ⟨gb341, 0, none⟩ (.int .i64 t336)).setCell ⟨gb341, 1, none⟩ (.slice Ao34 t337.length co34)) w.heap.size (fun k_ => some k_ ≠ (.slice Ao15 t323.length co15 : Value).ownBlock ∧ some k_ ≠ (.slice Ao18 t327.length co18 : Value).ownBlock ∧ some k_ ≠ (.slice Ao34 t337.length co34 : Value).ownBlock ∧ k_ ≠ gb320 ∧ k_ ≠ gb321 ∧ k_ ≠ gb335 ∧ k_ ≠ gb341) (.slice Ao27 t331.length co27) t331) := ⟨by (with_reducible repeat (first | apply Kd.N_alloc | apply Kd.N_drewN | apply Kd.N_drew)); exact Kd.N_mono (Kd.N_far (p := ⟨gb341, 1, none⟩) (Kd.N_far (p := ⟨gb341, 0, none⟩) (Kd.N_mono HO333.out (fun k_ hk => (⟨hk, hk.2⟩ : _ ∧ k_ ≠ gb341))) (fun _ hk => hk.2) (.int .i64 t336)) (fun _ hk => hk.2) (.slice Ao34 t337.length co34)) (fun _ hk => ⟨hk.1.1.1.1.1, ⟨hk.1.1.1.1.2.1, ⟨hk.1.1.2, ⟨hk.1.1.1.1.2.2.1, ⟨hk.1.1.1.1.2.2.2, ⟨hk.1.1.1.2, hk.1.2⟩⟩⟩⟩⟩⟩)⟩
   have n3_ : Aside0 (Kd.N k25 25 ((w29.setCell ⟨gb341, 0, none⟩ (.int .i64 t336)).setCell ⟨gb341, 1, none⟩ (.slice Ao34 t337.length co34)) w.heap.size (fun k_ => some k_ ≠ (.slice Ao15 t323.length co15 : Value).ownBlock ∧ some k_ ≠ (.slice Ao18 t327.length co18 : Value).ownBlock ∧ some k_ ≠ (.slice Ao27 t331.length co27 : Value).ownBlock ∧ k_ ≠ gb320 ∧ k_ ≠ gb321 ∧ k_ ≠ gb335 ∧ k_ ≠ gb341) (.slice Ao34 t337.length co34) t337) := ⟨by (with_reducible repeat (first | apply Kd.N_alloc | apply Kd.N_drewN | apply Kd.N_drew)); exact Kd.N_mono (Kd.N_far (p := ⟨gb341, 1, none⟩) (Kd.N_far (p := ⟨gb341, 0, none⟩) (Kd.N_mono HO339.out (fun k_ hk => (⟨hk, hk.2⟩ : _ ∧ k_ ≠ gb341))) (fun _ hk => hk.2) (.int .i64 t336)) (fun _ hk => hk.2) (.slice Ao34 t337.length co34)) (fun _ hk => ⟨hk.1.1.1, ⟨hk.1.1.2.1, ⟨hk.1.1.2.2.1, ⟨hk.1.1.2.2.2.1, ⟨hk.1.1.2.2.2.2.1, ⟨hk.1.1.2.2.2.2.2, hk.1.2⟩⟩⟩⟩⟩⟩)⟩
   have n4_ : Aside0 (((w29.setCell ⟨gb341, 0, none⟩ (.int .i64 t336)).setCell ⟨gb341, 1, none⟩ (.slice Ao34 t337.length co34)).heap[gb320]? = some (.cells #[.int .i64 t322, .slice Ao15 t323.length co15] 42 (0, 0))) := ⟨by (with_reducible repeat (first | refine blk_drewN ?_ _ | refine blk_drew ?_ | refine blk_alloc ?_ _)); refine blk_far ?_ NB320_341.out _; (with_reducible repeat (first | refine blk_drewN ?_ _ | refine blk_drew ?_ | refine blk_alloc ?_ _)); refine blk_far ?_ NB320_341.out _; (with_reducible repeat (first | refine blk_drewN ?_ _ | refine blk_drew ?_ | refine blk_alloc ?_ _)); exact BK320.out⟩
   have n5_ : Aside0 (((w29.setCell ⟨gb341, 0, none⟩ (.int .i64 t336)).setCell ⟨gb341, 1, none⟩ (.slice Ao34 t337.length co34)).heap[gb321]? = some (.cells #[.int .i64 t326, .slice Ao18 t327.length co18] 42 (0, 0))) := ⟨by (with_reducible repeat (first | refine blk_drewN ?_ _ | refine blk_drew ?_ | refine blk_alloc ?_ _)); refine blk_far ?_ NB321_341.out _; (with_reducible repeat (first | refine blk_drewN ?_ _ | refine blk_drew ?_ | refine blk_alloc ?_ _)); refine blk_far ?_ NB321_341.out _; (with_reducible repeat (first | refine blk_drewN ?_ _ | refine blk_drew ?_ | refine blk_alloc ?_ _)); exact BK321.out⟩
   have n6_ : Aside0 (((w29.setCell ⟨gb341, 0, none⟩ (.int .i64 t336)).setCell ⟨gb341, 1, none⟩ (.slice Ao34 t337.length co34)).heap[gb335]? = some (.cells #[.int .i64 t330, .slice Ao27 t331.length co27] 42 (0, 0))) := ⟨by (with_reducible repeat (first | refine blk_drewN ?_ _ | refine blk_drew ?_ | refine blk_alloc ?_ _)); refine blk_far ?_ NB335_341.out _; (with_reducible repeat (first | refine blk_drewN ?_ _ | refine blk_drew ?_ | refine blk_alloc ?_ _)); refine blk_far ?_ NB335_341.out _; (with_reducible repeat (first | refine blk_drewN ?_ _ | refine blk_drew ?_ | refine blk_alloc ?_ _)); exact BK335.out⟩
   have n7_ : Aside0 (((w29.setCell ⟨gb341, 0, none⟩ (.int .i64 t336)).setCell ⟨gb341, 1, none⟩ (.slice Ao34 t337.length co34)).heap[gb341]? = some (.cells #[.int .i64 t336, .slice Ao34 t337.length co34] 42 (0, 0))) := ⟨by (with_reducible repeat (first | refine blk_drewN ?_ _ | refine blk_drew ?_ | refine blk_alloc ?_ _)); refine blk_put (cs := #[.int .i64 t336, .slice none 0 0]) ?_ 1 _ rfl; (with_reducible repeat (first | refine blk_drewN ?_ _ | refine blk_drew ?_ | refine blk_alloc ?_ _)); refine blk_put (cs := #[.int .i64 0, .slice none 0 0]) ?_ 0 _ rfl; (with_reducible repeat (first | refine blk_drewN ?_ _ | refine blk_drew ?_ | refine blk_alloc ?_ _)); exact BK341.out⟩
   have n8_ : Aside0 (Below w.heap.size w ((w29.setCell ⟨gb341, 0, none⟩ (.int .i64 t336)).setCell ⟨gb341, 1, none⟩ (.slice Ao34 t337.length co34))) := ⟨pb HB⟩
   (try clear HO325)
   (try clear HO329)
   (try clear HO333)
   (try clear HO339)
   (try clear BK320)
   (try clear BK321)
   (try clear BK335)
   (try clear BK341)
   (try clear HB)
   generalize ((w29.setCell ⟨gb341, 0, none⟩ (.int .i64 t336)).setCell ⟨gb341, 1, none⟩ (.slice Ao34 t337.length co34)) = w38 at n0_ n1_ n2_ n3_ n4_ n5_ n6_ n7_ n8_ ⊢
   have HO325 := n0_
   have HO329 := n1_
   have HO333 := n2_
   have HO339 := n3_
   have BK320 := n4_
   have BK321 := n5_
   have BK335 := n6_
   have BK341 := n7_
   have HB := n8_
   clear n0_ n1_ n2_ n3_ n4_ n5_ n6_ n7_ n8_
   have n0_ := am (Kd.N_drew HO325.out)
   have n1_ := am (Kd.N_drew HO329.out)
   have n2_ := am (Kd.N_drew HO333.out)
   have n3_ := am (Kd.N_drew HO339.out)
   have n4_ := am (blk_drew BK320.out)
   have n5_ := am (blk_drew BK321.out)
   have n6_ := am (blk_drew BK335.out)
   have n7_ := am (blk_drew BK341.out)
   have n8_ := am (below_drew1 HB.out)
   clear HO325
   clear HO329
   clear HO333
   clear HO339
   clear BK320
   clear BK321
   clear BK335
   clear BK341
   clear HB
   have HO325 := n0_
   have HO329 := n1_
   have HO333 := n2_
   have HO339 := n3_
   have BK320 := n4_
   have BK321 := n5_
   have BK335 := n6_
   have BK341 := n7_
   have HB := n8_
   clear n0_ n1_ n2_ n3_ n4_ n5_ n6_ n7_ n8_
   refine start_ (n := 24) (S := fun w' => w'.cell? ⟨gb320, 0, none⟩ = some (.int .i64 t322) ∧ w'.cell? ⟨gb320, 1, none⟩ = some (.slice Ao15 t323.length co15)) (ds := []) #[F, F, F, F, F, F, F, F, F, F, F, F, F, F, F, F, F, F, F, F, F, F, F, F] (by kernel_rfl) rfl rfl ⟨(blk_cell BK320.out 0).trans rfl, (blk_cell BK320.out 1).trans rfl⟩ (fun hHeld => ?_); refine with_tabW downpourlaw03_MatrixTurns.tab4 downpourlaw03_MatrixTurns.bits4 (fun HT_ HW_ => ?_)
   generalize w38.drew = w39 at HO325 HO329 HO333 HO339 BK320 BK321 BK335 BK341 HB hHeld ⊢
   refine take_ (i := 0) (N := some 26) (v := ?_) (a' := ?_) #[T, F, F, F, F, F, F, F, F, F, F, F, F, F, F, F, F, F, F, F, F, F, F, F] rfl rfl (take_ofW HT_.out HW_.out (by kernel_rfl)) (fun _ _ _ h => h) (Or.inl ⟨by rfl, ?_⟩) hHeld ?_ ?_
   rotate_left
   ·
    rintro w' ⟨s0, s1⟩
    go_simp
    with_reducible rfl
   rotate_left
   ·
    simp only [Act.put, q1, q2, q3, i64_w, i32_w]
    rfl
   refine take_ (i := 2) (N := some 28) (v := ?_) (a' := ?_) #[T, F, T, F, F, F, F, F, F, F, F, F, F, F, F, F, F, F, F, F, F, F, F, F] rfl rfl (take_ofW HT_.out HW_.out (by kernel_rfl)) (fun _ _ _ h => h) (Or.inl ⟨by rfl, ?_⟩) hHeld ?_ ?_
   rotate_left
   ·
    rintro w' ⟨s0, s1⟩
    go_simp
    with_reducible rfl
   rotate_left
   ·
    simp only [Act.put, q1, q2, q3, i64_w, i32_w]
    rfl
   refine one_ (i := 1) (N := some 27) #[T, T, T, F, F, F, F, F, F, F, F, F, F, F, F, F, F, F, F, F, F, F, F, F] rfl rfl (one_of HT_.out (by kernel_rfl)) (by decide) (fun K hK => ?_)
   refine goes_ Try.func45 (by kernel_rfl) rfl #[.agg #[.int .i64 t322, .slice Ao15 t323.length co15]] (by rfl) rfl rfl (by (try simp only [List.map_toArray, List.map_cons, List.map_nil]); first | done | rfl | (simp only [List.length_drop, List.length_take]; rfl)) ?_
   with_reducible refine (matrix_Right.calls k t322 _ _ t323 t342 _ ?side1 ?side2 A35.out).mono ?_
   (case side1 => repeat (first | exact (Kd.N_reads' HO325.out).2.2 | (with_reducible refine Kd.C_alloc ?_ _) | (with_reducible refine Kd.C_drewN ?_ _) | (with_reducible refine Kd.C_drew ?_)))
   (case side2 => exact (Kd.N_reads' HO325.out).2.1)
   rintro e w40 ⟨rfl, hb⟩
   refine ⟨_, rfl, ?_⟩
   have n0_ := am (Kd.N_below (pn HO325) hb)
   have n1_ := am (Kd.N_below (pn HO329) hb)
   have n2_ := am (Kd.N_below (pn HO333) hb)
   have n3_ := am (Kd.N_below (pn HO339) hb)
   have n4_ := bb BK320 hb
   have n5_ := bb BK321 hb
   have n6_ := bb BK335 hb
   have n7_ := bb BK341 hb
   have n8_ := am (below_step (pb HB) hb)
   clear HO325
   clear HO329
   clear HO333
   clear HO339
   clear BK320
   clear BK321
   clear BK335
   clear BK341
   clear HB
   have HO325 := n0_
   have HO329 := n1_
   have HO333 := n2_
   have HO339 := n3_
   have BK320 := n4_
   have BK321 := n5_
   have BK335 := n6_
   have BK341 := n7_
   have HB := n8_
   clear n0_ n1_ n2_ n3_ n4_ n5_ n6_ n7_ n8_
   (try clear hb)
   (try clear hb2)
   (try clear hk)
   (try clear hi)
   refine hK.out _ _ ⟨(blk_cell BK320.out 0).trans rfl, (blk_cell BK320.out 1).trans rfl⟩ (fun hHeld => ?_)
   clear hK K
   refine norm_ (a' := ?_) ?_ ?_
   rotate_left
   ·
    show Act.put _ (some 27) _ = _
    simp only [Act.put, q1, q2, q3, i64_w, i32_w]
    rfl
   refine one_ (i := 3) (N := some 29) #[T, T, T, T, F, F, F, F, F, F, F, F, F, F, F, F, F, F, F, F, F, F, F, F] rfl rfl (one_of HT_.out (by kernel_rfl)) (by decide) (fun K hK => ?_)
   refine goes_ Try.func36 (by kernel_rfl) rfl #[.agg #[.int .i64 t322, .slice Ao15 t323.length co15]] (by rfl) rfl rfl (by (try simp only [List.map_toArray, List.map_cons, List.map_nil]); first | done | rfl | (simp only [List.length_drop, List.length_take]; rfl)) ?_
   with_reducible refine (downpourref03_Right.calls k t322 _ _ t323 t343 _ ?side1 ?side2 A36.out).mono ?_
   (case side1 => repeat (first | exact (Kd.N_reads' HO325.out).2.2 | (with_reducible refine Kd.C_alloc ?_ _) | (with_reducible refine Kd.C_drewN ?_ _) | (with_reducible refine Kd.C_drew ?_)))
   (case side2 => exact (Kd.N_reads' HO325.out).2.1)
   rintro e w41 ⟨rfl, hb⟩
   refine ⟨_, rfl, ?_⟩
   have n0_ := am (Kd.N_below (pn HO325) hb)
   have n1_ := am (Kd.N_below (pn HO329) hb)
   have n2_ := am (Kd.N_below (pn HO333) hb)
   have n3_ := am (Kd.N_below (pn HO339) hb)
   have n4_ := bb BK320 hb
   have n5_ := bb BK321 hb
   have n6_ := bb BK335 hb
   have n7_ := bb BK341 hb
   have n8_ := am (below_step (pb HB) hb)
   clear HO325
   clear HO329
   clear HO333
   clear HO339
   clear BK320
   clear BK321
   clear BK335
   clear BK341
   clear HB
   have HO325 := n0_
   have HO329 := n1_
   have HO333 := n2_
   have HO339 := n3_
   have BK320 := n4_
   have BK321 := n5_
   have BK335 := n6_
   have BK341 := n7_
   have HB := n8_
   clear n0_ n1_ n2_ n3_ n4_ n5_ n6_ n7_ n8_
   (try clear hb)
   (try clear hb2)
   (try clear hk)
   (try clear hi)
   refine hK.out _ _ ⟨(blk_cell BK320.out 0).trans rfl, (blk_cell BK320.out 1).trans rfl⟩ (fun hHeld => ?_)
   clear hK K
   refine norm_ (a' := ?_) ?_ ?_
   rotate_left
   ·
    show Act.put _ (some 29) _ = _
    simp only [Act.put, q1, q2, q3, i64_w, i32_w]
    rfl
   refine pure_ (i := 4) (N := some 30) (v := ?_) (a' := ?_) #[T, T, T, T, T, F, F, F, F, F, F, F, F, F, F, F, F, F, F, F, F, F, F, F] rfl rfl (any_of HT_.out (by kernel_rfl)) (fun _ _ _ h => h) (Or.inl ⟨by rfl, ?_⟩) ?_ ?_
   rotate_left
   ·
    intro w'
    go_simp
    with_reducible rfl
   rotate_left
   ·
    simp only [Act.put, q1, q2, q3, i64_w, i32_w]
    rfl
   refine pure_ (i := 5) (N := some 31) (v := ?_) (a' := ?_) #[T, T, T, T, T, T, F, F, F, F, F, F, F, F, F, F, F, F, F, F, F, F, F, F] rfl rfl (any_of HT_.out (by kernel_rfl)) (fun _ _ _ h => h) (Or.inl ⟨by rfl, ?_⟩) ?_ ?_
   rotate_left
   ·
    intro w'
    go_simp
    with_reducible rfl
   rotate_left
   ·
    simp only [Act.put, q1, q2, q3, i64_w, i32_w]
    rfl
   refine pure_ (i := 6) (N := some 32) (v := undef) (a' := ?_) #[T, T, T, T, T, T, T, F, F, F, F, F, F, F, F, F, F, F, F, F, F, F, F, F] rfl rfl (any_of HT_.out (by kernel_rfl)) (fun _ _ _ h => h) (Or.inr ⟨by rfl, rfl⟩) ?_ ?_
   rotate_left
   ·
    simp only [Act.put, q1, q2, q3, i64_w, i32_w]
    rfl
   refine pure_ (i := 7) (N := some 33) (v := undef) (a' := ?_) #[T, T, T, T, T, T, T, T, F, F, F, F, F, F, F, F, F, F, F, F, F, F, F, F] rfl rfl (any_of HT_.out (by kernel_rfl)) (fun _ _ _ h => h) (Or.inr ⟨by rfl, rfl⟩) ?_ ?_
   rotate_left
   ·
    simp only [Act.put, q1, q2, q3, i64_w, i32_w]
    rfl
   refine pure_ (i := 8) (N := some 34) (v := undef) (a' := ?_) #[T, T, T, T, T, T, T, T, T, F, F, F, F, F, F, F, F, F, F, F, F, F, F, F] rfl rfl (any_of HT_.out (by kernel_rfl)) (fun _ _ _ h => h) (Or.inr ⟨by rfl, rfl⟩) ?_ ?_
   rotate_left
   ·
    simp only [Act.put, q1, q2, q3, i64_w, i32_w]
    rfl
   refine pure_ (i := 9) (N := some 35) (v := undef) (a' := ?_) #[T, T, T, T, T, T, T, T, T, T, F, F, F, F, F, F, F, F, F, F, F, F, F, F] rfl rfl (any_of HT_.out (by kernel_rfl)) (fun _ _ _ h => h) (Or.inr ⟨by rfl, rfl⟩) ?_ ?_
   rotate_left
   ·
    simp only [Act.put, q1, q2, q3, i64_w, i32_w]
    rfl
   refine pure_ (i := 10) (N := some 36) (v := undef) (a' := ?_) #[T, T, T, T, T, T, T, T, T, T, T, F, F, F, F, F, F, F, F, F, F, F, F, F] rfl rfl (any_of HT_.out (by kernel_rfl)) (fun _ _ _ h => h) (Or.inr ⟨by rfl, rfl⟩) ?_ ?_
   rotate_left
   ·
    simp only [Act.put, q1, q2, q3, i64_w, i32_w]
    rfl
   refine pure_ (i := 11) (N := some 37) (v := undef) (a' := ?_) #[T, T, T, T, T, T, T, T, T, T, T, T, F, F, F, F, F, F, F, F, F, F, F, F] rfl rfl (any_of HT_.out (by kernel_rfl)) (fun _ _ _ h => h) (Or.inr ⟨by rfl, rfl⟩) ?_ ?_
   rotate_left
   ·
    simp only [Act.put, q1, q2, q3, i64_w, i32_w]
    rfl
   refine pure_ (i := 12) (N := some 38) (v := undef) (a' := ?_) #[T, T, T, T, T, T, T, T, T, T, T, T, T, F, F, F, F, F, F, F, F, F, F, F] rfl rfl (any_of HT_.out (by kernel_rfl)) (fun _ _ _ h => h) (Or.inr ⟨by rfl, rfl⟩) ?_ ?_
   rotate_left
   ·
    simp only [Act.put, q1, q2, q3, i64_w, i32_w]
    rfl
   refine pure_ (i := 13) (N := some 39) (v := ?_) (a' := ?_) #[T, T, T, T, T, T, T, T, T, T, T, T, T, T, F, F, F, F, F, F, F, F, F, F] rfl rfl (any_of HT_.out (by kernel_rfl)) (fun _ _ _ h => h) (Or.inl ⟨by rfl, ?_⟩) ?_ ?_
   rotate_left
   ·
    intro w'
    go_simp
    with_reducible rfl
   rotate_left
   ·
    simp only [Act.put, q1, q2, q3, i64_w, i32_w]
    rfl
   refine pure_ (i := 14) (N := some 40) (v := ?_) (a' := ?_) #[T, T, T, T, T, T, T, T, T, T, T, T, T, T, T, F, F, F, F, F, F, F, F, F] rfl rfl (any_of HT_.out (by kernel_rfl)) (fun _ _ _ h => h) (Or.inl ⟨by rfl, ?_⟩) ?_ ?_
   rotate_left
   ·
    intro w'
    go_simp
    with_reducible rfl
   rotate_left
   ·
    simp only [Act.put, q1, q2, q3, i64_w, i32_w]
    rfl
   refine pure_ (i := 15) (N := some 41) (v := undef) (a' := ?_) #[T, T, T, T, T, T, T, T, T, T, T, T, T, T, T, T, F, F, F, F, F, F, F, F] rfl rfl (any_of HT_.out (by kernel_rfl)) (fun _ _ _ h => h) (Or.inr ⟨by rfl, rfl⟩) ?_ ?_
   rotate_left
   ·
    simp only [Act.put, q1, q2, q3, i64_w, i32_w]
    rfl
   refine pure_ (i := 16) (N := some 42) (v := undef) (a' := ?_) #[T, T, T, T, T, T, T, T, T, T, T, T, T, T, T, T, T, F, F, F, F, F, F, F] rfl rfl (any_of HT_.out (by kernel_rfl)) (fun _ _ _ h => h) (Or.inr ⟨by rfl, rfl⟩) ?_ ?_
   rotate_left
   ·
    simp only [Act.put, q1, q2, q3, i64_w, i32_w]
    rfl
   refine pure_ (i := 17) (N := some 43) (v := undef) (a' := ?_) #[T, T, T, T, T, T, T, T, T, T, T, T, T, T, T, T, T, T, F, F, F, F, F, F] rfl rfl (any_of HT_.out (by kernel_rfl)) (fun _ _ _ h => h) (Or.inr ⟨by rfl, rfl⟩) ?_ ?_
   rotate_left
   ·
    simp only [Act.put, q1, q2, q3, i64_w, i32_w]
    rfl
   refine pure_ (i := 18) (N := some 44) (v := undef) (a' := ?_) #[T, T, T, T, T, T, T, T, T, T, T, T, T, T, T, T, T, T, T, F, F, F, F, F] rfl rfl (any_of HT_.out (by kernel_rfl)) (fun _ _ _ h => h) (Or.inr ⟨by rfl, rfl⟩) ?_ ?_
   rotate_left
   ·
    simp only [Act.put, q1, q2, q3, i64_w, i32_w]
    rfl
   refine pure_ (i := 19) (N := some 45) (v := ?_) (a' := ?_) #[T, T, T, T, T, T, T, T, T, T, T, T, T, T, T, T, T, T, T, T, F, F, F, F] rfl rfl (any_of HT_.out (by kernel_rfl)) (fun _ _ _ h => h) (Or.inl ⟨by rfl, ?_⟩) ?_ ?_
   rotate_left
   ·
    intro w'
    go_simp
    with_reducible rfl
   rotate_left
   ·
    simp only [Act.put, q1, q2, q3, i64_w, i32_w]
    rfl
   refine pure_ (i := 20) (N := some 46) (v := ?_) (a' := ?_) #[T, T, T, T, T, T, T, T, T, T, T, T, T, T, T, T, T, T, T, T, T, F, F, F] rfl rfl (any_of HT_.out (by kernel_rfl)) (fun _ _ _ h => h) (Or.inl ⟨by rfl, ?_⟩) ?_ ?_
   rotate_left
   ·
    intro w'
    go_simp
    with_reducible rfl
   rotate_left
   ·
    simp only [Act.put, q1, q2, q3, i64_w, i32_w]
    rfl
   refine pure_ (i := 21) (N := some 47) (v := undef) (a' := ?_) #[T, T, T, T, T, T, T, T, T, T, T, T, T, T, T, T, T, T, T, T, T, T, F, F] rfl rfl (any_of HT_.out (by kernel_rfl)) (fun _ _ _ h => h) (Or.inr ⟨by rfl, rfl⟩) ?_ ?_
   rotate_left
   ·
    simp only [Act.put, q1, q2, q3, i64_w, i32_w]
    rfl
   refine pure_ (i := 22) (N := some 48) (v := undef) (a' := ?_) #[T, T, T, T, T, T, T, T, T, T, T, T, T, T, T, T, T, T, T, T, T, T, T, F] rfl rfl (any_of HT_.out (by kernel_rfl)) (fun _ _ _ h => h) (Or.inr ⟨by rfl, rfl⟩) ?_ ?_
   rotate_left
   ·
    simp only [Act.put, q1, q2, q3, i64_w, i32_w]
    rfl
   refine pure_ (i := 23) (N := some 49) (v := ?_) (a' := ?_) #[T, T, T, T, T, T, T, T, T, T, T, T, T, T, T, T, T, T, T, T, T, T, T, T] rfl rfl (any_of HT_.out (by kernel_rfl)) (fun _ _ _ h => h) (Or.inl ⟨by rfl, ?_⟩) ?_ ?_
   rotate_left
   ·
    intro w'
    go_simp
    with_reducible rfl
   rotate_left
   ·
    simp only [Act.put, q1, q2, q3, i64_w, i32_w]
    rfl
   refine done_ (done_of HT_.out (by kernel_rfl)) ?_
   try go_wp2
   go_meet
   case rel => exact ⟨_, (true), (by first | rfl | (simp; done) | (simp [*]; done)), H', ⟨by first | omega | exact Nat.le_refl _⟩, ⟨by (with_reducible repeat (first | apply Kd.N_alloc | apply Kd.N_drewN | apply Kd.N_drew)); exact HO325.out⟩, ⟨by (with_reducible repeat (first | apply Kd.N_alloc | apply Kd.N_drewN | apply Kd.N_drew)); exact HO329.out⟩, ⟨by (with_reducible repeat (first | apply Kd.N_alloc | apply Kd.N_drewN | apply Kd.N_drew)); exact HO333.out⟩, ⟨by (with_reducible repeat (first | apply Kd.N_alloc | apply Kd.N_drewN | apply Kd.N_drew)); exact HO339.out⟩, ⟨by (with_reducible repeat (first | refine blk_drewN ?_ _ | refine blk_drew ?_ | refine blk_alloc ?_ _)); exact BK320.out⟩, ⟨by (with_reducible repeat (first | refine blk_drewN ?_ _ | refine blk_drew ?_ | refine blk_alloc ?_ _)); exact BK321.out⟩, ⟨by (with_reducible repeat (first | refine blk_drewN ?_ _ | refine blk_drew ?_ | refine blk_alloc ?_ _)); exact BK335.out⟩, ⟨by (with_reducible repeat (first | refine blk_drewN ?_ _ | refine blk_drew ?_ | refine blk_alloc ?_ _)); exact BK341.out⟩, ⟨pb HB⟩⟩
  ·
   rw [if_neg c37] at H
   have c37b0 : (t342 != t343) = false := by simpa using c37
   (try (have c37b1 : decide (t342 = t343) = true := by simpa using c37))
   (try (have c37b2 : (t342 == t343) = true := by simpa using c37))
   clear c37
   (first | rw [c37b0] | (simp only [i64_w, i32_w]; rw [c37b0]) | skip)
   replace H := Option.bind_eq_some_iff.mp H
   obtain ⟨t344, A420, H⟩ := H
   replace H : ((downpourref03_Same.f k t322 t323 t326 t327).bind fun t345 => (if (t344 != t345) = true then (downpourlaw03_MatrixTurns.j0 k a2 t334 t340 true t322 t323 t330 t331 t336 t337) else ((matrix_Like.f k t322 t323 t322 t323).bind fun t346 => (if t346 = true then ((downpourlaw03_alive.f k).bind fun t347 => (downpourlaw03_MatrixTurns.j0 k a2 t334 t340 (!t347) t322 t323 t330 t331 t336 t337)) else (downpourlaw03_MatrixTurns.j0 k a2 t334 t340 true t322 t323 t330 t331 t336 t337))))) = some r := H
   have A42 := Aside0.mk A420
   clear A420
   replace H := Option.bind_eq_some_iff.mp H
   obtain ⟨t345, A430, H⟩ := H
   replace H : (if (t344 != t345) = true then (downpourlaw03_MatrixTurns.j0 k a2 t334 t340 true t322 t323 t330 t331 t336 t337) else ((matrix_Like.f k t322 t323 t322 t323).bind fun t346 => (if t346 = true then ((downpourlaw03_alive.f k).bind fun t347 => (downpourlaw03_MatrixTurns.j0 k a2 t334 t340 (!t347) t322 t323 t330 t331 t336 t337)) else (downpourlaw03_MatrixTurns.j0 k a2 t334 t340 true t322 t323 t330 t331 t336 t337)))) = some r := H
   have A43 := Aside0.mk A430
   clear A430
   by_cases c44 : (t344 != t345) = true
   ·
    rw [if_pos c44] at H
    have c44b0 : (t344 != t345) = true := c44
    (try (have c44b1 : decide (t344 = t345) = false := by simpa using c44))
    (try (have c44b2 : (t344 == t345) = false := by simpa using c44))
    (try (have c44b3 : ¬ (t344 = t345) := by simpa using c44))
    clear c44
    have H' := Aside0.mk H
    clear H
    try go_wp2
    have n0_ : Aside0 (Kd.N k25 25 ((w29.setCell ⟨gb341, 0, none⟩ (.int .i64 t336)).setCell ⟨gb341, 1, none⟩ (.slice Ao34 t337.length co34)) w.heap.size (fun k_ => some k_ ≠ (.slice Ao18 t327.length co18 : Value).ownBlock ∧ some k_ ≠ (.slice Ao27 t331.length co27 : Value).ownBlock ∧ some k_ ≠ (.slice Ao34 t337.length co34 : Value).ownBlock ∧ k_ ≠ gb320 ∧ k_ ≠ gb321 ∧ k_ ≠ gb335 ∧ k_ ≠ gb341) (.slice Ao15 t323.length co15) t323) := ⟨by (with_reducible repeat (first | apply Kd.N_alloc | apply Kd.N_drewN | apply Kd.N_drew)); exact Kd.N_mono (Kd.N_far (p := ⟨gb341, 1, none⟩) (Kd.N_far (p := ⟨gb341, 0, none⟩) (Kd.N_mono HO325.out (fun k_ hk => (⟨hk, hk.2⟩ : _ ∧ k_ ≠ gb341))) (fun _ hk => hk.2) (.int .i64 t336)) (fun _ hk => hk.2) (.slice Ao34 t337.length co34)) (fun _ hk => ⟨hk.1.1.1.1.1.2, ⟨hk.1.1.1.1.2, ⟨hk.1.1.2, ⟨hk.1.1.1.1.1.1.1, ⟨hk.1.1.1.1.1.1.2, ⟨hk.1.1.1.2, hk.1.2⟩⟩⟩⟩⟩⟩)⟩
    have n1_ : Aside0 (Kd.N k25 25 ((w29.setCell ⟨gb341, 0, none⟩ (.int .i64 t336)).setCell ⟨gb341, 1, none⟩ (.slice Ao34 t337.length co34)) w.heap.size (fun k_ => some k_ ≠ (.slice Ao15 t323.length co15 : Value).ownBlock ∧ some k_ ≠ (.slice Ao27 t331.length co27 : Value).ownBlock ∧ some k_ ≠ (.slice Ao34 t337.length co34 : Value).ownBlock ∧ k_ ≠ gb320 ∧ k_ ≠ gb321 ∧ k_ ≠ gb335 ∧ k_ ≠ gb341) (.slice Ao18 t327.length co18) t327) := ⟨by (with_reducible repeat (first | apply Kd.N_alloc | apply Kd.N_drewN | apply Kd.N_drew)); exact Kd.N_mono (Kd.N_far (p := ⟨gb341, 1, none⟩) (Kd.N_far (p := ⟨gb341, 0, none⟩) (Kd.N_mono HO329.out (fun k_ hk => (⟨hk, hk.2⟩ : _ ∧ k_ ≠ gb341))) (fun _ hk => hk.2) (.int .i64 t336)) (fun _ hk => hk.2) (.slice Ao34 t337.length co34)) (fun _ hk => ⟨hk.1.1.1.1.1.1, ⟨hk.1.1.1.1.2, ⟨hk.1.1.2, ⟨hk.1.1.1.1.1.2.1, ⟨hk.1.1.1.1.1.2.2, ⟨hk.1.1.1.2, hk.1.2⟩⟩⟩⟩⟩⟩)⟩
    have n2_ : Aside0 (Kd.N k25 25 ((w29.setCell ⟨gb341, 0, none⟩ (.int .i64 t336)).setCell ⟨gb341, 1, none⟩ (.slice Ao34 t337.length co34)) w.heap.size (fun k_ => some k_ ≠ (.slice Ao15 t323.length co15 : Value).ownBlock ∧ some k_ ≠ (.slice Ao18 t327.length co18 : Value).ownBlock ∧ some k_ ≠ (.slice Ao34 t337.length co34 : Value).ownBlock ∧ k_ ≠ gb320 ∧ k_ ≠ gb321 ∧ k_ ≠ gb335 ∧ k_ ≠ gb341) (.slice Ao27 t331.length co27) t331) := ⟨by (with_reducible repeat (first | apply Kd.N_alloc | apply Kd.N_drewN | apply Kd.N_drew)); exact Kd.N_mono (Kd.N_far (p := ⟨gb341, 1, none⟩) (Kd.N_far (p := ⟨gb341, 0, none⟩) (Kd.N_mono HO333.out (fun k_ hk => (⟨hk, hk.2⟩ : _ ∧ k_ ≠ gb341))) (fun _ hk => hk.2) (.int .i64 t336)) (fun _ hk => hk.2) (.slice Ao34 t337.length co34)) (fun _ hk => ⟨hk.1.1.1.1.1, ⟨hk.1.1.1.1.2.1, ⟨hk.1.1.2, ⟨hk.1.1.1.1.2.2.1, ⟨hk.1.1.1.1.2.2.2, ⟨hk.1.1.1.2, hk.1.2⟩⟩⟩⟩⟩⟩)⟩
    have n3_ : Aside0 (Kd.N k25 25 ((w29.setCell ⟨gb341, 0, none⟩ (.int .i64 t336)).setCell ⟨gb341, 1, none⟩ (.slice Ao34 t337.length co34)) w.heap.size (fun k_ => some k_ ≠ (.slice Ao15 t323.length co15 : Value).ownBlock ∧ some k_ ≠ (.slice Ao18 t327.length co18 : Value).ownBlock ∧ some k_ ≠ (.slice Ao27 t331.length co27 : Value).ownBlock ∧ k_ ≠ gb320 ∧ k_ ≠ gb321 ∧ k_ ≠ gb335 ∧ k_ ≠ gb341) (.slice Ao34 t337.length co34) t337) := ⟨by (with_reducible repeat (first | apply Kd.N_alloc | apply Kd.N_drewN | apply Kd.N_drew)); exact Kd.N_mono (Kd.N_far (p := ⟨gb341, 1, none⟩) (Kd.N_far (p := ⟨gb341, 0, none⟩) (Kd.N_mono HO339.out (fun k_ hk => (⟨hk, hk.2⟩ : _ ∧ k_ ≠ gb341))) (fun _ hk => hk.2) (.int .i64 t336)) (fun _ hk => hk.2) (.slice Ao34 t337.length co34)) (fun _ hk => ⟨hk.1.1.1, ⟨hk.1.1.2.1, ⟨hk.1.1.2.2.1, ⟨hk.1.1.2.2.2.1, ⟨hk.1.1.2.2.2.2.1, ⟨hk.1.1.2.2.2.2.2, hk.1.2⟩⟩⟩⟩⟩⟩)⟩
    have n4_ : Aside0 (((w29.setCell ⟨gb341, 0, none⟩ (.int .i64 t336)).setCell ⟨gb341, 1, none⟩ (.slice Ao34 t337.length co34)).heap[gb320]? = some (.cells #[.int .i64 t322, .slice Ao15 t323.length co15] 42 (0, 0))) := ⟨by (with_reducible repeat (first | refine blk_drewN ?_ _ | refine blk_drew ?_ | refine blk_alloc ?_ _)); refine blk_far ?_ NB320_341.out _; (with_reducible repeat (first | refine blk_drewN ?_ _ | refine blk_drew ?_ | refine blk_alloc ?_ _)); refine blk_far ?_ NB320_341.out _; (with_reducible repeat (first | refine blk_drewN ?_ _ | refine blk_drew ?_ | refine blk_alloc ?_ _)); exact BK320.out⟩
    have n5_ : Aside0 (((w29.setCell ⟨gb341, 0, none⟩ (.int .i64 t336)).setCell ⟨gb341, 1, none⟩ (.slice Ao34 t337.length co34)).heap[gb321]? = some (.cells #[.int .i64 t326, .slice Ao18 t327.length co18] 42 (0, 0))) := ⟨by (with_reducible repeat (first | refine blk_drewN ?_ _ | refine blk_drew ?_ | refine blk_alloc ?_ _)); refine blk_far ?_ NB321_341.out _; (with_reducible repeat (first | refine blk_drewN ?_ _ | refine blk_drew ?_ | refine blk_alloc ?_ _)); refine blk_far ?_ NB321_341.out _; (with_reducible repeat (first | refine blk_drewN ?_ _ | refine blk_drew ?_ | refine blk_alloc ?_ _)); exact BK321.out⟩
    have n6_ : Aside0 (((w29.setCell ⟨gb341, 0, none⟩ (.int .i64 t336)).setCell ⟨gb341, 1, none⟩ (.slice Ao34 t337.length co34)).heap[gb335]? = some (.cells #[.int .i64 t330, .slice Ao27 t331.length co27] 42 (0, 0))) := ⟨by (with_reducible repeat (first | refine blk_drewN ?_ _ | refine blk_drew ?_ | refine blk_alloc ?_ _)); refine blk_far ?_ NB335_341.out _; (with_reducible repeat (first | refine blk_drewN ?_ _ | refine blk_drew ?_ | refine blk_alloc ?_ _)); refine blk_far ?_ NB335_341.out _; (with_reducible repeat (first | refine blk_drewN ?_ _ | refine blk_drew ?_ | refine blk_alloc ?_ _)); exact BK335.out⟩
    have n7_ : Aside0 (((w29.setCell ⟨gb341, 0, none⟩ (.int .i64 t336)).setCell ⟨gb341, 1, none⟩ (.slice Ao34 t337.length co34)).heap[gb341]? = some (.cells #[.int .i64 t336, .slice Ao34 t337.length co34] 42 (0, 0))) := ⟨by (with_reducible repeat (first | refine blk_drewN ?_ _ | refine blk_drew ?_ | refine blk_alloc ?_ _)); refine blk_put (cs := #[.int .i64 t336, .slice none 0 0]) ?_ 1 _ rfl; (with_reducible repeat (first | refine blk_drewN ?_ _ | refine blk_drew ?_ | refine blk_alloc ?_ _)); refine blk_put (cs := #[.int .i64 0, .slice none 0 0]) ?_ 0 _ rfl; (with_reducible repeat (first | refine blk_drewN ?_ _ | refine blk_drew ?_ | refine blk_alloc ?_ _)); exact BK341.out⟩
    have n8_ : Aside0 (Below w.heap.size w ((w29.setCell ⟨gb341, 0, none⟩ (.int .i64 t336)).setCell ⟨gb341, 1, none⟩ (.slice Ao34 t337.length co34))) := ⟨pb HB⟩
    (try clear HO325)
    (try clear HO329)
    (try clear HO333)
    (try clear HO339)
    (try clear BK320)
    (try clear BK321)
    (try clear BK335)
    (try clear BK341)
    (try clear HB)
    generalize ((w29.setCell ⟨gb341, 0, none⟩ (.int .i64 t336)).setCell ⟨gb341, 1, none⟩ (.slice Ao34 t337.length co34)) = w45 at n0_ n1_ n2_ n3_ n4_ n5_ n6_ n7_ n8_ ⊢
    have HO325 := n0_
    have HO329 := n1_
    have HO333 := n2_
    have HO339 := n3_
    have BK320 := n4_
    have BK321 := n5_
    have BK335 := n6_
    have BK341 := n7_
    have HB := n8_
    clear n0_ n1_ n2_ n3_ n4_ n5_ n6_ n7_ n8_
    have n0_ := am (Kd.N_drew HO325.out)
    have n1_ := am (Kd.N_drew HO329.out)
    have n2_ := am (Kd.N_drew HO333.out)
    have n3_ := am (Kd.N_drew HO339.out)
    have n4_ := am (blk_drew BK320.out)
    have n5_ := am (blk_drew BK321.out)
    have n6_ := am (blk_drew BK335.out)
    have n7_ := am (blk_drew BK341.out)
    have n8_ := am (below_drew1 HB.out)
    clear HO325
    clear HO329
    clear HO333
    clear HO339
    clear BK320
    clear BK321
    clear BK335
    clear BK341
    clear HB
    have HO325 := n0_
    have HO329 := n1_
    have HO333 := n2_
    have HO339 := n3_
    have BK320 := n4_
    have BK321 := n5_
    have BK335 := n6_
    have BK341 := n7_
    have HB := n8_
    clear n0_ n1_ n2_ n3_ n4_ n5_ n6_ n7_ n8_
    refine start_ (n := 24) (S := fun w' => w'.cell? ⟨gb320, 0, none⟩ = some (.int .i64 t322) ∧ w'.cell? ⟨gb320, 1, none⟩ = some (.slice Ao15 t323.length co15) ∧ w'.cell? ⟨gb321, 0, none⟩ = some (.int .i64 t326) ∧ w'.cell? ⟨gb321, 1, none⟩ = some (.slice Ao18 t327.length co18)) (ds := []) #[F, F, F, F, F, F, F, F, F, F, F, F, F, F, F, F, F, F, F, F, F, F, F, F] (by kernel_rfl) rfl rfl ⟨(blk_cell BK320.out 0).trans rfl, (blk_cell BK320.out 1).trans rfl, (blk_cell BK321.out 0).trans rfl, (blk_cell BK321.out 1).trans rfl⟩ (fun hHeld => ?_); refine with_tabW downpourlaw03_MatrixTurns.tab4 downpourlaw03_MatrixTurns.bits4 (fun HT_ HW_ => ?_)
    generalize w45.drew = w46 at HO325 HO329 HO333 HO339 BK320 BK321 BK335 BK341 HB hHeld ⊢
    refine take_ (i := 0) (N := some 26) (v := ?_) (a' := ?_) #[T, F, F, F, F, F, F, F, F, F, F, F, F, F, F, F, F, F, F, F, F, F, F, F] rfl rfl (take_ofW HT_.out HW_.out (by kernel_rfl)) (fun _ _ _ h => h) (Or.inl ⟨by rfl, ?_⟩) hHeld ?_ ?_
    rotate_left
    ·
     rintro w' ⟨s0, s1, s2, s3⟩
     go_simp
     with_reducible rfl
    rotate_left
    ·
     simp only [Act.put, q1, q2, q3, i64_w, i32_w]
     rfl
    refine take_ (i := 2) (N := some 28) (v := ?_) (a' := ?_) #[T, F, T, F, F, F, F, F, F, F, F, F, F, F, F, F, F, F, F, F, F, F, F, F] rfl rfl (take_ofW HT_.out HW_.out (by kernel_rfl)) (fun _ _ _ h => h) (Or.inl ⟨by rfl, ?_⟩) hHeld ?_ ?_
    rotate_left
    ·
     rintro w' ⟨s0, s1, s2, s3⟩
     go_simp
     with_reducible rfl
    rotate_left
    ·
     simp only [Act.put, q1, q2, q3, i64_w, i32_w]
     rfl
    refine one_ (i := 1) (N := some 27) #[T, T, T, F, F, F, F, F, F, F, F, F, F, F, F, F, F, F, F, F, F, F, F, F] rfl rfl (one_of HT_.out (by kernel_rfl)) (by decide) (fun K hK => ?_)
    refine goes_ Try.func45 (by kernel_rfl) rfl #[.agg #[.int .i64 t322, .slice Ao15 t323.length co15]] (by rfl) rfl rfl (by (try simp only [List.map_toArray, List.map_cons, List.map_nil]); first | done | rfl | (simp only [List.length_drop, List.length_take]; rfl)) ?_
    with_reducible refine (matrix_Right.calls k t322 _ _ t323 t342 _ ?side1 ?side2 A35.out).mono ?_
    (case side1 => repeat (first | exact (Kd.N_reads' HO325.out).2.2 | (with_reducible refine Kd.C_alloc ?_ _) | (with_reducible refine Kd.C_drewN ?_ _) | (with_reducible refine Kd.C_drew ?_)))
    (case side2 => exact (Kd.N_reads' HO325.out).2.1)
    rintro e w47 ⟨rfl, hb⟩
    refine ⟨_, rfl, ?_⟩
    have n0_ := am (Kd.N_below (pn HO325) hb)
    have n1_ := am (Kd.N_below (pn HO329) hb)
    have n2_ := am (Kd.N_below (pn HO333) hb)
    have n3_ := am (Kd.N_below (pn HO339) hb)
    have n4_ := bb BK320 hb
    have n5_ := bb BK321 hb
    have n6_ := bb BK335 hb
    have n7_ := bb BK341 hb
    have n8_ := am (below_step (pb HB) hb)
    clear HO325
    clear HO329
    clear HO333
    clear HO339
    clear BK320
    clear BK321
    clear BK335
    clear BK341
    clear HB
    have HO325 := n0_
    have HO329 := n1_
    have HO333 := n2_
    have HO339 := n3_
    have BK320 := n4_
    have BK321 := n5_
    have BK335 := n6_
    have BK341 := n7_
    have HB := n8_
    clear n0_ n1_ n2_ n3_ n4_ n5_ n6_ n7_ n8_
    (try clear hb)
    (try clear hb2)
    (try clear hk)
    (try clear hi)
    refine hK.out _ _ ⟨(blk_cell BK320.out 0).trans rfl, (blk_cell BK320.out 1).trans rfl, (blk_cell BK321.out 0).trans rfl, (blk_cell BK321.out 1).trans rfl⟩ (fun hHeld => ?_)
    clear hK K
    refine norm_ (a' := ?_) ?_ ?_
    rotate_left
    ·
     show Act.put _ (some 27) _ = _
     simp only [Act.put, q1, q2, q3, i64_w, i32_w]
     rfl
    refine one_ (i := 3) (N := some 29) #[T, T, T, T, F, F, F, F, F, F, F, F, F, F, F, F, F, F, F, F, F, F, F, F] rfl rfl (one_of HT_.out (by kernel_rfl)) (by decide) (fun K hK => ?_)
    refine goes_ Try.func36 (by kernel_rfl) rfl #[.agg #[.int .i64 t322, .slice Ao15 t323.length co15]] (by rfl) rfl rfl (by (try simp only [List.map_toArray, List.map_cons, List.map_nil]); first | done | rfl | (simp only [List.length_drop, List.length_take]; rfl)) ?_
    with_reducible refine (downpourref03_Right.calls k t322 _ _ t323 t343 _ ?side1 ?side2 A36.out).mono ?_
    (case side1 => repeat (first | exact (Kd.N_reads' HO325.out).2.2 | (with_reducible refine Kd.C_alloc ?_ _) | (with_reducible refine Kd.C_drewN ?_ _) | (with_reducible refine Kd.C_drew ?_)))
    (case side2 => exact (Kd.N_reads' HO325.out).2.1)
    rintro e w48 ⟨rfl, hb⟩
    refine ⟨_, rfl, ?_⟩
    have n0_ := am (Kd.N_below (pn HO325) hb)
    have n1_ := am (Kd.N_below (pn HO329) hb)
    have n2_ := am (Kd.N_below (pn HO333) hb)
    have n3_ := am (Kd.N_below (pn HO339) hb)
    have n4_ := bb BK320 hb
    have n5_ := bb BK321 hb
    have n6_ := bb BK335 hb
    have n7_ := bb BK341 hb
    have n8_ := am (below_step (pb HB) hb)
    clear HO325
    clear HO329
    clear HO333
    clear HO339
    clear BK320
    clear BK321
    clear BK335
    clear BK341
    clear HB
    have HO325 := n0_
    have HO329 := n1_
    have HO333 := n2_
    have HO339 := n3_
    have BK320 := n4_
    have BK321 := n5_
    have BK335 := n6_
    have BK341 := n7_
    have HB := n8_
    clear n0_ n1_ n2_ n3_ n4_ n5_ n6_ n7_ n8_
    (try clear hb)
    (try clear hb2)
    (try clear hk)
    (try clear hi)
    refine hK.out _ _ ⟨(blk_cell BK320.out 0).trans rfl, (blk_cell BK320.out 1).trans rfl, (blk_cell BK321.out 0).trans rfl, (blk_cell BK321.out 1).trans rfl⟩ (fun hHeld => ?_)
    clear hK K
    refine norm_ (a' := ?_) ?_ ?_
    rotate_left
    ·
     show Act.put _ (some 29) _ = _
     simp only [Act.put, q1, q2, q3, i64_w, i32_w]
     rfl
    refine pure_ (i := 4) (N := some 30) (v := ?_) (a' := ?_) #[T, T, T, T, T, F, F, F, F, F, F, F, F, F, F, F, F, F, F, F, F, F, F, F] rfl rfl (any_of HT_.out (by kernel_rfl)) (fun _ _ _ h => h) (Or.inl ⟨by rfl, ?_⟩) ?_ ?_
    rotate_left
    ·
     intro w'
     go_simp
     with_reducible rfl
    rotate_left
    ·
     simp only [Act.put, q1, q2, q3, i64_w, i32_w]
     rfl
    refine pure_ (i := 5) (N := some 31) (v := ?_) (a' := ?_) #[T, T, T, T, T, T, F, F, F, F, F, F, F, F, F, F, F, F, F, F, F, F, F, F] rfl rfl (any_of HT_.out (by kernel_rfl)) (fun _ _ _ h => h) (Or.inl ⟨by rfl, ?_⟩) ?_ ?_
    rotate_left
    ·
     intro w'
     go_simp
     with_reducible rfl
    rotate_left
    ·
     simp only [Act.put, q1, q2, q3, i64_w, i32_w]
     rfl
    refine take_ (i := 6) (N := some 32) (v := ?_) (a' := ?_) #[T, T, T, T, T, T, T, F, F, F, F, F, F, F, F, F, F, F, F, F, F, F, F, F] rfl rfl (take_ofW HT_.out HW_.out (by kernel_rfl)) (fun _ _ _ h => h) (Or.inl ⟨by rfl, ?_⟩) hHeld ?_ ?_
    rotate_left
    ·
     rintro w' ⟨s0, s1, s2, s3⟩
     go_simp
     with_reducible rfl
    rotate_left
    ·
     simp only [Act.put, q1, q2, q3, i64_w, i32_w]
     rfl
    refine take_ (i := 7) (N := some 33) (v := ?_) (a' := ?_) #[T, T, T, T, T, T, T, T, F, F, F, F, F, F, F, F, F, F, F, F, F, F, F, F] rfl rfl (take_ofW HT_.out HW_.out (by kernel_rfl)) (fun _ _ _ h => h) (Or.inl ⟨by rfl, ?_⟩) hHeld ?_ ?_
    rotate_left
    ·
     rintro w' ⟨s0, s1, s2, s3⟩
     go_simp
     with_reducible rfl
    rotate_left
    ·
     simp only [Act.put, q1, q2, q3, i64_w, i32_w]
     rfl
    refine take_ (i := 9) (N := some 35) (v := ?_) (a' := ?_) #[T, T, T, T, T, T, T, T, F, T, F, F, F, F, F, F, F, F, F, F, F, F, F, F] rfl rfl (take_ofW HT_.out HW_.out (by kernel_rfl)) (fun _ _ _ h => h) (Or.inl ⟨by rfl, ?_⟩) hHeld ?_ ?_
    rotate_left
    ·
     rintro w' ⟨s0, s1, s2, s3⟩
     go_simp
     with_reducible rfl
    rotate_left
    ·
     simp only [Act.put, q1, q2, q3, i64_w, i32_w]
     rfl
    refine take_ (i := 10) (N := some 36) (v := ?_) (a' := ?_) #[T, T, T, T, T, T, T, T, F, T, T, F, F, F, F, F, F, F, F, F, F, F, F, F] rfl rfl (take_ofW HT_.out HW_.out (by kernel_rfl)) (fun _ _ _ h => h) (Or.inl ⟨by rfl, ?_⟩) hHeld ?_ ?_
    rotate_left
    ·
     rintro w' ⟨s0, s1, s2, s3⟩
     go_simp
     with_reducible rfl
    rotate_left
    ·
     simp only [Act.put, q1, q2, q3, i64_w, i32_w]
     rfl
    refine one_ (i := 8) (N := some 34) #[T, T, T, T, T, T, T, T, T, T, T, F, F, F, F, F, F, F, F, F, F, F, F, F] rfl rfl (one_of HT_.out (by kernel_rfl)) (by decide) (fun K hK => ?_)
    refine goes_ Try.func46 (by kernel_rfl) rfl #[.agg #[.int .i64 t322, .slice Ao15 t323.length co15], .agg #[.int .i64 t326, .slice Ao18 t327.length co18]] (by rfl) rfl rfl (by (try simp only [List.map_toArray, List.map_cons, List.map_nil]); first | done | rfl | (simp only [List.length_drop, List.length_take]; rfl)) ?_
    with_reducible refine (matrix_Like.calls k t322 _ _ t323 t326 _ _ t327 t344 _ ?side1 ?side2 ?side3 ?side4 A42.out).mono ?_
    (case side1 => repeat (first | exact (Kd.N_reads' HO325.out).2.2 | (with_reducible refine Kd.C_alloc ?_ _) | (with_reducible refine Kd.C_drewN ?_ _) | (with_reducible refine Kd.C_drew ?_)))
    (case side2 => exact (Kd.N_reads' HO325.out).2.1)
    (case side3 => repeat (first | exact (Kd.N_reads' HO329.out).2.2 | (with_reducible refine Kd.C_alloc ?_ _) | (with_reducible refine Kd.C_drewN ?_ _) | (with_reducible refine Kd.C_drew ?_)))
    (case side4 => exact (Kd.N_reads' HO329.out).2.1)
    rintro e w49 ⟨rfl, hb⟩
    refine ⟨_, rfl, ?_⟩
    have n0_ := am (Kd.N_below (pn HO325) hb)
    have n1_ := am (Kd.N_below (pn HO329) hb)
    have n2_ := am (Kd.N_below (pn HO333) hb)
    have n3_ := am (Kd.N_below (pn HO339) hb)
    have n4_ := bb BK320 hb
    have n5_ := bb BK321 hb
    have n6_ := bb BK335 hb
    have n7_ := bb BK341 hb
    have n8_ := am (below_step (pb HB) hb)
    clear HO325
    clear HO329
    clear HO333
    clear HO339
    clear BK320
    clear BK321
    clear BK335
    clear BK341
    clear HB
    have HO325 := n0_
    have HO329 := n1_
    have HO333 := n2_
    have HO339 := n3_
    have BK320 := n4_
    have BK321 := n5_
    have BK335 := n6_
    have BK341 := n7_
    have HB := n8_
    clear n0_ n1_ n2_ n3_ n4_ n5_ n6_ n7_ n8_
    (try clear hb)
    (try clear hb2)
    (try clear hk)
    (try clear hi)
    refine hK.out _ _ ⟨(blk_cell BK320.out 0).trans rfl, (blk_cell BK320.out 1).trans rfl, (blk_cell BK321.out 0).trans rfl, (blk_cell BK321.out 1).trans rfl⟩ (fun hHeld => ?_)
    clear hK K
    refine norm_ (a' := ?_) ?_ ?_
    rotate_left
    ·
     show Act.put _ (some 34) _ = _
     simp only [Act.put, q1, q2, q3, i64_w, i32_w]
     rfl
    refine one_ (i := 11) (N := some 37) #[T, T, T, T, T, T, T, T, T, T, T, T, F, F, F, F, F, F, F, F, F, F, F, F] rfl rfl (one_of HT_.out (by kernel_rfl)) (by decide) (fun K hK => ?_)
    refine goes_ Try.func38 (by kernel_rfl) rfl #[.agg #[.int .i64 t322, .slice Ao15 t323.length co15], .agg #[.int .i64 t326, .slice Ao18 t327.length co18]] (by rfl) rfl rfl (by (try simp only [List.map_toArray, List.map_cons, List.map_nil]); first | done | rfl | (simp only [List.length_drop, List.length_take]; rfl)) ?_
    with_reducible refine (downpourref03_Same.calls k t322 _ _ t323 t326 _ _ t327 t345 _ ?side1 ?side2 ?side3 ?side4 A43.out).mono ?_
    (case side1 => repeat (first | exact (Kd.N_reads' HO325.out).2.2 | (with_reducible refine Kd.C_alloc ?_ _) | (with_reducible refine Kd.C_drewN ?_ _) | (with_reducible refine Kd.C_drew ?_)))
    (case side2 => exact (Kd.N_reads' HO325.out).2.1)
    (case side3 => repeat (first | exact (Kd.N_reads' HO329.out).2.2 | (with_reducible refine Kd.C_alloc ?_ _) | (with_reducible refine Kd.C_drewN ?_ _) | (with_reducible refine Kd.C_drew ?_)))
    (case side4 => exact (Kd.N_reads' HO329.out).2.1)
    rintro e w50 ⟨rfl, hb⟩
    refine ⟨_, rfl, ?_⟩
    have n0_ := am (Kd.N_below (pn HO325) hb)
    have n1_ := am (Kd.N_below (pn HO329) hb)
    have n2_ := am (Kd.N_below (pn HO333) hb)
    have n3_ := am (Kd.N_below (pn HO339) hb)
    have n4_ := bb BK320 hb
    have n5_ := bb BK321 hb
    have n6_ := bb BK335 hb
    have n7_ := bb BK341 hb
    have n8_ := am (below_step (pb HB) hb)
    clear HO325
    clear HO329
    clear HO333
    clear HO339
    clear BK320
    clear BK321
    clear BK335
    clear BK341
    clear HB
    have HO325 := n0_
    have HO329 := n1_
    have HO333 := n2_
    have HO339 := n3_
    have BK320 := n4_
    have BK321 := n5_
    have BK335 := n6_
    have BK341 := n7_
    have HB := n8_
    clear n0_ n1_ n2_ n3_ n4_ n5_ n6_ n7_ n8_
    (try clear hb)
    (try clear hb2)
    (try clear hk)
    (try clear hi)
    refine hK.out _ _ ⟨(blk_cell BK320.out 0).trans rfl, (blk_cell BK320.out 1).trans rfl, (blk_cell BK321.out 0).trans rfl, (blk_cell BK321.out 1).trans rfl⟩ (fun hHeld => ?_)
    clear hK K
    refine norm_ (a' := ?_) ?_ ?_
    rotate_left
    ·
     show Act.put _ (some 37) _ = _
     simp only [Act.put, q1, q2, q3, i64_w, i32_w]
     rfl
    refine pure_ (i := 12) (N := some 38) (v := ?_) (a' := ?_) #[T, T, T, T, T, T, T, T, T, T, T, T, T, F, F, F, F, F, F, F, F, F, F, F] rfl rfl (any_of HT_.out (by kernel_rfl)) (fun _ _ _ h => h) (Or.inl ⟨by rfl, ?_⟩) ?_ ?_
    rotate_left
    ·
     intro w'
     go_simp
     with_reducible rfl
    rotate_left
    ·
     simp only [Act.put, q1, q2, q3, i64_w, i32_w]
     rfl
    refine pure_ (i := 13) (N := some 39) (v := ?_) (a' := ?_) #[T, T, T, T, T, T, T, T, T, T, T, T, T, T, F, F, F, F, F, F, F, F, F, F] rfl rfl (any_of HT_.out (by kernel_rfl)) (fun _ _ _ h => h) (Or.inl ⟨by rfl, ?_⟩) ?_ ?_
    rotate_left
    ·
     intro w'
     go_simp
     with_reducible rfl
    rotate_left
    ·
     simp only [Act.put, q1, q2, q3, i64_w, i32_w]
     rfl
    refine pure_ (i := 14) (N := some 40) (v := ?_) (a' := ?_) #[T, T, T, T, T, T, T, T, T, T, T, T, T, T, T, F, F, F, F, F, F, F, F, F] rfl rfl (any_of HT_.out (by kernel_rfl)) (fun _ _ _ h => h) (Or.inl ⟨by rfl, ?_⟩) ?_ ?_
    rotate_left
    ·
     intro w'
     go_simp
     with_reducible rfl
    rotate_left
    ·
     simp only [Act.put, q1, q2, q3, i64_w, i32_w]
     rfl
    refine pure_ (i := 15) (N := some 41) (v := undef) (a' := ?_) #[T, T, T, T, T, T, T, T, T, T, T, T, T, T, T, T, F, F, F, F, F, F, F, F] rfl rfl (any_of HT_.out (by kernel_rfl)) (fun _ _ _ h => h) (Or.inr ⟨by rfl, rfl⟩) ?_ ?_
    rotate_left
    ·
     simp only [Act.put, q1, q2, q3, i64_w, i32_w]
     rfl
    refine pure_ (i := 16) (N := some 42) (v := undef) (a' := ?_) #[T, T, T, T, T, T, T, T, T, T, T, T, T, T, T, T, T, F, F, F, F, F, F, F] rfl rfl (any_of HT_.out (by kernel_rfl)) (fun _ _ _ h => h) (Or.inr ⟨by rfl, rfl⟩) ?_ ?_
    rotate_left
    ·
     simp only [Act.put, q1, q2, q3, i64_w, i32_w]
     rfl
    refine pure_ (i := 17) (N := some 43) (v := undef) (a' := ?_) #[T, T, T, T, T, T, T, T, T, T, T, T, T, T, T, T, T, T, F, F, F, F, F, F] rfl rfl (any_of HT_.out (by kernel_rfl)) (fun _ _ _ h => h) (Or.inr ⟨by rfl, rfl⟩) ?_ ?_
    rotate_left
    ·
     simp only [Act.put, q1, q2, q3, i64_w, i32_w]
     rfl
    refine pure_ (i := 18) (N := some 44) (v := undef) (a' := ?_) #[T, T, T, T, T, T, T, T, T, T, T, T, T, T, T, T, T, T, T, F, F, F, F, F] rfl rfl (any_of HT_.out (by kernel_rfl)) (fun _ _ _ h => h) (Or.inr ⟨by rfl, rfl⟩) ?_ ?_
    rotate_left
    ·
     simp only [Act.put, q1, q2, q3, i64_w, i32_w]
     rfl
    refine pure_ (i := 19) (N := some 45) (v := ?_) (a' := ?_) #[T, T, T, T, T, T, T, T, T, T, T, T, T, T, T, T, T, T, T, T, F, F, F, F] rfl rfl (any_of HT_.out (by kernel_rfl)) (fun _ _ _ h => h) (Or.inl ⟨by rfl, ?_⟩) ?_ ?_
    rotate_left
    ·
     intro w'
     go_simp
     with_reducible rfl
    rotate_left
    ·
     simp only [Act.put, q1, q2, q3, i64_w, i32_w]
     rfl
    refine pure_ (i := 20) (N := some 46) (v := ?_) (a' := ?_) #[T, T, T, T, T, T, T, T, T, T, T, T, T, T, T, T, T, T, T, T, T, F, F, F] rfl rfl (any_of HT_.out (by kernel_rfl)) (fun _ _ _ h => h) (Or.inl ⟨by rfl, ?_⟩) ?_ ?_
    rotate_left
    ·
     intro w'
     go_simp
     with_reducible rfl
    rotate_left
    ·
     simp only [Act.put, q1, q2, q3, i64_w, i32_w]
     rfl
    refine pure_ (i := 21) (N := some 47) (v := undef) (a' := ?_) #[T, T, T, T, T, T, T, T, T, T, T, T, T, T, T, T, T, T, T, T, T, T, F, F] rfl rfl (any_of HT_.out (by kernel_rfl)) (fun _ _ _ h => h) (Or.inr ⟨by rfl, rfl⟩) ?_ ?_
    rotate_left
    ·
     simp only [Act.put, q1, q2, q3, i64_w, i32_w]
     rfl
    refine pure_ (i := 22) (N := some 48) (v := undef) (a' := ?_) #[T, T, T, T, T, T, T, T, T, T, T, T, T, T, T, T, T, T, T, T, T, T, T, F] rfl rfl (any_of HT_.out (by kernel_rfl)) (fun _ _ _ h => h) (Or.inr ⟨by rfl, rfl⟩) ?_ ?_
    rotate_left
    ·
     simp only [Act.put, q1, q2, q3, i64_w, i32_w]
     rfl
    refine pure_ (i := 23) (N := some 49) (v := ?_) (a' := ?_) #[T, T, T, T, T, T, T, T, T, T, T, T, T, T, T, T, T, T, T, T, T, T, T, T] rfl rfl (any_of HT_.out (by kernel_rfl)) (fun _ _ _ h => h) (Or.inl ⟨by rfl, ?_⟩) ?_ ?_
    rotate_left
    ·
     intro w'
     go_simp
     with_reducible rfl
    rotate_left
    ·
     simp only [Act.put, q1, q2, q3, i64_w, i32_w]
     rfl
    refine done_ (done_of HT_.out (by kernel_rfl)) ?_
    try go_wp2
    go_meet
    case rel => exact ⟨_, (true), (by first | rfl | (simp; done) | (simp [*]; done)), H', ⟨by first | omega | exact Nat.le_refl _⟩, ⟨by (with_reducible repeat (first | apply Kd.N_alloc | apply Kd.N_drewN | apply Kd.N_drew)); exact HO325.out⟩, ⟨by (with_reducible repeat (first | apply Kd.N_alloc | apply Kd.N_drewN | apply Kd.N_drew)); exact HO329.out⟩, ⟨by (with_reducible repeat (first | apply Kd.N_alloc | apply Kd.N_drewN | apply Kd.N_drew)); exact HO333.out⟩, ⟨by (with_reducible repeat (first | apply Kd.N_alloc | apply Kd.N_drewN | apply Kd.N_drew)); exact HO339.out⟩, ⟨by (with_reducible repeat (first | refine blk_drewN ?_ _ | refine blk_drew ?_ | refine blk_alloc ?_ _)); exact BK320.out⟩, ⟨by (with_reducible repeat (first | refine blk_drewN ?_ _ | refine blk_drew ?_ | refine blk_alloc ?_ _)); exact BK321.out⟩, ⟨by (with_reducible repeat (first | refine blk_drewN ?_ _ | refine blk_drew ?_ | refine blk_alloc ?_ _)); exact BK335.out⟩, ⟨by (with_reducible repeat (first | refine blk_drewN ?_ _ | refine blk_drew ?_ | refine blk_alloc ?_ _)); exact BK341.out⟩, ⟨pb HB⟩⟩
   ·
    rw [if_neg c44] at H
    have c44b0 : (t344 != t345) = false := by simpa using c44
    (try (have c44b1 : decide (t344 = t345) = true := by simpa using c44))
    (try (have c44b2 : (t344 == t345) = true := by simpa using c44))
    clear c44
    replace H := Option.bind_eq_some_iff.mp H
    obtain ⟨t346, A510, H⟩ := H
    replace H : (if t346 = true then ((downpourlaw03_alive.f k).bind fun t347 => (downpourlaw03_MatrixTurns.j0 k a2 t334 t340 (!t347) t322 t323 t330 t331 t336 t337)) else (downpourlaw03_MatrixTurns.j0 k a2 t334 t340 true t322 t323 t330 t331 t336 t337)) = some r := H
    have A51 := Aside0.mk A510
    clear A510
    by_cases c52 : t346 = true
    ·
     subst c52
     have H1 : ((downpourlaw03_alive.f k).bind fun t347 => (downpourlaw03_MatrixTurns.j0 k a2 t334 t340 (!t347) t322 t323 t330 t331 t336 t337)) = some r := by rw [if_pos rfl] at H; exact H
     clear H
     have H := H1
     clear H1
     replace H := Option.bind_eq_some_iff.mp H
     obtain ⟨t347, A530, H⟩ := H
     replace H : (downpourlaw03_MatrixTurns.j0 k a2 t334 t340 (!t347) t322 t323 t330 t331 t336 t337) = some r := H
     have A53 := Aside0.mk A530
     clear A530
     have H' := Aside0.mk H
     clear H
     try go_wp2
     have n0_ : Aside0 (Kd.N k25 25 ((w29.setCell ⟨gb341, 0, none⟩ (.int .i64 t336)).setCell ⟨gb341, 1, none⟩ (.slice Ao34 t337.length co34)) w.heap.size (fun k_ => some k_ ≠ (.slice Ao18 t327.length co18 : Value).ownBlock ∧ some k_ ≠ (.slice Ao27 t331.length co27 : Value).ownBlock ∧ some k_ ≠ (.slice Ao34 t337.length co34 : Value).ownBlock ∧ k_ ≠ gb320 ∧ k_ ≠ gb321 ∧ k_ ≠ gb335 ∧ k_ ≠ gb341) (.slice Ao15 t323.length co15) t323) := ⟨by (with_reducible repeat (first | apply Kd.N_alloc | apply Kd.N_drewN | apply Kd.N_drew)); exact Kd.N_mono (Kd.N_far (p := ⟨gb341, 1, none⟩) (Kd.N_far (p := ⟨gb341, 0, none⟩) (Kd.N_mono HO325.out (fun k_ hk => (⟨hk, hk.2⟩ : _ ∧ k_ ≠ gb341))) (fun _ hk => hk.2) (.int .i64 t336)) (fun _ hk => hk.2) (.slice Ao34 t337.length co34)) (fun _ hk => ⟨hk.1.1.1.1.1.2, ⟨hk.1.1.1.1.2, ⟨hk.1.1.2, ⟨hk.1.1.1.1.1.1.1, ⟨hk.1.1.1.1.1.1.2, ⟨hk.1.1.1.2, hk.1.2⟩⟩⟩⟩⟩⟩)⟩
     have n1_ : Aside0 (Kd.N k25 25 ((w29.setCell ⟨gb341, 0, none⟩ (.int .i64 t336)).setCell ⟨gb341, 1, none⟩ (.slice Ao34 t337.length co34)) w.heap.size (fun k_ => some k_ ≠ (.slice Ao15 t323.length co15 : Value).ownBlock ∧ some k_ ≠ (.slice Ao27 t331.length co27 : Value).ownBlock ∧ some k_ ≠ (.slice Ao34 t337.length co34 : Value).ownBlock ∧ k_ ≠ gb320 ∧ k_ ≠ gb321 ∧ k_ ≠ gb335 ∧ k_ ≠ gb341) (.slice Ao18 t327.length co18) t327) := ⟨by (with_reducible repeat (first | apply Kd.N_alloc | apply Kd.N_drewN | apply Kd.N_drew)); exact Kd.N_mono (Kd.N_far (p := ⟨gb341, 1, none⟩) (Kd.N_far (p := ⟨gb341, 0, none⟩) (Kd.N_mono HO329.out (fun k_ hk => (⟨hk, hk.2⟩ : _ ∧ k_ ≠ gb341))) (fun _ hk => hk.2) (.int .i64 t336)) (fun _ hk => hk.2) (.slice Ao34 t337.length co34)) (fun _ hk => ⟨hk.1.1.1.1.1.1, ⟨hk.1.1.1.1.2, ⟨hk.1.1.2, ⟨hk.1.1.1.1.1.2.1, ⟨hk.1.1.1.1.1.2.2, ⟨hk.1.1.1.2, hk.1.2⟩⟩⟩⟩⟩⟩)⟩
     have n2_ : Aside0 (Kd.N k25 25 ((w29.setCell ⟨gb341, 0, none⟩ (.int .i64 t336)).setCell ⟨gb341, 1, none⟩ (.slice Ao34 t337.length co34)) w.heap.size (fun k_ => some k_ ≠ (.slice Ao15 t323.length co15 : Value).ownBlock ∧ some k_ ≠ (.slice Ao18 t327.length co18 : Value).ownBlock ∧ some k_ ≠ (.slice Ao34 t337.length co34 : Value).ownBlock ∧ k_ ≠ gb320 ∧ k_ ≠ gb321 ∧ k_ ≠ gb335 ∧ k_ ≠ gb341) (.slice Ao27 t331.length co27) t331) := ⟨by (with_reducible repeat (first | apply Kd.N_alloc | apply Kd.N_drewN | apply Kd.N_drew)); exact Kd.N_mono (Kd.N_far (p := ⟨gb341, 1, none⟩) (Kd.N_far (p := ⟨gb341, 0, none⟩) (Kd.N_mono HO333.out (fun k_ hk => (⟨hk, hk.2⟩ : _ ∧ k_ ≠ gb341))) (fun _ hk => hk.2) (.int .i64 t336)) (fun _ hk => hk.2) (.slice Ao34 t337.length co34)) (fun _ hk => ⟨hk.1.1.1.1.1, ⟨hk.1.1.1.1.2.1, ⟨hk.1.1.2, ⟨hk.1.1.1.1.2.2.1, ⟨hk.1.1.1.1.2.2.2, ⟨hk.1.1.1.2, hk.1.2⟩⟩⟩⟩⟩⟩)⟩
     have n3_ : Aside0 (Kd.N k25 25 ((w29.setCell ⟨gb341, 0, none⟩ (.int .i64 t336)).setCell ⟨gb341, 1, none⟩ (.slice Ao34 t337.length co34)) w.heap.size (fun k_ => some k_ ≠ (.slice Ao15 t323.length co15 : Value).ownBlock ∧ some k_ ≠ (.slice Ao18 t327.length co18 : Value).ownBlock ∧ some k_ ≠ (.slice Ao27 t331.length co27 : Value).ownBlock ∧ k_ ≠ gb320 ∧ k_ ≠ gb321 ∧ k_ ≠ gb335 ∧ k_ ≠ gb341) (.slice Ao34 t337.length co34) t337) := ⟨by (with_reducible repeat (first | apply Kd.N_alloc | apply Kd.N_drewN | apply Kd.N_drew)); exact Kd.N_mono (Kd.N_far (p := ⟨gb341, 1, none⟩) (Kd.N_far (p := ⟨gb341, 0, none⟩) (Kd.N_mono HO339.out (fun k_ hk => (⟨hk, hk.2⟩ : _ ∧ k_ ≠ gb341))) (fun _ hk => hk.2) (.int .i64 t336)) (fun _ hk => hk.2) (.slice Ao34 t337.length co34)) (fun _ hk => ⟨hk.1.1.1, ⟨hk.1.1.2.1, ⟨hk.1.1.2.2.1, ⟨hk.1.1.2.2.2.1, ⟨hk.1.1.2.2.2.2.1, ⟨hk.1.1.2.2.2.2.2, hk.1.2⟩⟩⟩⟩⟩⟩)⟩
     have n4_ : Aside0 (((w29.setCell ⟨gb341, 0, none⟩ (.int .i64 t336)).setCell ⟨gb341, 1, none⟩ (.slice Ao34 t337.length co34)).heap[gb320]? = some (.cells #[.int .i64 t322, .slice Ao15 t323.length co15] 42 (0, 0))) := ⟨by (with_reducible repeat (first | refine blk_drewN ?_ _ | refine blk_drew ?_ | refine blk_alloc ?_ _)); refine blk_far ?_ NB320_341.out _; (with_reducible repeat (first | refine blk_drewN ?_ _ | refine blk_drew ?_ | refine blk_alloc ?_ _)); refine blk_far ?_ NB320_341.out _; (with_reducible repeat (first | refine blk_drewN ?_ _ | refine blk_drew ?_ | refine blk_alloc ?_ _)); exact BK320.out⟩
     have n5_ : Aside0 (((w29.setCell ⟨gb341, 0, none⟩ (.int .i64 t336)).setCell ⟨gb341, 1, none⟩ (.slice Ao34 t337.length co34)).heap[gb321]? = some (.cells #[.int .i64 t326, .slice Ao18 t327.length co18] 42 (0, 0))) := ⟨by (with_reducible repeat (first | refine blk_drewN ?_ _ | refine blk_drew ?_ | refine blk_alloc ?_ _)); refine blk_far ?_ NB321_341.out _; (with_reducible repeat (first | refine blk_drewN ?_ _ | refine blk_drew ?_ | refine blk_alloc ?_ _)); refine blk_far ?_ NB321_341.out _; (with_reducible repeat (first | refine blk_drewN ?_ _ | refine blk_drew ?_ | refine blk_alloc ?_ _)); exact BK321.out⟩
     have n6_ : Aside0 (((w29.setCell ⟨gb341, 0, none⟩ (.int .i64 t336)).setCell ⟨gb341, 1, none⟩ (.slice Ao34 t337.length co34)).heap[gb335]? = some (.cells #[.int .i64 t330, .slice Ao27 t331.length co27] 42 (0, 0))) := ⟨by (with_reducible repeat (first | refine blk_drewN ?_ _ | refine blk_drew ?_ | refine blk_alloc ?_ _)); refine blk_far ?_ NB335_341.out _; (with_reducible repeat (first | refine blk_drewN ?_ _ | refine blk_drew ?_ | refine blk_alloc ?_ _)); refine blk_far ?_ NB335_341.out _; (with_reducible repeat (first | refine blk_drewN ?_ _ | refine blk_drew ?_ | refine blk_alloc ?_ _)); exact BK335.out⟩
     have n7_ : Aside0 (((w29.setCell ⟨gb341, 0, none⟩ (.int .i64 t336)).setCell ⟨gb341, 1, none⟩ (.slice Ao34 t337.length co34)).heap[gb341]? = some (.cells #[.int .i64 t336, .slice Ao34 t337.length co34] 42 (0, 0))) := ⟨by (with_reducible repeat (first | refine blk_drewN ?_ _ | refine blk_drew ?_ | refine blk_alloc ?_ _)); refine blk_put (cs := #[.int .i64 t336, .slice none 0 0]) ?_ 1 _ rfl; (with_reducible repeat (first | refine blk_drewN ?_ _ | refine blk_drew ?_ | refine blk_alloc ?_ _)); refine blk_put (cs := #[.int .i64 0, .slice none 0 0]) ?_ 0 _ rfl; (with_reducible repeat (first | refine blk_drewN ?_ _ | refine blk_drew ?_ | refine blk_alloc ?_ _)); exact BK341.out⟩
     have n8_ : Aside0 (Below w.heap.size w ((w29.setCell ⟨gb341, 0, none⟩ (.int .i64 t336)).setCell ⟨gb341, 1, none⟩ (.slice Ao34 t337.length co34))) := ⟨pb HB⟩
     (try clear HO325)
     (try clear HO329)
     (try clear HO333)
     (try clear HO339)
     (try clear BK320)
     (try clear BK321)
     (try clear BK335)
     (try clear BK341)
     (try clear HB)
     generalize ((w29.setCell ⟨gb341, 0, none⟩ (.int .i64 t336)).setCell ⟨gb341, 1, none⟩ (.slice Ao34 t337.length co34)) = w54 at n0_ n1_ n2_ n3_ n4_ n5_ n6_ n7_ n8_ ⊢
     have HO325 := n0_
     have HO329 := n1_
     have HO333 := n2_
     have HO339 := n3_
     have BK320 := n4_
     have BK321 := n5_
     have BK335 := n6_
     have BK341 := n7_
     have HB := n8_
     clear n0_ n1_ n2_ n3_ n4_ n5_ n6_ n7_ n8_
     have n0_ := am (Kd.N_drew HO325.out)
     have n1_ := am (Kd.N_drew HO329.out)
     have n2_ := am (Kd.N_drew HO333.out)
     have n3_ := am (Kd.N_drew HO339.out)
     have n4_ := am (blk_drew BK320.out)
     have n5_ := am (blk_drew BK321.out)
     have n6_ := am (blk_drew BK335.out)
     have n7_ := am (blk_drew BK341.out)
     have n8_ := am (below_drew1 HB.out)
     clear HO325
     clear HO329
     clear HO333
     clear HO339
     clear BK320
     clear BK321
     clear BK335
     clear BK341
     clear HB
     have HO325 := n0_
     have HO329 := n1_
     have HO333 := n2_
     have HO339 := n3_
     have BK320 := n4_
     have BK321 := n5_
     have BK335 := n6_
     have BK341 := n7_
     have HB := n8_
     clear n0_ n1_ n2_ n3_ n4_ n5_ n6_ n7_ n8_
     refine start_ (n := 24) (S := fun w' => w'.cell? ⟨gb320, 0, none⟩ = some (.int .i64 t322) ∧ w'.cell? ⟨gb320, 1, none⟩ = some (.slice Ao15 t323.length co15) ∧ w'.cell? ⟨gb321, 0, none⟩ = some (.int .i64 t326) ∧ w'.cell? ⟨gb321, 1, none⟩ = some (.slice Ao18 t327.length co18)) (ds := []) #[F, F, F, F, F, F, F, F, F, F, F, F, F, F, F, F, F, F, F, F, F, F, F, F] (by kernel_rfl) rfl rfl ⟨(blk_cell BK320.out 0).trans rfl, (blk_cell BK320.out 1).trans rfl, (blk_cell BK321.out 0).trans rfl, (blk_cell BK321.out 1).trans rfl⟩ (fun hHeld => ?_); refine with_tabW downpourlaw03_MatrixTurns.tab4 downpourlaw03_MatrixTurns.bits4 (fun HT_ HW_ => ?_)
     generalize w54.drew = w55 at HO325 HO329 HO333 HO339 BK320 BK321 BK335 BK341 HB hHeld ⊢
     refine take_ (i := 0) (N := some 26) (v := ?_) (a' := ?_) #[T, F, F, F, F, F, F, F, F, F, F, F, F, F, F, F, F, F, F, F, F, F, F, F] rfl rfl (take_ofW HT_.out HW_.out (by kernel_rfl)) (fun _ _ _ h => h) (Or.inl ⟨by rfl, ?_⟩) hHeld ?_ ?_
     rotate_left
     ·
      rintro w' ⟨s0, s1, s2, s3⟩
      go_simp
      with_reducible rfl
     rotate_left
     ·
      simp only [Act.put, q1, q2, q3, i64_w, i32_w]
      rfl
     refine take_ (i := 2) (N := some 28) (v := ?_) (a' := ?_) #[T, F, T, F, F, F, F, F, F, F, F, F, F, F, F, F, F, F, F, F, F, F, F, F] rfl rfl (take_ofW HT_.out HW_.out (by kernel_rfl)) (fun _ _ _ h => h) (Or.inl ⟨by rfl, ?_⟩) hHeld ?_ ?_
     rotate_left
     ·
      rintro w' ⟨s0, s1, s2, s3⟩
      go_simp
      with_reducible rfl
     rotate_left
     ·
      simp only [Act.put, q1, q2, q3, i64_w, i32_w]
      rfl
     refine one_ (i := 1) (N := some 27) #[T, T, T, F, F, F, F, F, F, F, F, F, F, F, F, F, F, F, F, F, F, F, F, F] rfl rfl (one_of HT_.out (by kernel_rfl)) (by decide) (fun K hK => ?_)
     refine goes_ Try.func45 (by kernel_rfl) rfl #[.agg #[.int .i64 t322, .slice Ao15 t323.length co15]] (by rfl) rfl rfl (by (try simp only [List.map_toArray, List.map_cons, List.map_nil]); first | done | rfl | (simp only [List.length_drop, List.length_take]; rfl)) ?_
     with_reducible refine (matrix_Right.calls k t322 _ _ t323 t342 _ ?side1 ?side2 A35.out).mono ?_
     (case side1 => repeat (first | exact (Kd.N_reads' HO325.out).2.2 | (with_reducible refine Kd.C_alloc ?_ _) | (with_reducible refine Kd.C_drewN ?_ _) | (with_reducible refine Kd.C_drew ?_)))
     (case side2 => exact (Kd.N_reads' HO325.out).2.1)
     rintro e w56 ⟨rfl, hb⟩
     refine ⟨_, rfl, ?_⟩
     have n0_ := am (Kd.N_below (pn HO325) hb)
     have n1_ := am (Kd.N_below (pn HO329) hb)
     have n2_ := am (Kd.N_below (pn HO333) hb)
     have n3_ := am (Kd.N_below (pn HO339) hb)
     have n4_ := bb BK320 hb
     have n5_ := bb BK321 hb
     have n6_ := bb BK335 hb
     have n7_ := bb BK341 hb
     have n8_ := am (below_step (pb HB) hb)
     clear HO325
     clear HO329
     clear HO333
     clear HO339
     clear BK320
     clear BK321
     clear BK335
     clear BK341
     clear HB
     have HO325 := n0_
     have HO329 := n1_
     have HO333 := n2_
     have HO339 := n3_
     have BK320 := n4_
     have BK321 := n5_
     have BK335 := n6_
     have BK341 := n7_
     have HB := n8_
     clear n0_ n1_ n2_ n3_ n4_ n5_ n6_ n7_ n8_
     (try clear hb)
     (try clear hb2)
     (try clear hk)
     (try clear hi)
     refine hK.out _ _ ⟨(blk_cell BK320.out 0).trans rfl, (blk_cell BK320.out 1).trans rfl, (blk_cell BK321.out 0).trans rfl, (blk_cell BK321.out 1).trans rfl⟩ (fun hHeld => ?_)
     clear hK K
     refine norm_ (a' := ?_) ?_ ?_
     rotate_left
     ·
      show Act.put _ (some 27) _ = _
      simp only [Act.put, q1, q2, q3, i64_w, i32_w]
      rfl
     refine one_ (i := 3) (N := some 29) #[T, T, T, T, F, F, F, F, F, F, F, F, F, F, F, F, F, F, F, F, F, F, F, F] rfl rfl (one_of HT_.out (by kernel_rfl)) (by decide) (fun K hK => ?_)
     refine goes_ Try.func36 (by kernel_rfl) rfl #[.agg #[.int .i64 t322, .slice Ao15 t323.length co15]] (by rfl) rfl rfl (by (try simp only [List.map_toArray, List.map_cons, List.map_nil]); first | done | rfl | (simp only [List.length_drop, List.length_take]; rfl)) ?_
     with_reducible refine (downpourref03_Right.calls k t322 _ _ t323 t343 _ ?side1 ?side2 A36.out).mono ?_
     (case side1 => repeat (first | exact (Kd.N_reads' HO325.out).2.2 | (with_reducible refine Kd.C_alloc ?_ _) | (with_reducible refine Kd.C_drewN ?_ _) | (with_reducible refine Kd.C_drew ?_)))
     (case side2 => exact (Kd.N_reads' HO325.out).2.1)
     rintro e w57 ⟨rfl, hb⟩
     refine ⟨_, rfl, ?_⟩
     have n0_ := am (Kd.N_below (pn HO325) hb)
     have n1_ := am (Kd.N_below (pn HO329) hb)
     have n2_ := am (Kd.N_below (pn HO333) hb)
     have n3_ := am (Kd.N_below (pn HO339) hb)
     have n4_ := bb BK320 hb
     have n5_ := bb BK321 hb
     have n6_ := bb BK335 hb
     have n7_ := bb BK341 hb
     have n8_ := am (below_step (pb HB) hb)
     clear HO325
     clear HO329
     clear HO333
     clear HO339
     clear BK320
     clear BK321
     clear BK335
     clear BK341
     clear HB
     have HO325 := n0_
     have HO329 := n1_
     have HO333 := n2_
     have HO339 := n3_
     have BK320 := n4_
     have BK321 := n5_
     have BK335 := n6_
     have BK341 := n7_
     have HB := n8_
     clear n0_ n1_ n2_ n3_ n4_ n5_ n6_ n7_ n8_
     (try clear hb)
     (try clear hb2)
     (try clear hk)
     (try clear hi)
     refine hK.out _ _ ⟨(blk_cell BK320.out 0).trans rfl, (blk_cell BK320.out 1).trans rfl, (blk_cell BK321.out 0).trans rfl, (blk_cell BK321.out 1).trans rfl⟩ (fun hHeld => ?_)
     clear hK K
     refine norm_ (a' := ?_) ?_ ?_
     rotate_left
     ·
      show Act.put _ (some 29) _ = _
      simp only [Act.put, q1, q2, q3, i64_w, i32_w]
      rfl
     refine pure_ (i := 4) (N := some 30) (v := ?_) (a' := ?_) #[T, T, T, T, T, F, F, F, F, F, F, F, F, F, F, F, F, F, F, F, F, F, F, F] rfl rfl (any_of HT_.out (by kernel_rfl)) (fun _ _ _ h => h) (Or.inl ⟨by rfl, ?_⟩) ?_ ?_
     rotate_left
     ·
      intro w'
      go_simp
      with_reducible rfl
     rotate_left
     ·
      simp only [Act.put, q1, q2, q3, i64_w, i32_w]
      rfl
     refine pure_ (i := 5) (N := some 31) (v := ?_) (a' := ?_) #[T, T, T, T, T, T, F, F, F, F, F, F, F, F, F, F, F, F, F, F, F, F, F, F] rfl rfl (any_of HT_.out (by kernel_rfl)) (fun _ _ _ h => h) (Or.inl ⟨by rfl, ?_⟩) ?_ ?_
     rotate_left
     ·
      intro w'
      go_simp
      with_reducible rfl
     rotate_left
     ·
      simp only [Act.put, q1, q2, q3, i64_w, i32_w]
      rfl
     refine take_ (i := 6) (N := some 32) (v := ?_) (a' := ?_) #[T, T, T, T, T, T, T, F, F, F, F, F, F, F, F, F, F, F, F, F, F, F, F, F] rfl rfl (take_ofW HT_.out HW_.out (by kernel_rfl)) (fun _ _ _ h => h) (Or.inl ⟨by rfl, ?_⟩) hHeld ?_ ?_
     rotate_left
     ·
      rintro w' ⟨s0, s1, s2, s3⟩
      go_simp
      with_reducible rfl
     rotate_left
     ·
      simp only [Act.put, q1, q2, q3, i64_w, i32_w]
      rfl
     refine take_ (i := 7) (N := some 33) (v := ?_) (a' := ?_) #[T, T, T, T, T, T, T, T, F, F, F, F, F, F, F, F, F, F, F, F, F, F, F, F] rfl rfl (take_ofW HT_.out HW_.out (by kernel_rfl)) (fun _ _ _ h => h) (Or.inl ⟨by rfl, ?_⟩) hHeld ?_ ?_
     rotate_left
     ·
      rintro w' ⟨s0, s1, s2, s3⟩
      go_simp
      with_reducible rfl
     rotate_left
     ·
      simp only [Act.put, q1, q2, q3, i64_w, i32_w]
      rfl
     refine take_ (i := 9) (N := some 35) (v := ?_) (a' := ?_) #[T, T, T, T, T, T, T, T, F, T, F, F, F, F, F, F, F, F, F, F, F, F, F, F] rfl rfl (take_ofW HT_.out HW_.out (by kernel_rfl)) (fun _ _ _ h => h) (Or.inl ⟨by rfl, ?_⟩) hHeld ?_ ?_
     rotate_left
     ·
      rintro w' ⟨s0, s1, s2, s3⟩
      go_simp
      with_reducible rfl
     rotate_left
     ·
      simp only [Act.put, q1, q2, q3, i64_w, i32_w]
      rfl
     refine take_ (i := 10) (N := some 36) (v := ?_) (a' := ?_) #[T, T, T, T, T, T, T, T, F, T, T, F, F, F, F, F, F, F, F, F, F, F, F, F] rfl rfl (take_ofW HT_.out HW_.out (by kernel_rfl)) (fun _ _ _ h => h) (Or.inl ⟨by rfl, ?_⟩) hHeld ?_ ?_
     rotate_left
     ·
      rintro w' ⟨s0, s1, s2, s3⟩
      go_simp
      with_reducible rfl
     rotate_left
     ·
      simp only [Act.put, q1, q2, q3, i64_w, i32_w]
      rfl
     refine one_ (i := 8) (N := some 34) #[T, T, T, T, T, T, T, T, T, T, T, F, F, F, F, F, F, F, F, F, F, F, F, F] rfl rfl (one_of HT_.out (by kernel_rfl)) (by decide) (fun K hK => ?_)
     refine goes_ Try.func46 (by kernel_rfl) rfl #[.agg #[.int .i64 t322, .slice Ao15 t323.length co15], .agg #[.int .i64 t326, .slice Ao18 t327.length co18]] (by rfl) rfl rfl (by (try simp only [List.map_toArray, List.map_cons, List.map_nil]); first | done | rfl | (simp only [List.length_drop, List.length_take]; rfl)) ?_
     with_reducible refine (matrix_Like.calls k t322 _ _ t323 t326 _ _ t327 t344 _ ?side1 ?side2 ?side3 ?side4 A42.out).mono ?_
     (case side1 => repeat (first | exact (Kd.N_reads' HO325.out).2.2 | (with_reducible refine Kd.C_alloc ?_ _) | (with_reducible refine Kd.C_drewN ?_ _) | (with_reducible refine Kd.C_drew ?_)))
     (case side2 => exact (Kd.N_reads' HO325.out).2.1)
     (case side3 => repeat (first | exact (Kd.N_reads' HO329.out).2.2 | (with_reducible refine Kd.C_alloc ?_ _) | (with_reducible refine Kd.C_drewN ?_ _) | (with_reducible refine Kd.C_drew ?_)))
     (case side4 => exact (Kd.N_reads' HO329.out).2.1)
     rintro e w58 ⟨rfl, hb⟩
     refine ⟨_, rfl, ?_⟩
     have n0_ := am (Kd.N_below (pn HO325) hb)
     have n1_ := am (Kd.N_below (pn HO329) hb)
     have n2_ := am (Kd.N_below (pn HO333) hb)
     have n3_ := am (Kd.N_below (pn HO339) hb)
     have n4_ := bb BK320 hb
     have n5_ := bb BK321 hb
     have n6_ := bb BK335 hb
     have n7_ := bb BK341 hb
     have n8_ := am (below_step (pb HB) hb)
     clear HO325
     clear HO329
     clear HO333
     clear HO339
     clear BK320
     clear BK321
     clear BK335
     clear BK341
     clear HB
     have HO325 := n0_
     have HO329 := n1_
     have HO333 := n2_
     have HO339 := n3_
     have BK320 := n4_
     have BK321 := n5_
     have BK335 := n6_
     have BK341 := n7_
     have HB := n8_
     clear n0_ n1_ n2_ n3_ n4_ n5_ n6_ n7_ n8_
     (try clear hb)
     (try clear hb2)
     (try clear hk)
     (try clear hi)
     refine hK.out _ _ ⟨(blk_cell BK320.out 0).trans rfl, (blk_cell BK320.out 1).trans rfl, (blk_cell BK321.out 0).trans rfl, (blk_cell BK321.out 1).trans rfl⟩ (fun hHeld => ?_)
     clear hK K
     refine norm_ (a' := ?_) ?_ ?_
     rotate_left
     ·
      show Act.put _ (some 34) _ = _
      simp only [Act.put, q1, q2, q3, i64_w, i32_w]
      rfl
     refine one_ (i := 11) (N := some 37) #[T, T, T, T, T, T, T, T, T, T, T, T, F, F, F, F, F, F, F, F, F, F, F, F] rfl rfl (one_of HT_.out (by kernel_rfl)) (by decide) (fun K hK => ?_)
     refine goes_ Try.func38 (by kernel_rfl) rfl #[.agg #[.int .i64 t322, .slice Ao15 t323.length co15], .agg #[.int .i64 t326, .slice Ao18 t327.length co18]] (by rfl) rfl rfl (by (try simp only [List.map_toArray, List.map_cons, List.map_nil]); first | done | rfl | (simp only [List.length_drop, List.length_take]; rfl)) ?_
     with_reducible refine (downpourref03_Same.calls k t322 _ _ t323 t326 _ _ t327 t345 _ ?side1 ?side2 ?side3 ?side4 A43.out).mono ?_
     (case side1 => repeat (first | exact (Kd.N_reads' HO325.out).2.2 | (with_reducible refine Kd.C_alloc ?_ _) | (with_reducible refine Kd.C_drewN ?_ _) | (with_reducible refine Kd.C_drew ?_)))
     (case side2 => exact (Kd.N_reads' HO325.out).2.1)
     (case side3 => repeat (first | exact (Kd.N_reads' HO329.out).2.2 | (with_reducible refine Kd.C_alloc ?_ _) | (with_reducible refine Kd.C_drewN ?_ _) | (with_reducible refine Kd.C_drew ?_)))
     (case side4 => exact (Kd.N_reads' HO329.out).2.1)
     rintro e w59 ⟨rfl, hb⟩
     refine ⟨_, rfl, ?_⟩
     have n0_ := am (Kd.N_below (pn HO325) hb)
     have n1_ := am (Kd.N_below (pn HO329) hb)
     have n2_ := am (Kd.N_below (pn HO333) hb)
     have n3_ := am (Kd.N_below (pn HO339) hb)
     have n4_ := bb BK320 hb
     have n5_ := bb BK321 hb
     have n6_ := bb BK335 hb
     have n7_ := bb BK341 hb
     have n8_ := am (below_step (pb HB) hb)
     clear HO325
     clear HO329
     clear HO333
     clear HO339
     clear BK320
     clear BK321
     clear BK335
     clear BK341
     clear HB
     have HO325 := n0_
     have HO329 := n1_
     have HO333 := n2_
     have HO339 := n3_
     have BK320 := n4_
     have BK321 := n5_
     have BK335 := n6_
     have BK341 := n7_
     have HB := n8_
     clear n0_ n1_ n2_ n3_ n4_ n5_ n6_ n7_ n8_
     (try clear hb)
     (try clear hb2)
     (try clear hk)
     (try clear hi)
     refine hK.out _ _ ⟨(blk_cell BK320.out 0).trans rfl, (blk_cell BK320.out 1).trans rfl, (blk_cell BK321.out 0).trans rfl, (blk_cell BK321.out 1).trans rfl⟩ (fun hHeld => ?_)
     clear hK K
     refine norm_ (a' := ?_) ?_ ?_
     rotate_left
     ·
      show Act.put _ (some 37) _ = _
      simp only [Act.put, q1, q2, q3, i64_w, i32_w]
      rfl
     refine pure_ (i := 12) (N := some 38) (v := ?_) (a' := ?_) #[T, T, T, T, T, T, T, T, T, T, T, T, T, F, F, F, F, F, F, F, F, F, F, F] rfl rfl (any_of HT_.out (by kernel_rfl)) (fun _ _ _ h => h) (Or.inl ⟨by rfl, ?_⟩) ?_ ?_
     rotate_left
     ·
      intro w'
      go_simp
      with_reducible rfl
     rotate_left
     ·
      simp only [Act.put, q1, q2, q3, i64_w, i32_w]
      rfl
     refine pure_ (i := 13) (N := some 39) (v := ?_) (a' := ?_) #[T, T, T, T, T, T, T, T, T, T, T, T, T, T, F, F, F, F, F, F, F, F, F, F] rfl rfl (any_of HT_.out (by kernel_rfl)) (fun _ _ _ h => h) (Or.inl ⟨by rfl, ?_⟩) ?_ ?_
     rotate_left
     ·
      intro w'
      go_simp
      with_reducible rfl
     rotate_left
     ·
      simp only [Act.put, q1, q2, q3, i64_w, i32_w]
      rfl
     refine pure_ (i := 14) (N := some 40) (v := ?_) (a' := ?_) #[T, T, T, T, T, T, T, T, T, T, T, T, T, T, T, F, F, F, F, F, F, F, F, F] rfl rfl (any_of HT_.out (by kernel_rfl)) (fun _ _ _ h => h) (Or.inl ⟨by rfl, ?_⟩) ?_ ?_
     rotate_left
     ·
      intro w'
      go_simp
      with_reducible rfl
     rotate_left
     ·
      simp only [Act.put, q1, q2, q3, i64_w, i32_w]
      rfl
     refine take_ (i := 15) (N := some 41) (v := ?_) (a' := ?_) #[T, T, T, T, T, T, T, T, T, T, T, T, T, T, T, T, F, F, F, F, F, F, F, F] rfl rfl (take_ofW HT_.out HW_.out (by kernel_rfl)) (fun _ _ _ h => h) (Or.inl ⟨by rfl, ?_⟩) hHeld ?_ ?_
     rotate_left
     ·
      rintro w' ⟨s0, s1, s2, s3⟩
      go_simp
      with_reducible rfl
     rotate_left
     ·
      simp only [Act.put, q1, q2, q3, i64_w, i32_w]
      rfl
     refine take_ (i := 16) (N := some 42) (v := ?_) (a' := ?_) #[T, T, T, T, T, T, T, T, T, T, T, T, T, T, T, T, T, F, F, F, F, F, F, F] rfl rfl (take_ofW HT_.out HW_.out (by kernel_rfl)) (fun _ _ _ h => h) (Or.inl ⟨by rfl, ?_⟩) hHeld ?_ ?_
     rotate_left
     ·
      rintro w' ⟨s0, s1, s2, s3⟩
      go_simp
      with_reducible rfl
     rotate_left
     ·
      simp only [Act.put, q1, q2, q3, i64_w, i32_w]
      rfl
     refine one_ (i := 17) (N := some 43) #[T, T, T, T, T, T, T, T, T, T, T, T, T, T, T, T, T, T, F, F, F, F, F, F] rfl rfl (one_of HT_.out (by kernel_rfl)) (by decide) (fun K hK => ?_)
     refine goes_ Try.func46 (by kernel_rfl) rfl #[.agg #[.int .i64 t322, .slice Ao15 t323.length co15], .agg #[.int .i64 t322, .slice Ao15 t323.length co15]] (by rfl) rfl rfl (by (try simp only [List.map_toArray, List.map_cons, List.map_nil]); first | done | rfl | (simp only [List.length_drop, List.length_take]; rfl)) ?_
     with_reducible refine (matrix_Like.calls k t322 _ _ t323 t322 _ _ t323 true _ ?side1 ?side2 ?side3 ?side4 A51.out).mono ?_
     (case side1 => repeat (first | exact (Kd.N_reads' HO325.out).2.2 | (with_reducible refine Kd.C_alloc ?_ _) | (with_reducible refine Kd.C_drewN ?_ _) | (with_reducible refine Kd.C_drew ?_)))
     (case side2 => exact (Kd.N_reads' HO325.out).2.1)
     (case side3 => repeat (first | exact (Kd.N_reads' HO325.out).2.2 | (with_reducible refine Kd.C_alloc ?_ _) | (with_reducible refine Kd.C_drewN ?_ _) | (with_reducible refine Kd.C_drew ?_)))
     (case side4 => exact (Kd.N_reads' HO325.out).2.1)
     rintro e w60 ⟨rfl, hb⟩
     refine ⟨_, rfl, ?_⟩
     have n0_ := am (Kd.N_below (pn HO325) hb)
     have n1_ := am (Kd.N_below (pn HO329) hb)
     have n2_ := am (Kd.N_below (pn HO333) hb)
     have n3_ := am (Kd.N_below (pn HO339) hb)
     have n4_ := bb BK320 hb
     have n5_ := bb BK321 hb
     have n6_ := bb BK335 hb
     have n7_ := bb BK341 hb
     have n8_ := am (below_step (pb HB) hb)
     clear HO325
     clear HO329
     clear HO333
     clear HO339
     clear BK320
     clear BK321
     clear BK335
     clear BK341
     clear HB
     have HO325 := n0_
     have HO329 := n1_
     have HO333 := n2_
     have HO339 := n3_
     have BK320 := n4_
     have BK321 := n5_
     have BK335 := n6_
     have BK341 := n7_
     have HB := n8_
     clear n0_ n1_ n2_ n3_ n4_ n5_ n6_ n7_ n8_
     (try clear hb)
     (try clear hb2)
     (try clear hk)
     (try clear hi)
     refine hK.out _ _ ⟨(blk_cell BK320.out 0).trans rfl, (blk_cell BK320.out 1).trans rfl, (blk_cell BK321.out 0).trans rfl, (blk_cell BK321.out 1).trans rfl⟩ (fun hHeld => ?_)
     clear hK K
     refine norm_ (a' := ?_) ?_ ?_
     rotate_left
     ·
      show Act.put _ (some 43) _ = _
      simp only [Act.put, q1, q2, q3, i64_w, i32_w]
      rfl
     refine pure_ (i := 18) (N := some 44) (v := ?_) (a' := ?_) #[T, T, T, T, T, T, T, T, T, T, T, T, T, T, T, T, T, T, T, F, F, F, F, F] rfl rfl (any_of HT_.out (by kernel_rfl)) (fun _ _ _ h => h) (Or.inl ⟨by rfl, ?_⟩) ?_ ?_
     rotate_left
     ·
      intro w'
      go_simp
      with_reducible rfl
     rotate_left
     ·
      simp only [Act.put, q1, q2, q3, i64_w, i32_w]
      rfl
     refine pure_ (i := 19) (N := some 45) (v := ?_) (a' := ?_) #[T, T, T, T, T, T, T, T, T, T, T, T, T, T, T, T, T, T, T, T, F, F, F, F] rfl rfl (any_of HT_.out (by kernel_rfl)) (fun _ _ _ h => h) (Or.inl ⟨by rfl, ?_⟩) ?_ ?_
     rotate_left
     ·
      intro w'
      go_simp
      with_reducible rfl
     rotate_left
     ·
      simp only [Act.put, q1, q2, q3, i64_w, i32_w]
      rfl
     refine pure_ (i := 20) (N := some 46) (v := ?_) (a' := ?_) #[T, T, T, T, T, T, T, T, T, T, T, T, T, T, T, T, T, T, T, T, T, F, F, F] rfl rfl (any_of HT_.out (by kernel_rfl)) (fun _ _ _ h => h) (Or.inl ⟨by rfl, ?_⟩) ?_ ?_
     rotate_left
     ·
      intro w'
      go_simp
      with_reducible rfl
     rotate_left
     ·
      simp only [Act.put, q1, q2, q3, i64_w, i32_w]
      rfl
     refine one_ (i := 21) (N := some 47) #[T, T, T, T, T, T, T, T, T, T, T, T, T, T, T, T, T, T, T, T, T, T, F, F] rfl rfl (one_of HT_.out (by kernel_rfl)) (by decide) (fun K hK => ?_)
     refine goes_ Try.func47 (by kernel_rfl) rfl #[] (by rfl) rfl rfl (by (try simp only [List.map_toArray, List.map_cons, List.map_nil]); first | done | rfl | (simp only [List.length_drop, List.length_take]; rfl)) ?_
     with_reducible refine (downpourlaw03_alive.calls k  t347 _ A53.out).mono ?_
     rintro e w61 ⟨rfl, hb⟩
     refine ⟨_, rfl, ?_⟩
     have n0_ := am (Kd.N_below (pn HO325) hb)
     have n1_ := am (Kd.N_below (pn HO329) hb)
     have n2_ := am (Kd.N_below (pn HO333) hb)
     have n3_ := am (Kd.N_below (pn HO339) hb)
     have n4_ := bb BK320 hb
     have n5_ := bb BK321 hb
     have n6_ := bb BK335 hb
     have n7_ := bb BK341 hb
     have n8_ := am (below_step (pb HB) hb)
     clear HO325
     clear HO329
     clear HO333
     clear HO339
     clear BK320
     clear BK321
     clear BK335
     clear BK341
     clear HB
     have HO325 := n0_
     have HO329 := n1_
     have HO333 := n2_
     have HO339 := n3_
     have BK320 := n4_
     have BK321 := n5_
     have BK335 := n6_
     have BK341 := n7_
     have HB := n8_
     clear n0_ n1_ n2_ n3_ n4_ n5_ n6_ n7_ n8_
     (try clear hb)
     (try clear hb2)
     (try clear hk)
     (try clear hi)
     refine hK.out _ _ ⟨(blk_cell BK320.out 0).trans rfl, (blk_cell BK320.out 1).trans rfl, (blk_cell BK321.out 0).trans rfl, (blk_cell BK321.out 1).trans rfl⟩ (fun hHeld => ?_)
     clear hK K
     refine norm_ (a' := ?_) ?_ ?_
     rotate_left
     ·
      show Act.put _ (some 47) _ = _
      simp only [Act.put, q1, q2, q3, i64_w, i32_w]
      rfl
     refine pure_ (i := 22) (N := some 48) (v := ?_) (a' := ?_) #[T, T, T, T, T, T, T, T, T, T, T, T, T, T, T, T, T, T, T, T, T, T, T, F] rfl rfl (any_of HT_.out (by kernel_rfl)) (fun _ _ _ h => h) (Or.inl ⟨by rfl, ?_⟩) ?_ ?_
     rotate_left
     ·
      intro w'
      go_simp
      with_reducible rfl
     rotate_left
     ·
      simp only [Act.put, q1, q2, q3, i64_w, i32_w]
      rfl
     refine pure_ (i := 23) (N := some 49) (v := ?_) (a' := ?_) #[T, T, T, T, T, T, T, T, T, T, T, T, T, T, T, T, T, T, T, T, T, T, T, T] rfl rfl (any_of HT_.out (by kernel_rfl)) (fun _ _ _ h => h) (Or.inl ⟨by rfl, ?_⟩) ?_ ?_
     rotate_left
     ·
      intro w'
      go_simp
      with_reducible rfl
     rotate_left
     ·
      simp only [Act.put, q1, q2, q3, i64_w, i32_w]
      rfl
     refine done_ (done_of HT_.out (by kernel_rfl)) ?_
     try go_wp2
     go_meet
     case rel => exact ⟨_, (!t347), (by first | rfl | (simp; done) | (simp [*]; done)), H', ⟨by first | omega | exact Nat.le_refl _⟩, ⟨by (with_reducible repeat (first | apply Kd.N_alloc | apply Kd.N_drewN | apply Kd.N_drew)); exact HO325.out⟩, ⟨by (with_reducible repeat (first | apply Kd.N_alloc | apply Kd.N_drewN | apply Kd.N_drew)); exact HO329.out⟩, ⟨by (with_reducible repeat (first | apply Kd.N_alloc | apply Kd.N_drewN | apply Kd.N_drew)); exact HO333.out⟩, ⟨by (with_reducible repeat (first | apply Kd.N_alloc | apply Kd.N_drewN | apply Kd.N_drew)); exact HO339.out⟩, ⟨by (with_reducible repeat (first | refine blk_drewN ?_ _ | refine blk_drew ?_ | refine blk_alloc ?_ _)); exact BK320.out⟩, ⟨by (with_reducible repeat (first | refine blk_drewN ?_ _ | refine blk_drew ?_ | refine blk_alloc ?_ _)); exact BK321.out⟩, ⟨by (with_reducible repeat (first | refine blk_drewN ?_ _ | refine blk_drew ?_ | refine blk_alloc ?_ _)); exact BK335.out⟩, ⟨by (with_reducible repeat (first | refine blk_drewN ?_ _ | refine blk_drew ?_ | refine blk_alloc ?_ _)); exact BK341.out⟩, ⟨pb HB⟩⟩
    ·
     replace c52 := Bool.eq_false_iff.mpr c52
     subst c52
     have H1 : (downpourlaw03_MatrixTurns.j0 k a2 t334 t340 true t322 t323 t330 t331 t336 t337) = some r := by rw [if_neg (show ¬ (false = true) by decide)] at H; exact H
     clear H
     have H := H1
     clear H1
     have H' := Aside0.mk H
     clear H
     try go_wp2
     have n0_ : Aside0 (Kd.N k25 25 ((w29.setCell ⟨gb341, 0, none⟩ (.int .i64 t336)).setCell ⟨gb341, 1, none⟩ (.slice Ao34 t337.length co34)) w.heap.size (fun k_ => some k_ ≠ (.slice Ao18 t327.length co18 : Value).ownBlock ∧ some k_ ≠ (.slice Ao27 t331.length co27 : Value).ownBlock ∧ some k_ ≠ (.slice Ao34 t337.length co34 : Value).ownBlock ∧ k_ ≠ gb320 ∧ k_ ≠ gb321 ∧ k_ ≠ gb335 ∧ k_ ≠ gb341) (.slice Ao15 t323.length co15) t323) := ⟨by (with_reducible repeat (first | apply Kd.N_alloc | apply Kd.N_drewN | apply Kd.N_drew)); exact Kd.N_mono (Kd.N_far (p := ⟨gb341, 1, none⟩) (Kd.N_far (p := ⟨gb341, 0, none⟩) (Kd.N_mono HO325.out (fun k_ hk => (⟨hk, hk.2⟩ : _ ∧ k_ ≠ gb341))) (fun _ hk => hk.2) (.int .i64 t336)) (fun _ hk => hk.2) (.slice Ao34 t337.length co34)) (fun _ hk => ⟨hk.1.1.1.1.1.2, ⟨hk.1.1.1.1.2, ⟨hk.1.1.2, ⟨hk.1.1.1.1.1.1.1, ⟨hk.1.1.1.1.1.1.2, ⟨hk.1.1.1.2, hk.1.2⟩⟩⟩⟩⟩⟩)⟩
     have n1_ : Aside0 (Kd.N k25 25 ((w29.setCell ⟨gb341, 0, none⟩ (.int .i64 t336)).setCell ⟨gb341, 1, none⟩ (.slice Ao34 t337.length co34)) w.heap.size (fun k_ => some k_ ≠ (.slice Ao15 t323.length co15 : Value).ownBlock ∧ some k_ ≠ (.slice Ao27 t331.length co27 : Value).ownBlock ∧ some k_ ≠ (.slice Ao34 t337.length co34 : Value).ownBlock ∧ k_ ≠ gb320 ∧ k_ ≠ gb321 ∧ k_ ≠ gb335 ∧ k_ ≠ gb341) (.slice Ao18 t327.length co18) t327) := ⟨by (with_reducible repeat (first | apply Kd.N_alloc | apply Kd.N_drewN | apply Kd.N_drew)); exact Kd.N_mono (Kd.N_far (p := ⟨gb341, 1, none⟩) (Kd.N_far (p := ⟨gb341, 0, none⟩) (Kd.N_mono HO329.out (fun k_ hk => (⟨hk, hk.2⟩ : _ ∧ k_ ≠ gb341))) (fun _ hk => hk.2) (.int .i64 t336)) (fun _ hk => hk.2) (.slice Ao34 t337.length co34)) (fun _ hk => ⟨hk.1.1.1.1.1.1, ⟨hk.1.1.1.1.2, ⟨hk.1.1.2, ⟨hk.1.1.1.1.1.2.1, ⟨hk.1.1.1.1.1.2.2, ⟨hk.1.1.1.2, hk.1.2⟩⟩⟩⟩⟩⟩)⟩
     have n2_ : Aside0 (Kd.N k25 25 ((w29.setCell ⟨gb341, 0, none⟩ (.int .i64 t336)).setCell ⟨gb341, 1, none⟩ (.slice Ao34 t337.length co34)) w.heap.size (fun k_ => some k_ ≠ (.slice Ao15 t323.length co15 : Value).ownBlock ∧ some k_ ≠ (.slice Ao18 t327.length co18 : Value).ownBlock ∧ some k_ ≠ (.slice Ao34 t337.length co34 : Value).ownBlock ∧ k_ ≠ gb320 ∧ k_ ≠ gb321 ∧ k_ ≠ gb335 ∧ k_ ≠ gb341) (.slice Ao27 t331.length co27) t331) := ⟨by (with_reducible repeat (first | apply Kd.N_alloc | apply Kd.N_drewN | apply Kd.N_drew)); exact Kd.N_mono (Kd.N_far (p := ⟨gb341, 1, none⟩) (Kd.N_far (p := ⟨gb341, 0, none⟩) (Kd.N_mono HO333.out (fun k_ hk => (⟨hk, hk.2⟩ : _ ∧ k_ ≠ gb341))) (fun _ hk => hk.2) (.int .i64 t336)) (fun _ hk => hk.2) (.slice Ao34 t337.length co34)) (fun _ hk => ⟨hk.1.1.1.1.1, ⟨hk.1.1.1.1.2.1, ⟨hk.1.1.2, ⟨hk.1.1.1.1.2.2.1, ⟨hk.1.1.1.1.2.2.2, ⟨hk.1.1.1.2, hk.1.2⟩⟩⟩⟩⟩⟩)⟩
     have n3_ : Aside0 (Kd.N k25 25 ((w29.setCell ⟨gb341, 0, none⟩ (.int .i64 t336)).setCell ⟨gb341, 1, none⟩ (.slice Ao34 t337.length co34)) w.heap.size (fun k_ => some k_ ≠ (.slice Ao15 t323.length co15 : Value).ownBlock ∧ some k_ ≠ (.slice Ao18 t327.length co18 : Value).ownBlock ∧ some k_ ≠ (.slice Ao27 t331.length co27 : Value).ownBlock ∧ k_ ≠ gb320 ∧ k_ ≠ gb321 ∧ k_ ≠ gb335 ∧ k_ ≠ gb341) (.slice Ao34 t337.length co34) t337) := ⟨by (with_reducible repeat (first | apply Kd.N_alloc | apply Kd.N_drewN | apply Kd.N_drew)); exact Kd.N_mono (Kd.N_far (p := ⟨gb341, 1, none⟩) (Kd.N_far (p := ⟨gb341, 0, none⟩) (Kd.N_mono HO339.out (fun k_ hk => (⟨hk, hk.2⟩ : _ ∧ k_ ≠ gb341))) (fun _ hk => hk.2) (.int .i64 t336)) (fun _ hk => hk.2) (.slice Ao34 t337.length co34)) (fun _ hk => ⟨hk.1.1.1, ⟨hk.1.1.2.1, ⟨hk.1.1.2.2.1, ⟨hk.1.1.2.2.2.1, ⟨hk.1.1.2.2.2.2.1, ⟨hk.1.1.2.2.2.2.2, hk.1.2⟩⟩⟩⟩⟩⟩)⟩
     have n4_ : Aside0 (((w29.setCell ⟨gb341, 0, none⟩ (.int .i64 t336)).setCell ⟨gb341, 1, none⟩ (.slice Ao34 t337.length co34)).heap[gb320]? = some (.cells #[.int .i64 t322, .slice Ao15 t323.length co15] 42 (0, 0))) := ⟨by (with_reducible repeat (first | refine blk_drewN ?_ _ | refine blk_drew ?_ | refine blk_alloc ?_ _)); refine blk_far ?_ NB320_341.out _; (with_reducible repeat (first | refine blk_drewN ?_ _ | refine blk_drew ?_ | refine blk_alloc ?_ _)); refine blk_far ?_ NB320_341.out _; (with_reducible repeat (first | refine blk_drewN ?_ _ | refine blk_drew ?_ | refine blk_alloc ?_ _)); exact BK320.out⟩
     have n5_ : Aside0 (((w29.setCell ⟨gb341, 0, none⟩ (.int .i64 t336)).setCell ⟨gb341, 1, none⟩ (.slice Ao34 t337.length co34)).heap[gb321]? = some (.cells #[.int .i64 t326, .slice Ao18 t327.length co18] 42 (0, 0))) := ⟨by (with_reducible repeat (first | refine blk_drewN ?_ _ | refine blk_drew ?_ | refine blk_alloc ?_ _)); refine blk_far ?_ NB321_341.out _; (with_reducible repeat (first | refine blk_drewN ?_ _ | refine blk_drew ?_ | refine blk_alloc ?_ _)); refine blk_far ?_ NB321_341.out _; (with_reducible repeat (first | refine blk_drewN ?_ _ | refine blk_drew ?_ | refine blk_alloc ?_ _)); exact BK321.out⟩
     have n6_ : Aside0 (((w29.setCell ⟨gb341, 0, none⟩ (.int .i64 t336)).setCell ⟨gb341, 1, none⟩ (.slice Ao34 t337.length co34)).heap[gb335]? = some (.cells #[.int .i64 t330, .slice Ao27 t331.length co27] 42 (0, 0))) := ⟨by (with_reducible repeat (first | refine blk_drewN ?_ _ | refine blk_drew ?_ | refine blk_alloc ?_ _)); refine blk_far ?_ NB335_341.out _; (with_reducible repeat (first | refine blk_drewN ?_ _ | refine blk_drew ?_ | refine blk_alloc ?_ _)); refine blk_far ?_ NB335_341.out _; (with_reducible repeat (first | refine blk_drewN ?_ _ | refine blk_drew ?_ | refine blk_alloc ?_ _)); exact BK335.out⟩
     have n7_ : Aside0 (((w29.setCell ⟨gb341, 0, none⟩ (.int .i64 t336)).setCell ⟨gb341, 1, none⟩ (.slice Ao34 t337.length co34)).heap[gb341]? = some (.cells #[.int .i64 t336, .slice Ao34 t337.length co34] 42 (0, 0))) := ⟨by (with_reducible repeat (first | refine blk_drewN ?_ _ | refine blk_drew ?_ | refine blk_alloc ?_ _)); refine blk_put (cs := #[.int .i64 t336, .slice none 0 0]) ?_ 1 _ rfl; (with_reducible repeat (first | refine blk_drewN ?_ _ | refine blk_drew ?_ | refine blk_alloc ?_ _)); refine blk_put (cs := #[.int .i64 0, .slice none 0 0]) ?_ 0 _ rfl; (with_reducible repeat (first | refine blk_drewN ?_ _ | refine blk_drew ?_ | refine blk_alloc ?_ _)); exact BK341.out⟩
     have n8_ : Aside0 (Below w.heap.size w ((w29.setCell ⟨gb341, 0, none⟩ (.int .i64 t336)).setCell ⟨gb341, 1, none⟩ (.slice Ao34 t337.length co34))) := ⟨pb HB⟩
     (try clear HO325)
     (try clear HO329)
     (try clear HO333)
     (try clear HO339)
     (try clear BK320)
     (try clear BK321)
     (try clear BK335)
     (try clear BK341)
     (try clear HB)
     generalize ((w29.setCell ⟨gb341, 0, none⟩ (.int .i64 t336)).setCell ⟨gb341, 1, none⟩ (.slice Ao34 t337.length co34)) = w62 at n0_ n1_ n2_ n3_ n4_ n5_ n6_ n7_ n8_ ⊢
     have HO325 := n0_
     have HO329 := n1_
     have HO333 := n2_
     have HO339 := n3_
     have BK320 := n4_
     have BK321 := n5_
     have BK335 := n6_
     have BK341 := n7_
     have HB := n8_
     clear n0_ n1_ n2_ n3_ n4_ n5_ n6_ n7_ n8_
     have n0_ := am (Kd.N_drew HO325.out)
     have n1_ := am (Kd.N_drew HO329.out)
     have n2_ := am (Kd.N_drew HO333.out)
     have n3_ := am (Kd.N_drew HO339.out)
     have n4_ := am (blk_drew BK320.out)
     have n5_ := am (blk_drew BK321.out)
     have n6_ := am (blk_drew BK335.out)
     have n7_ := am (blk_drew BK341.out)
     have n8_ := am (below_drew1 HB.out)
     clear HO325
     clear HO329
     clear HO333
     clear HO339
     clear BK320
     clear BK321
     clear BK335
     clear BK341
     clear HB
     have HO325 := n0_
     have HO329 := n1_
     have HO333 := n2_
     have HO339 := n3_
     have BK320 := n4_
     have BK321 := n5_
     have BK335 := n6_
     have BK341 := n7_
     have HB := n8_
     clear n0_ n1_ n2_ n3_ n4_ n5_ n6_ n7_ n8_
     refine start_ (n := 24) (S := fun w' => w'.cell? ⟨gb320, 0, none⟩ = some (.int .i64 t322) ∧ w'.cell? ⟨gb320, 1, none⟩ = some (.slice Ao15 t323.length co15) ∧ w'.cell? ⟨gb321, 0, none⟩ = some (.int .i64 t326) ∧ w'.cell? ⟨gb321, 1, none⟩ = some (.slice Ao18 t327.length co18)) (ds := []) #[F, F, F, F, F, F, F, F, F, F, F, F, F, F, F, F, F, F, F, F, F, F, F, F] (by kernel_rfl) rfl rfl ⟨(blk_cell BK320.out 0).trans rfl, (blk_cell BK320.out 1).trans rfl, (blk_cell BK321.out 0).trans rfl, (blk_cell BK321.out 1).trans rfl⟩ (fun hHeld => ?_); refine with_tabW downpourlaw03_MatrixTurns.tab4 downpourlaw03_MatrixTurns.bits4 (fun HT_ HW_ => ?_)
     generalize w62.drew = w63 at HO325 HO329 HO333 HO339 BK320 BK321 BK335 BK341 HB hHeld ⊢
     refine take_ (i := 0) (N := some 26) (v := ?_) (a' := ?_) #[T, F, F, F, F, F, F, F, F, F, F, F, F, F, F, F, F, F, F, F, F, F, F, F] rfl rfl (take_ofW HT_.out HW_.out (by kernel_rfl)) (fun _ _ _ h => h) (Or.inl ⟨by rfl, ?_⟩) hHeld ?_ ?_
     rotate_left
     ·
      rintro w' ⟨s0, s1, s2, s3⟩
      go_simp
      with_reducible rfl
     rotate_left
     ·
      simp only [Act.put, q1, q2, q3, i64_w, i32_w]
      rfl
     refine take_ (i := 2) (N := some 28) (v := ?_) (a' := ?_) #[T, F, T, F, F, F, F, F, F, F, F, F, F, F, F, F, F, F, F, F, F, F, F, F] rfl rfl (take_ofW HT_.out HW_.out (by kernel_rfl)) (fun _ _ _ h => h) (Or.inl ⟨by rfl, ?_⟩) hHeld ?_ ?_
     rotate_left
     ·
      rintro w' ⟨s0, s1, s2, s3⟩
      go_simp
      with_reducible rfl
     rotate_left
     ·
      simp only [Act.put, q1, q2, q3, i64_w, i32_w]
      rfl
     refine one_ (i := 1) (N := some 27) #[T, T, T, F, F, F, F, F, F, F, F, F, F, F, F, F, F, F, F, F, F, F, F, F] rfl rfl (one_of HT_.out (by kernel_rfl)) (by decide) (fun K hK => ?_)
     refine goes_ Try.func45 (by kernel_rfl) rfl #[.agg #[.int .i64 t322, .slice Ao15 t323.length co15]] (by rfl) rfl rfl (by (try simp only [List.map_toArray, List.map_cons, List.map_nil]); first | done | rfl | (simp only [List.length_drop, List.length_take]; rfl)) ?_
     with_reducible refine (matrix_Right.calls k t322 _ _ t323 t342 _ ?side1 ?side2 A35.out).mono ?_
     (case side1 => repeat (first | exact (Kd.N_reads' HO325.out).2.2 | (with_reducible refine Kd.C_alloc ?_ _) | (with_reducible refine Kd.C_drewN ?_ _) | (with_reducible refine Kd.C_drew ?_)))
     (case side2 => exact (Kd.N_reads' HO325.out).2.1)
     rintro e w64 ⟨rfl, hb⟩
     refine ⟨_, rfl, ?_⟩
     have n0_ := am (Kd.N_below (pn HO325) hb)
     have n1_ := am (Kd.N_below (pn HO329) hb)
     have n2_ := am (Kd.N_below (pn HO333) hb)
     have n3_ := am (Kd.N_below (pn HO339) hb)
     have n4_ := bb BK320 hb
     have n5_ := bb BK321 hb
     have n6_ := bb BK335 hb
     have n7_ := bb BK341 hb
     have n8_ := am (below_step (pb HB) hb)
     clear HO325
     clear HO329
     clear HO333
     clear HO339
     clear BK320
     clear BK321
     clear BK335
     clear BK341
     clear HB
     have HO325 := n0_
     have HO329 := n1_
     have HO333 := n2_
     have HO339 := n3_
     have BK320 := n4_
     have BK321 := n5_
     have BK335 := n6_
     have BK341 := n7_
     have HB := n8_
     clear n0_ n1_ n2_ n3_ n4_ n5_ n6_ n7_ n8_
     (try clear hb)
     (try clear hb2)
     (try clear hk)
     (try clear hi)
     refine hK.out _ _ ⟨(blk_cell BK320.out 0).trans rfl, (blk_cell BK320.out 1).trans rfl, (blk_cell BK321.out 0).trans rfl, (blk_cell BK321.out 1).trans rfl⟩ (fun hHeld => ?_)
     clear hK K
     refine norm_ (a' := ?_) ?_ ?_
     rotate_left
     ·
      show Act.put _ (some 27) _ = _
      simp only [Act.put, q1, q2, q3, i64_w, i32_w]
      rfl
     refine one_ (i := 3) (N := some 29) #[T, T, T, T, F, F, F, F, F, F, F, F, F, F, F, F, F, F, F, F, F, F, F, F] rfl rfl (one_of HT_.out (by kernel_rfl)) (by decide) (fun K hK => ?_)
     refine goes_ Try.func36 (by kernel_rfl) rfl #[.agg #[.int .i64 t322, .slice Ao15 t323.length co15]] (by rfl) rfl rfl (by (try simp only [List.map_toArray, List.map_cons, List.map_nil]); first | done | rfl | (simp only [List.length_drop, List.length_take]; rfl)) ?_
     with_reducible refine (downpourref03_Right.calls k t322 _ _ t323 t343 _ ?side1 ?side2 A36.out).mono ?_
     (case side1 => repeat (first | exact (Kd.N_reads' HO325.out).2.2 | (with_reducible refine Kd.C_alloc ?_ _) | (with_reducible refine Kd.C_drewN ?_ _) | (with_reducible refine Kd.C_drew ?_)))
     (case side2 => exact (Kd.N_reads' HO325.out).2.1)
     rintro e w65 ⟨rfl, hb⟩
     refine ⟨_, rfl, ?_⟩
     have n0_ := am (Kd.N_below (pn HO325) hb)
     have n1_ := am (Kd.N_below (pn HO329) hb)
     have n2_ := am (Kd.N_below (pn HO333) hb)
     have n3_ := am (Kd.N_below (pn HO339) hb)
     have n4_ := bb BK320 hb
     have n5_ := bb BK321 hb
     have n6_ := bb BK335 hb
     have n7_ := bb BK341 hb
     have n8_ := am (below_step (pb HB) hb)
     clear HO325
     clear HO329
     clear HO333
     clear HO339
     clear BK320
     clear BK321
     clear BK335
     clear BK341
     clear HB
     have HO325 := n0_
     have HO329 := n1_
     have HO333 := n2_
     have HO339 := n3_
     have BK320 := n4_
     have BK321 := n5_
     have BK335 := n6_
     have BK341 := n7_
     have HB := n8_
     clear n0_ n1_ n2_ n3_ n4_ n5_ n6_ n7_ n8_
     (try clear hb)
     (try clear hb2)
     (try clear hk)
     (try clear hi)
     refine hK.out _ _ ⟨(blk_cell BK320.out 0).trans rfl, (blk_cell BK320.out 1).trans rfl, (blk_cell BK321.out 0).trans rfl, (blk_cell BK321.out 1).trans rfl⟩ (fun hHeld => ?_)
     clear hK K
     refine norm_ (a' := ?_) ?_ ?_
     rotate_left
     ·
      show Act.put _ (some 29) _ = _
      simp only [Act.put, q1, q2, q3, i64_w, i32_w]
      rfl
     refine pure_ (i := 4) (N := some 30) (v := ?_) (a' := ?_) #[T, T, T, T, T, F, F, F, F, F, F, F, F, F, F, F, F, F, F, F, F, F, F, F] rfl rfl (any_of HT_.out (by kernel_rfl)) (fun _ _ _ h => h) (Or.inl ⟨by rfl, ?_⟩) ?_ ?_
     rotate_left
     ·
      intro w'
      go_simp
      with_reducible rfl
     rotate_left
     ·
      simp only [Act.put, q1, q2, q3, i64_w, i32_w]
      rfl
     refine pure_ (i := 5) (N := some 31) (v := ?_) (a' := ?_) #[T, T, T, T, T, T, F, F, F, F, F, F, F, F, F, F, F, F, F, F, F, F, F, F] rfl rfl (any_of HT_.out (by kernel_rfl)) (fun _ _ _ h => h) (Or.inl ⟨by rfl, ?_⟩) ?_ ?_
     rotate_left
     ·
      intro w'
      go_simp
      with_reducible rfl
     rotate_left
     ·
      simp only [Act.put, q1, q2, q3, i64_w, i32_w]
      rfl
     refine take_ (i := 6) (N := some 32) (v := ?_) (a' := ?_) #[T, T, T, T, T, T, T, F, F, F, F, F, F, F, F, F, F, F, F, F, F, F, F, F] rfl rfl (take_ofW HT_.out HW_.out (by kernel_rfl)) (fun _ _ _ h => h) (Or.inl ⟨by rfl, ?_⟩) hHeld ?_ ?_
     rotate_left
     ·
      rintro w' ⟨s0, s1, s2, s3⟩
      go_simp
      with_reducible rfl
     rotate_left
     ·
      simp only [Act.put, q1, q2, q3, i64_w, i32_w]
      rfl
     refine take_ (i := 7) (N := some 33) (v := ?_) (a' := ?_) #[T, T, T, T, T, T, T, T, F, F, F, F, F, F, F, F, F, F, F, F, F, F, F, F] rfl rfl (take_ofW HT_.out HW_.out (by kernel_rfl)) (fun _ _ _ h => h) (Or.inl ⟨by rfl, ?_⟩) hHeld ?_ ?_
     rotate_left
     ·
      rintro w' ⟨s0, s1, s2, s3⟩
      go_simp
      with_reducible rfl
     rotate_left
     ·
      simp only [Act.put, q1, q2, q3, i64_w, i32_w]
      rfl
     refine take_ (i := 9) (N := some 35) (v := ?_) (a' := ?_) #[T, T, T, T, T, T, T, T, F, T, F, F, F, F, F, F, F, F, F, F, F, F, F, F] rfl rfl (take_ofW HT_.out HW_.out (by kernel_rfl)) (fun _ _ _ h => h) (Or.inl ⟨by rfl, ?_⟩) hHeld ?_ ?_
     rotate_left
     ·
      rintro w' ⟨s0, s1, s2, s3⟩
      go_simp
      with_reducible rfl
     rotate_left
     ·
      simp only [Act.put, q1, q2, q3, i64_w, i32_w]
      rfl
     refine take_ (i := 10) (N := some 36) (v := ?_) (a' := ?_) #[T, T, T, T, T, T, T, T, F, T, T, F, F, F, F, F, F, F, F, F, F, F, F, F] rfl rfl (take_ofW HT_.out HW_.out (by kernel_rfl)) (fun _ _ _ h => h) (Or.inl ⟨by rfl, ?_⟩) hHeld ?_ ?_
     rotate_left
     ·
      rintro w' ⟨s0, s1, s2, s3⟩
      go_simp
      with_reducible rfl
     rotate_left
     ·
      simp only [Act.put, q1, q2, q3, i64_w, i32_w]
      rfl
     refine one_ (i := 8) (N := some 34) #[T, T, T, T, T, T, T, T, T, T, T, F, F, F, F, F, F, F, F, F, F, F, F, F] rfl rfl (one_of HT_.out (by kernel_rfl)) (by decide) (fun K hK => ?_)
     refine goes_ Try.func46 (by kernel_rfl) rfl #[.agg #[.int .i64 t322, .slice Ao15 t323.length co15], .agg #[.int .i64 t326, .slice Ao18 t327.length co18]] (by rfl) rfl rfl (by (try simp only [List.map_toArray, List.map_cons, List.map_nil]); first | done | rfl | (simp only [List.length_drop, List.length_take]; rfl)) ?_
     with_reducible refine (matrix_Like.calls k t322 _ _ t323 t326 _ _ t327 t344 _ ?side1 ?side2 ?side3 ?side4 A42.out).mono ?_
     (case side1 => repeat (first | exact (Kd.N_reads' HO325.out).2.2 | (with_reducible refine Kd.C_alloc ?_ _) | (with_reducible refine Kd.C_drewN ?_ _) | (with_reducible refine Kd.C_drew ?_)))
     (case side2 => exact (Kd.N_reads' HO325.out).2.1)
     (case side3 => repeat (first | exact (Kd.N_reads' HO329.out).2.2 | (with_reducible refine Kd.C_alloc ?_ _) | (with_reducible refine Kd.C_drewN ?_ _) | (with_reducible refine Kd.C_drew ?_)))
     (case side4 => exact (Kd.N_reads' HO329.out).2.1)
     rintro e w66 ⟨rfl, hb⟩
     refine ⟨_, rfl, ?_⟩
     have n0_ := am (Kd.N_below (pn HO325) hb)
     have n1_ := am (Kd.N_below (pn HO329) hb)
     have n2_ := am (Kd.N_below (pn HO333) hb)
     have n3_ := am (Kd.N_below (pn HO339) hb)
     have n4_ := bb BK320 hb
     have n5_ := bb BK321 hb
     have n6_ := bb BK335 hb
     have n7_ := bb BK341 hb
     have n8_ := am (below_step (pb HB) hb)
     clear HO325
     clear HO329
     clear HO333
     clear HO339
     clear BK320
     clear BK321
     clear BK335
     clear BK341
     clear HB
     have HO325 := n0_
     have HO329 := n1_
     have HO333 := n2_
     have HO339 := n3_
     have BK320 := n4_
     have BK321 := n5_
     have BK335 := n6_
     have BK341 := n7_
     have HB := n8_
     clear n0_ n1_ n2_ n3_ n4_ n5_ n6_ n7_ n8_
     (try clear hb)
     (try clear hb2)
     (try clear hk)
     (try clear hi)
     refine hK.out _ _ ⟨(blk_cell BK320.out 0).trans rfl, (blk_cell BK320.out 1).trans rfl, (blk_cell BK321.out 0).trans rfl, (blk_cell BK321.out 1).trans rfl⟩ (fun hHeld => ?_)
     clear hK K
     refine norm_ (a' := ?_) ?_ ?_
     rotate_left
     ·
      show Act.put _ (some 34) _ = _
      simp only [Act.put, q1, q2, q3, i64_w, i32_w]
      rfl
     refine one_ (i := 11) (N := some 37) #[T, T, T, T, T, T, T, T, T, T, T, T, F, F, F, F, F, F, F, F, F, F, F, F] rfl rfl (one_of HT_.out (by kernel_rfl)) (by decide) (fun K hK => ?_)
     refine goes_ Try.func38 (by kernel_rfl) rfl #[.agg #[.int .i64 t322, .slice Ao15 t323.length co15], .agg #[.int .i64 t326, .slice Ao18 t327.length co18]] (by rfl) rfl rfl (by (try simp only [List.map_toArray, List.map_cons, List.map_nil]); first | done | rfl | (simp only [List.length_drop, List.length_take]; rfl)) ?_
     with_reducible refine (downpourref03_Same.calls k t322 _ _ t323 t326 _ _ t327 t345 _ ?side1 ?side2 ?side3 ?side4 A43.out).mono ?_
     (case side1 => repeat (first | exact (Kd.N_reads' HO325.out).2.2 | (with_reducible refine Kd.C_alloc ?_ _) | (with_reducible refine Kd.C_drewN ?_ _) | (with_reducible refine Kd.C_drew ?_)))
     (case side2 => exact (Kd.N_reads' HO325.out).2.1)
     (case side3 => repeat (first | exact (Kd.N_reads' HO329.out).2.2 | (with_reducible refine Kd.C_alloc ?_ _) | (with_reducible refine Kd.C_drewN ?_ _) | (with_reducible refine Kd.C_drew ?_)))
     (case side4 => exact (Kd.N_reads' HO329.out).2.1)
     rintro e w67 ⟨rfl, hb⟩
     refine ⟨_, rfl, ?_⟩
     have n0_ := am (Kd.N_below (pn HO325) hb)
     have n1_ := am (Kd.N_below (pn HO329) hb)
     have n2_ := am (Kd.N_below (pn HO333) hb)
     have n3_ := am (Kd.N_below (pn HO339) hb)
     have n4_ := bb BK320 hb
     have n5_ := bb BK321 hb
     have n6_ := bb BK335 hb
     have n7_ := bb BK341 hb
     have n8_ := am (below_step (pb HB) hb)
     clear HO325
     clear HO329
     clear HO333
     clear HO339
     clear BK320
     clear BK321
     clear BK335
     clear BK341
     clear HB
     have HO325 := n0_
     have HO329 := n1_
     have HO333 := n2_
     have HO339 := n3_
     have BK320 := n4_
     have BK321 := n5_
     have BK335 := n6_
     have BK341 := n7_
     have HB := n8_
     clear n0_ n1_ n2_ n3_ n4_ n5_ n6_ n7_ n8_
     (try clear hb)
     (try clear hb2)
     (try clear hk)
     (try clear hi)
     refine hK.out _ _ ⟨(blk_cell BK320.out 0).trans rfl, (blk_cell BK320.out 1).trans rfl, (blk_cell BK321.out 0).trans rfl, (blk_cell BK321.out 1).trans rfl⟩ (fun hHeld => ?_)
     clear hK K
     refine norm_ (a' := ?_) ?_ ?_
     rotate_left
     ·
      show Act.put _ (some 37) _ = _
      simp only [Act.put, q1, q2, q3, i64_w, i32_w]
      rfl
     refine pure_ (i := 12) (N := some 38) (v := ?_) (a' := ?_) #[T, T, T, T, T, T, T, T, T, T, T, T, T, F, F, F, F, F, F, F, F, F, F, F] rfl rfl (any_of HT_.out (by kernel_rfl)) (fun _ _ _ h => h) (Or.inl ⟨by rfl, ?_⟩) ?_ ?_
     rotate_left
     ·
      intro w'
      go_simp
      with_reducible rfl
     rotate_left
     ·
      simp only [Act.put, q1, q2, q3, i64_w, i32_w]
      rfl
     refine pure_ (i := 13) (N := some 39) (v := ?_) (a' := ?_) #[T, T, T, T, T, T, T, T, T, T, T, T, T, T, F, F, F, F, F, F, F, F, F, F] rfl rfl (any_of HT_.out (by kernel_rfl)) (fun _ _ _ h => h) (Or.inl ⟨by rfl, ?_⟩) ?_ ?_
     rotate_left
     ·
      intro w'
      go_simp
      with_reducible rfl
     rotate_left
     ·
      simp only [Act.put, q1, q2, q3, i64_w, i32_w]
      rfl
     refine pure_ (i := 14) (N := some 40) (v := ?_) (a' := ?_) #[T, T, T, T, T, T, T, T, T, T, T, T, T, T, T, F, F, F, F, F, F, F, F, F] rfl rfl (any_of HT_.out (by kernel_rfl)) (fun _ _ _ h => h) (Or.inl ⟨by rfl, ?_⟩) ?_ ?_
     rotate_left
     ·
      intro w'
      go_simp
      with_reducible rfl
     rotate_left
     ·
      simp only [Act.put, q1, q2, q3, i64_w, i32_w]
      rfl
     refine take_ (i := 15) (N := some 41) (v := ?_) (a' := ?_) #[T, T, T, T, T, T, T, T, T, T, T, T, T, T, T, T, F, F, F, F, F, F, F, F] rfl rfl (take_ofW HT_.out HW_.out (by kernel_rfl)) (fun _ _ _ h => h) (Or.inl ⟨by rfl, ?_⟩) hHeld ?_ ?_
     rotate_left
     ·
      rintro w' ⟨s0, s1, s2, s3⟩
      go_simp
      with_reducible rfl
     rotate_left
     ·
      simp only [Act.put, q1, q2, q3, i64_w, i32_w]
      rfl
     refine take_ (i := 16) (N := some 42) (v := ?_) (a' := ?_) #[T, T, T, T, T, T, T, T, T, T, T, T, T, T, T, T, T, F, F, F, F, F, F, F] rfl rfl (take_ofW HT_.out HW_.out (by kernel_rfl)) (fun _ _ _ h => h) (Or.inl ⟨by rfl, ?_⟩) hHeld ?_ ?_
     rotate_left
     ·
      rintro w' ⟨s0, s1, s2, s3⟩
      go_simp
      with_reducible rfl
     rotate_left
     ·
      simp only [Act.put, q1, q2, q3, i64_w, i32_w]
      rfl
     refine one_ (i := 17) (N := some 43) #[T, T, T, T, T, T, T, T, T, T, T, T, T, T, T, T, T, T, F, F, F, F, F, F] rfl rfl (one_of HT_.out (by kernel_rfl)) (by decide) (fun K hK => ?_)
     refine goes_ Try.func46 (by kernel_rfl) rfl #[.agg #[.int .i64 t322, .slice Ao15 t323.length co15], .agg #[.int .i64 t322, .slice Ao15 t323.length co15]] (by rfl) rfl rfl (by (try simp only [List.map_toArray, List.map_cons, List.map_nil]); first | done | rfl | (simp only [List.length_drop, List.length_take]; rfl)) ?_
     with_reducible refine (matrix_Like.calls k t322 _ _ t323 t322 _ _ t323 false _ ?side1 ?side2 ?side3 ?side4 A51.out).mono ?_
     (case side1 => repeat (first | exact (Kd.N_reads' HO325.out).2.2 | (with_reducible refine Kd.C_alloc ?_ _) | (with_reducible refine Kd.C_drewN ?_ _) | (with_reducible refine Kd.C_drew ?_)))
     (case side2 => exact (Kd.N_reads' HO325.out).2.1)
     (case side3 => repeat (first | exact (Kd.N_reads' HO325.out).2.2 | (with_reducible refine Kd.C_alloc ?_ _) | (with_reducible refine Kd.C_drewN ?_ _) | (with_reducible refine Kd.C_drew ?_)))
     (case side4 => exact (Kd.N_reads' HO325.out).2.1)
     rintro e w68 ⟨rfl, hb⟩
     refine ⟨_, rfl, ?_⟩
     have n0_ := am (Kd.N_below (pn HO325) hb)
     have n1_ := am (Kd.N_below (pn HO329) hb)
     have n2_ := am (Kd.N_below (pn HO333) hb)
     have n3_ := am (Kd.N_below (pn HO339) hb)
     have n4_ := bb BK320 hb
     have n5_ := bb BK321 hb
     have n6_ := bb BK335 hb
     have n7_ := bb BK341 hb
     have n8_ := am (below_step (pb HB) hb)
     clear HO325
     clear HO329
     clear HO333
     clear HO339
     clear BK320
     clear BK321
     clear BK335
     clear BK341
     clear HB
     have HO325 := n0_
     have HO329 := n1_
     have HO333 := n2_
     have HO339 := n3_
     have BK320 := n4_
     have BK321 := n5_
     have BK335 := n6_
     have BK341 := n7_
     have HB := n8_
     clear n0_ n1_ n2_ n3_ n4_ n5_ n6_ n7_ n8_
     (try clear hb)
     (try clear hb2)
     (try clear hk)
     (try clear hi)
     refine hK.out _ _ ⟨(blk_cell BK320.out 0).trans rfl, (blk_cell BK320.out 1).trans rfl, (blk_cell BK321.out 0).trans rfl, (blk_cell BK321.out 1).trans rfl⟩ (fun hHeld => ?_)
     clear hK K
     refine norm_ (a' := ?_) ?_ ?_
     rotate_left
     ·
      show Act.put _ (some 43) _ = _
      simp only [Act.put, q1, q2, q3, i64_w, i32_w]
      rfl
     refine pure_ (i := 18) (N := some 44) (v := ?_) (a' := ?_) #[T, T, T, T, T, T, T, T, T, T, T, T, T, T, T, T, T, T, T, F, F, F, F, F] rfl rfl (any_of HT_.out (by kernel_rfl)) (fun _ _ _ h => h) (Or.inl ⟨by rfl, ?_⟩) ?_ ?_
     rotate_left
     ·
      intro w'
      go_simp
      with_reducible rfl
     rotate_left
     ·
      simp only [Act.put, q1, q2, q3, i64_w, i32_w]
      rfl
     refine pure_ (i := 19) (N := some 45) (v := ?_) (a' := ?_) #[T, T, T, T, T, T, T, T, T, T, T, T, T, T, T, T, T, T, T, T, F, F, F, F] rfl rfl (any_of HT_.out (by kernel_rfl)) (fun _ _ _ h => h) (Or.inl ⟨by rfl, ?_⟩) ?_ ?_
     rotate_left
     ·
      intro w'
      go_simp
      with_reducible rfl
     rotate_left
     ·
      simp only [Act.put, q1, q2, q3, i64_w, i32_w]
      rfl
     refine pure_ (i := 20) (N := some 46) (v := ?_) (a' := ?_) #[T, T, T, T, T, T, T, T, T, T, T, T, T, T, T, T, T, T, T, T, T, F, F, F] rfl rfl (any_of HT_.out (by kernel_rfl)) (fun _ _ _ h => h) (Or.inl ⟨by rfl, ?_⟩) ?_ ?_
     rotate_left
     ·
      intro w'
      go_simp
      with_reducible rfl
     rotate_left
     ·
      simp only [Act.put, q1, q2, q3, i64_w, i32_w]
      rfl
     refine pure_ (i := 21) (N := some 47) (v := undef) (a' := ?_) #[T, T, T, T, T, T, T, T, T, T, T, T, T, T, T, T, T, T, T, T, T, T, F, F] rfl rfl (any_of HT_.out (by kernel_rfl)) (fun _ _ _ h => h) (Or.inr ⟨by rfl, rfl⟩) ?_ ?_
     rotate_left
     ·
      simp only [Act.put, q1, q2, q3, i64_w, i32_w]
      rfl
     refine pure_ (i := 22) (N := some 48) (v := undef) (a' := ?_) #[T, T, T, T, T, T, T, T, T, T, T, T, T, T, T, T, T, T, T, T, T, T, T, F] rfl rfl (any_of HT_.out (by kernel_rfl)) (fun _ _ _ h => h) (Or.inr ⟨by rfl, rfl⟩) ?_ ?_
     rotate_left
     ·
      simp only [Act.put, q1, q2, q3, i64_w, i32_w]
      rfl
     refine pure_ (i := 23) (N := some 49) (v := ?_) (a' := ?_) #[T, T, T, T, T, T, T, T, T, T, T, T, T, T, T, T, T, T, T, T, T, T, T, T] rfl rfl (any_of HT_.out (by kernel_rfl)) (fun _ _ _ h => h) (Or.inl ⟨by rfl, ?_⟩) ?_ ?_
     rotate_left
     ·
      intro w'
      go_simp
      with_reducible rfl
     rotate_left
     ·
      simp only [Act.put, q1, q2, q3, i64_w, i32_w]
      rfl
     refine done_ (done_of HT_.out (by kernel_rfl)) ?_
     try go_wp2
     go_meet
     case rel => exact ⟨_, (true), (by first | rfl | (simp; done) | (simp [*]; done)), H', ⟨by first | omega | exact Nat.le_refl _⟩, ⟨by (with_reducible repeat (first | apply Kd.N_alloc | apply Kd.N_drewN | apply Kd.N_drew)); exact HO325.out⟩, ⟨by (with_reducible repeat (first | apply Kd.N_alloc | apply Kd.N_drewN | apply Kd.N_drew)); exact HO329.out⟩, ⟨by (with_reducible repeat (first | apply Kd.N_alloc | apply Kd.N_drewN | apply Kd.N_drew)); exact HO333.out⟩, ⟨by (with_reducible repeat (first | apply Kd.N_alloc | apply Kd.N_drewN | apply Kd.N_drew)); exact HO339.out⟩, ⟨by (with_reducible repeat (first | refine blk_drewN ?_ _ | refine blk_drew ?_ | refine blk_alloc ?_ _)); exact BK320.out⟩, ⟨by (with_reducible repeat (first | refine blk_drewN ?_ _ | refine blk_drew ?_ | refine blk_alloc ?_ _)); exact BK321.out⟩, ⟨by (with_reducible repeat (first | refine blk_drewN ?_ _ | refine blk_drew ?_ | refine blk_alloc ?_ _)); exact BK335.out⟩, ⟨by (with_reducible repeat (first | refine blk_drewN ?_ _ | refine blk_drew ?_ | refine blk_alloc ?_ _)); exact BK341.out⟩, ⟨pb HB⟩⟩
 case rest =>
  clear HC8
  try clear p2
  try clear c3
  try clear c4
  try clear c5
  try clear c36
  try clear c38
  try clear c45
  try clear c46
  try clear c47
  try clear c52
  obtain ⟨kq, x49_7, rfl, HA, HJ7, HO_321001, HO_322001, HO_336001, HO_342001, BK320, BK321, BK335, BK341, HB⟩ := hcut
  cases kq with
  | zero => exact absurd HA.out (by simp [downpourlaw03_MatrixTurns.j0])
  | succ kj7 =>
   have H := HA.out
   clear HA
   simp only [downpourlaw03_MatrixTurns.j0] at H
   by_cases c69 : x49_7 = true
   ·
    subst c69
    have H1 : (none) = some r := by rw [if_pos rfl] at H; exact H
    clear H
    have H := H1
    clear H1
    exact absurd H (by simp)
   ·
    replace c69 := Bool.eq_false_iff.mpr c69
    subst c69
    have H1 : (if a2 ≥ 0 then (downpourlaw03_MatrixTurns.j1 kj7 a2 t334 t340 (decide (a2 ≤ 64)) t322 t323 t330 t331 t336 t337) else (downpourlaw03_MatrixTurns.j1 kj7 a2 t334 t340 false t322 t323 t330 t331 t336 t337)) = some r := by rw [if_neg (show ¬ (false = true) by decide)] at H; exact H
    clear H
    have H := H1
    clear H1
    have HC70 := Aside0.mk H
    clear H
    go_upto_region 6 with (fail)
    go_cut [11] (fun v11 wc => ∃ (kq : Nat) (x11_69 : Bool), v11 = .bool x11_69 ∧ Aside0 (downpourlaw03_MatrixTurns.j1 kq a2 t334 t340 x11_69 t322 t323 t330 t331 t336 t337 = some r) ∧ Aside0 (kq ≤ kj7) ∧ Aside0 (Kd.N k25 25 wc w.heap.size (fun k_ => some k_ ≠ ((.slice Ao18 t327.length co18) : Value).ownBlock ∧ some k_ ≠ ((.slice Ao27 t331.length co27) : Value).ownBlock ∧ some k_ ≠ ((.slice Ao34 t337.length co34) : Value).ownBlock ∧ k_ ≠ gb320 ∧ k_ ≠ gb321 ∧ k_ ≠ gb335 ∧ k_ ≠ gb341) (.slice Ao15 t323.length co15) t323) ∧ Aside0 (Kd.N k25 25 wc w.heap.size (fun k_ => some k_ ≠ ((.slice Ao15 t323.length co15) : Value).ownBlock ∧ some k_ ≠ ((.slice Ao27 t331.length co27) : Value).ownBlock ∧ some k_ ≠ ((.slice Ao34 t337.length co34) : Value).ownBlock ∧ k_ ≠ gb320 ∧ k_ ≠ gb321 ∧ k_ ≠ gb335 ∧ k_ ≠ gb341) (.slice Ao18 t327.length co18) t327) ∧ Aside0 (Kd.N k25 25 wc w.heap.size (fun k_ => some k_ ≠ ((.slice Ao15 t323.length co15) : Value).ownBlock ∧ some k_ ≠ ((.slice Ao18 t327.length co18) : Value).ownBlock ∧ some k_ ≠ ((.slice Ao34 t337.length co34) : Value).ownBlock ∧ k_ ≠ gb320 ∧ k_ ≠ gb321 ∧ k_ ≠ gb335 ∧ k_ ≠ gb341) (.slice Ao27 t331.length co27) t331) ∧ Aside0 (Kd.N k25 25 wc w.heap.size (fun k_ => some k_ ≠ ((.slice Ao15 t323.length co15) : Value).ownBlock ∧ some k_ ≠ ((.slice Ao18 t327.length co18) : Value).ownBlock ∧ some k_ ≠ ((.slice Ao27 t331.length co27) : Value).ownBlock ∧ k_ ≠ gb320 ∧ k_ ≠ gb321 ∧ k_ ≠ gb335 ∧ k_ ≠ gb341) (.slice Ao34 t337.length co34) t337) ∧ Aside0 (wc.heap[gb320]? = some (.cells #[.int .i64 t322, (.slice Ao15 t323.length co15)] 42 (0, 0))) ∧ Aside0 (wc.heap[gb321]? = some (.cells #[.int .i64 t326, (.slice Ao18 t327.length co18)] 42 (0, 0))) ∧ Aside0 (wc.heap[gb335]? = some (.cells #[.int .i64 t330, (.slice Ao27 t331.length co27)] 42 (0, 0))) ∧ Aside0 (wc.heap[gb341]? = some (.cells #[.int .i64 t336, (.slice Ao34 t337.length co34)] 42 (0, 0))) ∧ Aside0 (Below w.heap.size w wc))
    case first =>
     have H := HC70.out
     clear HC70
     by_cases c71 : a2 ≥ 0
     ·
      rw [if_pos c71] at H
      have c71b0 : decide (0 ≤ a2) = true := decide_eq_true c71
      clear c71
      (first | rw [c71b0] | (simp only [i64_w, i32_w]; rw [c71b0]) | skip)
      have H' := Aside0.mk H
      clear H
      go_wp2
      go_meet
      case rel => exact ⟨_, (decide (a2 ≤ 64)), (by first | rfl | (simp; done) | (simp [*]; done)), H', ⟨by have := HJ7.out; first | omega | exact Nat.le_refl _⟩, ⟨by (with_reducible repeat (first | apply Kd.N_alloc | apply Kd.N_drewN | apply Kd.N_drew)); exact HO_321001.out⟩, ⟨by (with_reducible repeat (first | apply Kd.N_alloc | apply Kd.N_drewN | apply Kd.N_drew)); exact HO_322001.out⟩, ⟨by (with_reducible repeat (first | apply Kd.N_alloc | apply Kd.N_drewN | apply Kd.N_drew)); exact HO_336001.out⟩, ⟨by (with_reducible repeat (first | apply Kd.N_alloc | apply Kd.N_drewN | apply Kd.N_drew)); exact HO_342001.out⟩, ⟨by (with_reducible repeat (first | refine blk_drewN ?_ _ | refine blk_drew ?_ | refine blk_alloc ?_ _)); exact BK320.out⟩, ⟨by (with_reducible repeat (first | refine blk_drewN ?_ _ | refine blk_drew ?_ | refine blk_alloc ?_ _)); exact BK321.out⟩, ⟨by (with_reducible repeat (first | refine blk_drewN ?_ _ | refine blk_drew ?_ | refine blk_alloc ?_ _)); exact BK335.out⟩, ⟨by (with_reducible repeat (first | refine blk_drewN ?_ _ | refine blk_drew ?_ | refine blk_alloc ?_ _)); exact BK341.out⟩, ⟨pb HB⟩⟩
     ·
      rw [if_neg c71] at H
      have c71b0 : decide (0 ≤ a2) = false := decide_eq_false c71
      clear c71
      (first | rw [c71b0] | (simp only [i64_w, i32_w]; rw [c71b0]) | skip)
      have H' := Aside0.mk H
      clear H
      go_wp2
      go_meet
      case rel => exact ⟨_, (false), (by first | rfl | (simp; done) | (simp [*]; done)), H', ⟨by have := HJ7.out; first | omega | exact Nat.le_refl _⟩, ⟨by (with_reducible repeat (first | apply Kd.N_alloc | apply Kd.N_drewN | apply Kd.N_drew)); exact HO_321001.out⟩, ⟨by (with_reducible repeat (first | apply Kd.N_alloc | apply Kd.N_drewN | apply Kd.N_drew)); exact HO_322001.out⟩, ⟨by (with_reducible repeat (first | apply Kd.N_alloc | apply Kd.N_drewN | apply Kd.N_drew)); exact HO_336001.out⟩, ⟨by (with_reducible repeat (first | apply Kd.N_alloc | apply Kd.N_drewN | apply Kd.N_drew)); exact HO_342001.out⟩, ⟨by (with_reducible repeat (first | refine blk_drewN ?_ _ | refine blk_drew ?_ | refine blk_alloc ?_ _)); exact BK320.out⟩, ⟨by (with_reducible repeat (first | refine blk_drewN ?_ _ | refine blk_drew ?_ | refine blk_alloc ?_ _)); exact BK321.out⟩, ⟨by (with_reducible repeat (first | refine blk_drewN ?_ _ | refine blk_drew ?_ | refine blk_alloc ?_ _)); exact BK335.out⟩, ⟨by (with_reducible repeat (first | refine blk_drewN ?_ _ | refine blk_drew ?_ | refine blk_alloc ?_ _)); exact BK341.out⟩, ⟨pb HB⟩⟩
    case rest =>
     clear HC70
     try clear p2
     try clear c3
     try clear c4
     try clear c5
     try clear c6
     try clear c7
     try clear c36
     try clear c38
     try clear c45
     try clear c46
     try clear c47
     try clear c52
     try clear c69
     try clear c71
     try clear c71b0
     try clear p2
     obtain ⟨kq, x11_69, rfl, HA, HJ69, HO_321001, HO_322001, HO_336001, HO_342001, BK320, BK321, BK335, BK341, HB⟩ := hcut
     cases kq with
     | zero => exact absurd HA.out (by simp [downpourlaw03_MatrixTurns.j1])
     | succ kj69 =>
      have H := HA.out
      clear HA
      simp only [downpourlaw03_MatrixTurns.j1] at H
      have HC72 := Aside0.mk H
      clear H
      go_upto_region 7 with (fail)
      go_cut [81] (fun v81 wc => ∃ (kq : Nat) (x81_71 : Bool), v81 = .bool x81_71 ∧ Aside0 (downpourlaw03_MatrixTurns.j2 kq t334 x81_71 t322 t323 t330 t331 = some r) ∧ Aside0 (kq ≤ kj69) ∧ Aside0 (Kd.N k25 25 wc w.heap.size (fun k_ => some k_ ≠ ((.slice Ao18 t327.length co18) : Value).ownBlock ∧ some k_ ≠ ((.slice Ao27 t331.length co27) : Value).ownBlock ∧ some k_ ≠ ((.slice Ao34 t337.length co34) : Value).ownBlock ∧ k_ ≠ gb320 ∧ k_ ≠ gb321 ∧ k_ ≠ gb335 ∧ k_ ≠ gb341) (.slice Ao15 t323.length co15) t323) ∧ Aside0 (Kd.N k25 25 wc w.heap.size (fun k_ => some k_ ≠ ((.slice Ao15 t323.length co15) : Value).ownBlock ∧ some k_ ≠ ((.slice Ao27 t331.length co27) : Value).ownBlock ∧ some k_ ≠ ((.slice Ao34 t337.length co34) : Value).ownBlock ∧ k_ ≠ gb320 ∧ k_ ≠ gb321 ∧ k_ ≠ gb335 ∧ k_ ≠ gb341) (.slice Ao18 t327.length co18) t327) ∧ Aside0 (Kd.N k25 25 wc w.heap.size (fun k_ => some k_ ≠ ((.slice Ao15 t323.length co15) : Value).ownBlock ∧ some k_ ≠ ((.slice Ao18 t327.length co18) : Value).ownBlock ∧ some k_ ≠ ((.slice Ao34 t337.length co34) : Value).ownBlock ∧ k_ ≠ gb320 ∧ k_ ≠ gb321 ∧ k_ ≠ gb335 ∧ k_ ≠ gb341) (.slice Ao27 t331.length co27) t331) ∧ Aside0 (Kd.N k25 25 wc w.heap.size (fun k_ => some k_ ≠ ((.slice Ao15 t323.length co15) : Value).ownBlock ∧ some k_ ≠ ((.slice Ao18 t327.length co18) : Value).ownBlock ∧ some k_ ≠ ((.slice Ao27 t331.length co27) : Value).ownBlock ∧ k_ ≠ gb320 ∧ k_ ≠ gb321 ∧ k_ ≠ gb335 ∧ k_ ≠ gb341) (.slice Ao34 t337.length co34) t337) ∧ Aside0 (wc.heap[gb320]? = some (.cells #[.int .i64 t322, (.slice Ao15 t323.length co15)] 42 (0, 0))) ∧ Aside0 (wc.heap[gb321]? = some (.cells #[.int .i64 t326, (.slice Ao18 t327.length co18)] 42 (0, 0))) ∧ Aside0 (wc.heap[gb335]? = some (.cells #[.int .i64 t330, (.slice Ao27 t331.length co27)] 42 (0, 0))) ∧ Aside0 (wc.heap[gb341]? = some (.cells #[.int .i64 t336, (.slice Ao34 t337.length co34)] 42 (0, 0))) ∧ Aside0 (Below w.heap.size w wc))
      case first =>
       have H := HC72.out
       clear HC72
       by_cases c73 : x11_69 = true
       ·
        subst c73
        have H1 : (if t340 = 0 then ((downpourref03_One.f kj69 a2).bind fun bt348 => ((downpourref03_Same.f kj69 t336 t337 bt348.1 bt348.2).bind fun t352 => (if t352 = true then (downpourlaw03_MatrixTurns.j2 kj69 t334 false t322 t323 t330 t331) else (downpourlaw03_MatrixTurns.j2 kj69 t334 true t322 t323 t330 t331)))) else (downpourlaw03_MatrixTurns.j2 kj69 t334 true t322 t323 t330 t331)) = some r := by rw [if_pos rfl] at H; exact H
        clear H
        have H := H1
        clear H1
        by_cases c74 : t340 = 0
        ·
         rw [if_pos c74] at H
         have c74b0 : (t340 == 0) = true := beq_iff_eq.mpr c74
         have c74b1 : (t340 != 0) = false := bne_eq_false_iff_eq.mpr c74
         clear c74
         (first | rw [c74b0] | (simp only [i64_w, i32_w]; rw [c74b0]) | skip)
         replace H := Option.bind_eq_some_iff.mp H
         obtain ⟨⟨t348, t349⟩, A750, H⟩ := H
         replace H : ((downpourref03_Same.f kj69 t336 t337 t348 t349).bind fun t352 => (if t352 = true then (downpourlaw03_MatrixTurns.j2 kj69 t334 false t322 t323 t330 t331) else (downpourlaw03_MatrixTurns.j2 kj69 t334 true t322 t323 t330 t331))) = some r := H
         have A75 := Aside0.mk A750
         clear A750
         replace H := Option.bind_eq_some_iff.mp H
         obtain ⟨t352, A760, H⟩ := H
         replace H : (if t352 = true then (downpourlaw03_MatrixTurns.j2 kj69 t334 false t322 t323 t330 t331) else (downpourlaw03_MatrixTurns.j2 kj69 t334 true t322 t323 t330 t331)) = some r := H
         have A76 := Aside0.mk A760
         clear A760
         by_cases c77 : t352 = true
         ·
          subst c77
          have H1 : (downpourlaw03_MatrixTurns.j2 kj69 t334 false t322 t323 t330 t331) = some r := by rw [if_pos rfl] at H; exact H
          clear H
          have H := H1
          clear H1
          have H' := Aside0.mk H
          clear H
          try go_wp2
          have n0_ := am (Kd.N_drew HO_321001.out)
          have n1_ := am (Kd.N_drew HO_322001.out)
          have n2_ := am (Kd.N_drew HO_336001.out)
          have n3_ := am (Kd.N_drew HO_342001.out)
          have n4_ := am (blk_drew BK320.out)
          have n5_ := am (blk_drew BK321.out)
          have n6_ := am (blk_drew BK335.out)
          have n7_ := am (blk_drew BK341.out)
          have n8_ := am (below_drew1 HB.out)
          clear HO_321001
          clear HO_322001
          clear HO_336001
          clear HO_342001
          clear BK320
          clear BK321
          clear BK335
          clear BK341
          clear HB
          have HO_321001 := n0_
          have HO_322001 := n1_
          have HO_336001 := n2_
          have HO_342001 := n3_
          have BK320 := n4_
          have BK321 := n5_
          have BK335 := n6_
          have BK341 := n7_
          have HB := n8_
          clear n0_ n1_ n2_ n3_ n4_ n5_ n6_ n7_ n8_
          refine start_ (n := 26) (S := fun w' => w'.cell? ⟨gb341, 0, none⟩ = some (.int .i64 t336) ∧ w'.cell? ⟨gb341, 1, none⟩ = some (.slice Ao34 t337.length co34)) (ds := []) #[F, F, F, F, F, F, F, F, F, F, F, F, F, F, F, F, F, F, F, F, F, F, F, F, F, F] (by kernel_rfl) rfl rfl ⟨(blk_cell BK341.out 0).trans rfl, (blk_cell BK341.out 1).trans rfl⟩ (fun hHeld => ?_); refine with_tabW downpourlaw03_MatrixTurns.tab7 downpourlaw03_MatrixTurns.bits7 (fun HT_ HW_ => ?_)
          generalize wc.drew = w78 at HO_321001 HO_322001 HO_336001 HO_342001 BK320 BK321 BK335 BK341 HB hHeld ⊢
          refine pure_ (i := 0) (N := some 56) (v := ?_) (a' := ?_) #[T, F, F, F, F, F, F, F, F, F, F, F, F, F, F, F, F, F, F, F, F, F, F, F, F, F] rfl rfl (any_of HT_.out (by kernel_rfl)) (fun _ _ _ h => h) (Or.inl ⟨by rfl, ?_⟩) ?_ ?_
          rotate_left
          ·
           intro w'
           go_simp
           with_reducible rfl
          rotate_left
          ·
           simp only [Act.put, q1, q2, q3, i64_w, i32_w]
           rfl
          refine pure_ (i := 1) (N := some 57) (v := ?_) (a' := ?_) #[T, T, F, F, F, F, F, F, F, F, F, F, F, F, F, F, F, F, F, F, F, F, F, F, F, F] rfl rfl (any_of HT_.out (by kernel_rfl)) (fun _ _ _ h => h) (Or.inl ⟨by rfl, ?_⟩) ?_ ?_
          rotate_left
          ·
           intro w'
           go_simp
           with_reducible rfl
          rotate_left
          ·
           simp only [Act.put, q1, q2, q3, i64_w, i32_w]
           rfl
          refine pure_ (i := 2) (N := some 58) (v := ?_) (a' := ?_) #[T, T, T, F, F, F, F, F, F, F, F, F, F, F, F, F, F, F, F, F, F, F, F, F, F, F] rfl rfl (any_of HT_.out (by kernel_rfl)) (fun _ _ _ h => h) (Or.inl ⟨by rfl, ?_⟩) ?_ ?_
          rotate_left
          ·
           intro w'
           go_simp
           with_reducible rfl
          rotate_left
          ·
           simp only [Act.put, q1, q2, q3, i64_w, i32_w]
           rfl
          refine pure_ (i := 3) (N := some 59) (v := ?_) (a' := ?_) #[T, T, T, T, F, F, F, F, F, F, F, F, F, F, F, F, F, F, F, F, F, F, F, F, F, F] rfl rfl (any_of HT_.out (by kernel_rfl)) (fun _ _ _ h => h) (Or.inl ⟨by rfl, ?_⟩) ?_ ?_
          rotate_left
          ·
           intro w'
           go_simp
           with_reducible rfl
          rotate_left
          ·
           simp only [Act.put, q1, q2, q3, i64_w, i32_w]
           rfl
          refine pure_ (i := 4) (N := some 60) (v := ?_) (a' := ?_) #[T, T, T, T, T, F, F, F, F, F, F, F, F, F, F, F, F, F, F, F, F, F, F, F, F, F] rfl rfl (any_of HT_.out (by kernel_rfl)) (fun _ _ _ h => h) (Or.inl ⟨by rfl, ?_⟩) ?_ ?_
          rotate_left
          ·
           intro w'
           go_simp
           with_reducible rfl
          rotate_left
          ·
           simp only [Act.put, q1, q2, q3, i64_w, i32_w]
           rfl
          refine pure_ (i := 6) (N := some 62) (v := ?_) (a' := ?_) #[T, T, T, T, T, F, T, F, F, F, F, F, F, F, F, F, F, F, F, F, F, F, F, F, F, F] rfl rfl (any_of HT_.out (by kernel_rfl)) (fun _ _ _ h => h) (Or.inl ⟨by rfl, ?_⟩) ?_ ?_
          rotate_left
          ·
           intro w'
           go_simp
           with_reducible rfl
          rotate_left
          ·
           simp only [Act.put, q1, q2, q3, i64_w, i32_w]
           rfl
          refine take_ (i := 5) (N := some 61) (v := ?_) (a' := ?_) #[T, T, T, T, T, T, T, F, F, F, F, F, F, F, F, F, F, F, F, F, F, F, F, F, F, F] rfl rfl (take_ofW HT_.out HW_.out (by kernel_rfl)) (fun _ _ _ h => h) (Or.inl ⟨by rfl, ?_⟩) hHeld ?_ ?_
          rotate_left
          ·
           rintro w' ⟨s0, s1⟩
           go_simp
           with_reducible rfl
          rotate_left
          ·
           simp only [Act.put, q1, q2, q3, i64_w, i32_w]
           rfl
          refine one_ (i := 7) (N := some 63) #[T, T, T, T, T, T, T, T, F, F, F, F, F, F, F, F, F, F, F, F, F, F, F, F, F, F] rfl rfl (one_of HT_.out (by kernel_rfl)) (by decide) (fun K hK => ?_)
          refine goes_ Try.func48 (by kernel_rfl) rfl #[.int .i64 a2] (by rfl) rfl rfl (by (try simp only [List.map_toArray, List.map_cons, List.map_nil]); first | done | rfl | (simp only [List.length_drop, List.length_take]; rfl)) ?_
          with_reducible refine (downpourref03_One.calls kj69 a2 t348 t349 _ A75.out).mono ?_
          rintro e w79 ⟨v350, rfl, ho0, hb⟩
          refine ⟨_, rfl, ?_⟩
          have n0_ := am (Kd.N_elder' (pn HO_321001) (by first | exact Kd.N_base ho0 | exact Kd.S_base ho0 | exact Kd.R_base ho0) hb)
          have n1_ := am (Kd.N_elder' (pn HO_322001) (by first | exact Kd.N_base ho0 | exact Kd.S_base ho0 | exact Kd.R_base ho0) hb)
          have n2_ := am (Kd.N_elder' (pn HO_336001) (by first | exact Kd.N_base ho0 | exact Kd.S_base ho0 | exact Kd.R_base ho0) hb)
          have n3_ := am (Kd.N_elder' (pn HO_342001) (by first | exact Kd.N_base ho0 | exact Kd.S_base ho0 | exact Kd.R_base ho0) hb)
          have n4_ := am (Kd.N_lower (Kd.N_mono (ok' := fun k_ => some k_ ≠ (.slice Ao15 t323.length co15 : Value).ownBlock ∧ some k_ ≠ (.slice Ao18 t327.length co18 : Value).ownBlock ∧ some k_ ≠ (.slice Ao27 t331.length co27 : Value).ownBlock ∧ some k_ ≠ (.slice Ao34 t337.length co34 : Value).ownBlock ∧ k_ ≠ gb320 ∧ k_ ≠ gb321 ∧ k_ ≠ gb335 ∧ k_ ≠ gb341) (Kd.S_N (Kd.S_bound ho0)) (fun k_ hk_ => ⟨(Kd.fresh' (Kd.N_lt (pn HO_321001)) k_ hk_.2.1), (Kd.fresh' (Kd.N_lt (pn HO_322001)) k_ hk_.2.1), (Kd.fresh' (Kd.N_lt (pn HO_336001)) k_ hk_.2.1), (Kd.fresh' (Kd.N_lt (pn HO_342001)) k_ hk_.2.1), (Kd.freshB (g := gb320) (o := .cells #[.int .i64 t322, .slice Ao15 t323.length co15] 42 (0, 0)) (pk BK320) k_ hk_.2.1), (Kd.freshB (g := gb321) (o := .cells #[.int .i64 t326, .slice Ao18 t327.length co18] 42 (0, 0)) (pk BK321) k_ hk_.2.1), (Kd.freshB (g := gb335) (o := .cells #[.int .i64 t330, .slice Ao27 t331.length co27] 42 (0, 0)) (pk BK335) k_ hk_.2.1), (Kd.freshB (g := gb341) (o := .cells #[.int .i64 t336, .slice Ao34 t337.length co34] 42 (0, 0)) (pk BK341) k_ hk_.2.1)⟩)) (below_size (pb HB)))
          have n5_ := bb BK320 hb
          have n6_ := bb BK321 hb
          have n7_ := bb BK335 hb
          have n8_ := bb BK341 hb
          have n9_ := am (below_step (pb HB) hb)
          clear HO_321001
          clear HO_322001
          clear HO_336001
          clear HO_342001
          clear BK320
          clear BK321
          clear BK335
          clear BK341
          clear HB
          have HO_321001 := n0_
          have HO_322001 := n1_
          have HO_336001 := n2_
          have HO_342001 := n3_
          have HO351 := n4_
          have BK320 := n5_
          have BK321 := n6_
          have BK335 := n7_
          have BK341 := n8_
          have HB := n9_
          clear n0_ n1_ n2_ n3_ n4_ n5_ n6_ n7_ n8_ n9_
          (try clear hb)
          (try clear hb2)
          (try clear hk)
          (try clear hi)
          (try clear ho0)
          obtain ⟨Ao80, co80, eo80⟩ := Kd.N_slice HO351.out
          (first | subst eo80 | (injection eo80 with f1_ f2_ f3_; have f4_ := f1_.symm; have f5_ := f3_.symm; clear f1_ f2_ f3_; subst f4_; subst f5_))
          refine hK.out _ _ ⟨(blk_cell BK341.out 0).trans rfl, (blk_cell BK341.out 1).trans rfl⟩ (fun hHeld => ?_)
          clear hK K
          refine norm_ (a' := ?_) ?_ ?_
          rotate_left
          ·
           show Act.put _ (some 63) _ = _
           simp only [Act.put, q1, q2, q3, i64_w, i32_w]
           rfl
          refine one_ (i := 8) (N := some 64) #[T, T, T, T, T, T, T, T, T, F, F, F, F, F, F, F, F, F, F, F, F, F, F, F, F, F] rfl rfl (one_of HT_.out (by kernel_rfl)) (by decide) (fun K hK => ?_)
          refine goes_ Try.func38 (by kernel_rfl) rfl #[.agg #[.int .i64 t336, .slice Ao34 t337.length co34], .agg #[.int .i64 t348, .slice Ao80 t349.length co80]] (by rfl) rfl rfl (by (try simp only [List.map_toArray, List.map_cons, List.map_nil]); first | done | rfl | (simp only [List.length_drop, List.length_take]; rfl)) ?_
          with_reducible refine (downpourref03_Same.calls kj69 t336 _ _ t337 t348 _ _ t349 true _ ?side1 ?side2 ?side3 ?side4 A76.out).mono ?_
          (case side1 => repeat (first | exact (Kd.N_reads' HO_342001.out).2.2 | (with_reducible refine Kd.C_alloc ?_ _) | (with_reducible refine Kd.C_drewN ?_ _) | (with_reducible refine Kd.C_drew ?_)))
          (case side2 => exact (Kd.N_reads' HO_342001.out).2.1)
          (case side3 => repeat (first | exact (Kd.N_reads' HO351.out).2.2 | (with_reducible refine Kd.C_alloc ?_ _) | (with_reducible refine Kd.C_drewN ?_ _) | (with_reducible refine Kd.C_drew ?_)))
          (case side4 => exact (Kd.N_reads' HO351.out).2.1)
          rintro e w81 ⟨rfl, hb⟩
          refine ⟨_, rfl, ?_⟩
          have n0_ := am (Kd.N_below (pn HO_321001) hb)
          have n1_ := am (Kd.N_below (pn HO_322001) hb)
          have n2_ := am (Kd.N_below (pn HO_336001) hb)
          have n3_ := am (Kd.N_below (pn HO_342001) hb)
          have n4_ := am (Kd.N_below (pn HO351) hb)
          have n5_ := bb BK320 hb
          have n6_ := bb BK321 hb
          have n7_ := bb BK335 hb
          have n8_ := bb BK341 hb
          have n9_ := am (below_step (pb HB) hb)
          clear HO_321001
          clear HO_322001
          clear HO_336001
          clear HO_342001
          clear HO351
          clear BK320
          clear BK321
          clear BK335
          clear BK341
          clear HB
          have HO_321001 := n0_
          have HO_322001 := n1_
          have HO_336001 := n2_
          have HO_342001 := n3_
          have HO351 := n4_
          have BK320 := n5_
          have BK321 := n6_
          have BK335 := n7_
          have BK341 := n8_
          have HB := n9_
          clear n0_ n1_ n2_ n3_ n4_ n5_ n6_ n7_ n8_ n9_
          (try clear hb)
          (try clear hb2)
          (try clear hk)
          (try clear hi)
          refine hK.out _ _ ⟨(blk_cell BK341.out 0).trans rfl, (blk_cell BK341.out 1).trans rfl⟩ (fun hHeld => ?_)
          clear hK K
          refine norm_ (a' := ?_) ?_ ?_
          rotate_left
          ·
           show Act.put _ (some 64) _ = _
           simp only [Act.put, q1, q2, q3, i64_w, i32_w]
           rfl
          refine pure_ (i := 9) (N := some 65) (v := ?_) (a' := ?_) #[T, T, T, T, T, T, T, T, T, T, F, F, F, F, F, F, F, F, F, F, F, F, F, F, F, F] rfl rfl (any_of HT_.out (by kernel_rfl)) (fun _ _ _ h => h) (Or.inl ⟨by rfl, ?_⟩) ?_ ?_
          rotate_left
          ·
           intro w'
           go_simp
           with_reducible rfl
          rotate_left
          ·
           simp only [Act.put, q1, q2, q3, i64_w, i32_w]
           rfl
          refine pure_ (i := 10) (N := some 66) (v := ?_) (a' := ?_) #[T, T, T, T, T, T, T, T, T, T, T, F, F, F, F, F, F, F, F, F, F, F, F, F, F, F] rfl rfl (any_of HT_.out (by kernel_rfl)) (fun _ _ _ h => h) (Or.inl ⟨by rfl, ?_⟩) ?_ ?_
          rotate_left
          ·
           intro w'
           go_simp
           with_reducible rfl
          rotate_left
          ·
           simp only [Act.put, q1, q2, q3, i64_w, i32_w]
           rfl
          refine pure_ (i := 11) (N := some 67) (v := ?_) (a' := ?_) #[T, T, T, T, T, T, T, T, T, T, T, T, F, F, F, F, F, F, F, F, F, F, F, F, F, F] rfl rfl (any_of HT_.out (by kernel_rfl)) (fun _ _ _ h => h) (Or.inl ⟨by rfl, ?_⟩) ?_ ?_
          rotate_left
          ·
           intro w'
           go_simp
           with_reducible rfl
          rotate_left
          ·
           simp only [Act.put, q1, q2, q3, i64_w, i32_w]
           rfl
          refine pure_ (i := 12) (N := some 68) (v := ?_) (a' := ?_) #[T, T, T, T, T, T, T, T, T, T, T, T, T, F, F, F, F, F, F, F, F, F, F, F, F, F] rfl rfl (any_of HT_.out (by kernel_rfl)) (fun _ _ _ h => h) (Or.inl ⟨by rfl, ?_⟩) ?_ ?_
          rotate_left
          ·
           intro w'
           go_simp
           with_reducible rfl
          rotate_left
          ·
           simp only [Act.put, q1, q2, q3, i64_w, i32_w]
           rfl
          refine pure_ (i := 13) (N := some 69) (v := ?_) (a' := ?_) #[T, T, T, T, T, T, T, T, T, T, T, T, T, T, F, F, F, F, F, F, F, F, F, F, F, F] rfl rfl (any_of HT_.out (by kernel_rfl)) (fun _ _ _ h => h) (Or.inl ⟨by rfl, ?_⟩) ?_ ?_
          rotate_left
          ·
           intro w'
           go_simp
           with_reducible rfl
          rotate_left
          ·
           simp only [Act.put, q1, q2, q3, i64_w, i32_w]
           rfl
          refine pure_ (i := 14) (N := some 70) (v := ?_) (a' := ?_) #[T, T, T, T, T, T, T, T, T, T, T, T, T, T, T, F, F, F, F, F, F, F, F, F, F, F] rfl rfl (any_of HT_.out (by kernel_rfl)) (fun _ _ _ h => h) (Or.inl ⟨by rfl, ?_⟩) ?_ ?_
          rotate_left
          ·
           intro w'
           go_simp
           with_reducible rfl
          rotate_left
          ·
           simp only [Act.put, q1, q2, q3, i64_w, i32_w]
           rfl
          refine pure_ (i := 15) (N := some 71) (v := ?_) (a' := ?_) #[T, T, T, T, T, T, T, T, T, T, T, T, T, T, T, T, F, F, F, F, F, F, F, F, F, F] rfl rfl (any_of HT_.out (by kernel_rfl)) (fun _ _ _ h => h) (Or.inl ⟨by rfl, ?_⟩) ?_ ?_
          rotate_left
          ·
           intro w'
           go_simp
           with_reducible rfl
          rotate_left
          ·
           simp only [Act.put, q1, q2, q3, i64_w, i32_w]
           rfl
          refine pure_ (i := 16) (N := some 72) (v := undef) (a' := ?_) #[T, T, T, T, T, T, T, T, T, T, T, T, T, T, T, T, T, F, F, F, F, F, F, F, F, F] rfl rfl (any_of HT_.out (by kernel_rfl)) (fun _ _ _ h => h) (Or.inr ⟨by rfl, rfl⟩) ?_ ?_
          rotate_left
          ·
           simp only [Act.put, q1, q2, q3, i64_w, i32_w]
           rfl
          refine pure_ (i := 17) (N := some 73) (v := undef) (a' := ?_) #[T, T, T, T, T, T, T, T, T, T, T, T, T, T, T, T, T, T, F, F, F, F, F, F, F, F] rfl rfl (any_of HT_.out (by kernel_rfl)) (fun _ _ _ h => h) (Or.inr ⟨by rfl, rfl⟩) ?_ ?_
          rotate_left
          ·
           simp only [Act.put, q1, q2, q3, i64_w, i32_w]
           rfl
          refine pure_ (i := 18) (N := some 74) (v := undef) (a' := ?_) #[T, T, T, T, T, T, T, T, T, T, T, T, T, T, T, T, T, T, T, F, F, F, F, F, F, F] rfl rfl (any_of HT_.out (by kernel_rfl)) (fun _ _ _ h => h) (Or.inr ⟨by rfl, rfl⟩) ?_ ?_
          rotate_left
          ·
           simp only [Act.put, q1, q2, q3, i64_w, i32_w]
           rfl
          refine pure_ (i := 19) (N := some 75) (v := undef) (a' := ?_) #[T, T, T, T, T, T, T, T, T, T, T, T, T, T, T, T, T, T, T, T, F, F, F, F, F, F] rfl rfl (any_of HT_.out (by kernel_rfl)) (fun _ _ _ h => h) (Or.inr ⟨by rfl, rfl⟩) ?_ ?_
          rotate_left
          ·
           simp only [Act.put, q1, q2, q3, i64_w, i32_w]
           rfl
          refine pure_ (i := 20) (N := some 76) (v := undef) (a' := ?_) #[T, T, T, T, T, T, T, T, T, T, T, T, T, T, T, T, T, T, T, T, T, F, F, F, F, F] rfl rfl (any_of HT_.out (by kernel_rfl)) (fun _ _ _ h => h) (Or.inr ⟨by rfl, rfl⟩) ?_ ?_
          rotate_left
          ·
           simp only [Act.put, q1, q2, q3, i64_w, i32_w]
           rfl
          refine pure_ (i := 21) (N := some 77) (v := undef) (a' := ?_) #[T, T, T, T, T, T, T, T, T, T, T, T, T, T, T, T, T, T, T, T, T, T, F, F, F, F] rfl rfl (any_of HT_.out (by kernel_rfl)) (fun _ _ _ h => h) (Or.inr ⟨by rfl, rfl⟩) ?_ ?_
          rotate_left
          ·
           simp only [Act.put, q1, q2, q3, i64_w, i32_w]
           rfl
          refine pure_ (i := 22) (N := some 78) (v := undef) (a' := ?_) #[T, T, T, T, T, T, T, T, T, T, T, T, T, T, T, T, T, T, T, T, T, T, T, F, F, F] rfl rfl (any_of HT_.out (by kernel_rfl)) (fun _ _ _ h => h) (Or.inr ⟨by rfl, rfl⟩) ?_ ?_
          rotate_left
          ·
           simp only [Act.put, q1, q2, q3, i64_w, i32_w]
           rfl
          refine pure_ (i := 23) (N := some 79) (v := undef) (a' := ?_) #[T, T, T, T, T, T, T, T, T, T, T, T, T, T, T, T, T, T, T, T, T, T, T, T, F, F] rfl rfl (any_of HT_.out (by kernel_rfl)) (fun _ _ _ h => h) (Or.inr ⟨by rfl, rfl⟩) ?_ ?_
          rotate_left
          ·
           simp only [Act.put, q1, q2, q3, i64_w, i32_w]
           rfl
          refine pure_ (i := 24) (N := some 80) (v := ?_) (a' := ?_) #[T, T, T, T, T, T, T, T, T, T, T, T, T, T, T, T, T, T, T, T, T, T, T, T, T, F] rfl rfl (any_of HT_.out (by kernel_rfl)) (fun _ _ _ h => h) (Or.inl ⟨by rfl, ?_⟩) ?_ ?_
          rotate_left
          ·
           intro w'
           go_simp
           with_reducible rfl
          rotate_left
          ·
           simp only [Act.put, q1, q2, q3, i64_w, i32_w]
           rfl
          refine pure_ (i := 25) (N := some 81) (v := ?_) (a' := ?_) #[T, T, T, T, T, T, T, T, T, T, T, T, T, T, T, T, T, T, T, T, T, T, T, T, T, T] rfl rfl (any_of HT_.out (by kernel_rfl)) (fun _ _ _ h => h) (Or.inl ⟨by rfl, ?_⟩) ?_ ?_
          rotate_left
          ·
           intro w'
           go_simp
           with_reducible rfl
          rotate_left
          ·
           simp only [Act.put, q1, q2, q3, i64_w, i32_w]
           rfl
          refine done_ (done_of HT_.out (by kernel_rfl)) ?_
          try go_wp2
          go_meet
          case rel => exact ⟨_, (false), (by first | rfl | (simp; done) | (simp [*]; done)), H', ⟨by have := HJ7.out; have := HJ69.out; first | omega | exact Nat.le_refl _⟩, ⟨by (with_reducible repeat (first | apply Kd.N_alloc | apply Kd.N_drewN | apply Kd.N_drew)); exact Kd.N_mono HO_321001.out (fun _ hk => ⟨hk.1.1, ⟨hk.1.2.1, ⟨hk.1.2.2.1, ⟨hk.1.2.2.2.1, ⟨hk.1.2.2.2.2.1, ⟨hk.1.2.2.2.2.2.1, hk.1.2.2.2.2.2.2⟩⟩⟩⟩⟩⟩)⟩, ⟨by (with_reducible repeat (first | apply Kd.N_alloc | apply Kd.N_drewN | apply Kd.N_drew)); exact Kd.N_mono HO_322001.out (fun _ hk => ⟨hk.1.1, ⟨hk.1.2.1, ⟨hk.1.2.2.1, ⟨hk.1.2.2.2.1, ⟨hk.1.2.2.2.2.1, ⟨hk.1.2.2.2.2.2.1, hk.1.2.2.2.2.2.2⟩⟩⟩⟩⟩⟩)⟩, ⟨by (with_reducible repeat (first | apply Kd.N_alloc | apply Kd.N_drewN | apply Kd.N_drew)); exact Kd.N_mono HO_336001.out (fun _ hk => ⟨hk.1.1, ⟨hk.1.2.1, ⟨hk.1.2.2.1, ⟨hk.1.2.2.2.1, ⟨hk.1.2.2.2.2.1, ⟨hk.1.2.2.2.2.2.1, hk.1.2.2.2.2.2.2⟩⟩⟩⟩⟩⟩)⟩, ⟨by (with_reducible repeat (first | apply Kd.N_alloc | apply Kd.N_drewN | apply Kd.N_drew)); exact Kd.N_mono HO_342001.out (fun _ hk => ⟨hk.1.1, ⟨hk.1.2.1, ⟨hk.1.2.2.1, ⟨hk.1.2.2.2.1, ⟨hk.1.2.2.2.2.1, ⟨hk.1.2.2.2.2.2.1, hk.1.2.2.2.2.2.2⟩⟩⟩⟩⟩⟩)⟩, ⟨by (with_reducible repeat (first | refine blk_drewN ?_ _ | refine blk_drew ?_ | refine blk_alloc ?_ _)); exact BK320.out⟩, ⟨by (with_reducible repeat (first | refine blk_drewN ?_ _ | refine blk_drew ?_ | refine blk_alloc ?_ _)); exact BK321.out⟩, ⟨by (with_reducible repeat (first | refine blk_drewN ?_ _ | refine blk_drew ?_ | refine blk_alloc ?_ _)); exact BK335.out⟩, ⟨by (with_reducible repeat (first | refine blk_drewN ?_ _ | refine blk_drew ?_ | refine blk_alloc ?_ _)); exact BK341.out⟩, ⟨pb HB⟩⟩
         ·
          replace c77 := Bool.eq_false_iff.mpr c77
          subst c77
          have H1 : (downpourlaw03_MatrixTurns.j2 kj69 t334 true t322 t323 t330 t331) = some r := by rw [if_neg (show ¬ (false = true) by decide)] at H; exact H
          clear H
          have H := H1
          clear H1
          have H' := Aside0.mk H
          clear H
          try go_wp2
          have n0_ := am (Kd.N_drew HO_321001.out)
          have n1_ := am (Kd.N_drew HO_322001.out)
          have n2_ := am (Kd.N_drew HO_336001.out)
          have n3_ := am (Kd.N_drew HO_342001.out)
          have n4_ := am (blk_drew BK320.out)
          have n5_ := am (blk_drew BK321.out)
          have n6_ := am (blk_drew BK335.out)
          have n7_ := am (blk_drew BK341.out)
          have n8_ := am (below_drew1 HB.out)
          clear HO_321001
          clear HO_322001
          clear HO_336001
          clear HO_342001
          clear BK320
          clear BK321
          clear BK335
          clear BK341
          clear HB
          have HO_321001 := n0_
          have HO_322001 := n1_
          have HO_336001 := n2_
          have HO_342001 := n3_
          have BK320 := n4_
          have BK321 := n5_
          have BK335 := n6_
          have BK341 := n7_
          have HB := n8_
          clear n0_ n1_ n2_ n3_ n4_ n5_ n6_ n7_ n8_
          refine start_ (n := 26) (S := fun w' => w'.cell? ⟨gb341, 0, none⟩ = some (.int .i64 t336) ∧ w'.cell? ⟨gb341, 1, none⟩ = some (.slice Ao34 t337.length co34)) (ds := []) #[F, F, F, F, F, F, F, F, F, F, F, F, F, F, F, F, F, F, F, F, F, F, F, F, F, F] (by kernel_rfl) rfl rfl ⟨(blk_cell BK341.out 0).trans rfl, (blk_cell BK341.out 1).trans rfl⟩ (fun hHeld => ?_); refine with_tabW downpourlaw03_MatrixTurns.tab7 downpourlaw03_MatrixTurns.bits7 (fun HT_ HW_ => ?_)
          generalize wc.drew = w82 at HO_321001 HO_322001 HO_336001 HO_342001 BK320 BK321 BK335 BK341 HB hHeld ⊢
          refine pure_ (i := 0) (N := some 56) (v := ?_) (a' := ?_) #[T, F, F, F, F, F, F, F, F, F, F, F, F, F, F, F, F, F, F, F, F, F, F, F, F, F] rfl rfl (any_of HT_.out (by kernel_rfl)) (fun _ _ _ h => h) (Or.inl ⟨by rfl, ?_⟩) ?_ ?_
          rotate_left
          ·
           intro w'
           go_simp
           with_reducible rfl
          rotate_left
          ·
           simp only [Act.put, q1, q2, q3, i64_w, i32_w]
           rfl
          refine pure_ (i := 1) (N := some 57) (v := ?_) (a' := ?_) #[T, T, F, F, F, F, F, F, F, F, F, F, F, F, F, F, F, F, F, F, F, F, F, F, F, F] rfl rfl (any_of HT_.out (by kernel_rfl)) (fun _ _ _ h => h) (Or.inl ⟨by rfl, ?_⟩) ?_ ?_
          rotate_left
          ·
           intro w'
           go_simp
           with_reducible rfl
          rotate_left
          ·
           simp only [Act.put, q1, q2, q3, i64_w, i32_w]
           rfl
          refine pure_ (i := 2) (N := some 58) (v := ?_) (a' := ?_) #[T, T, T, F, F, F, F, F, F, F, F, F, F, F, F, F, F, F, F, F, F, F, F, F, F, F] rfl rfl (any_of HT_.out (by kernel_rfl)) (fun _ _ _ h => h) (Or.inl ⟨by rfl, ?_⟩) ?_ ?_
          rotate_left
          ·
           intro w'
           go_simp
           with_reducible rfl
          rotate_left
          ·
           simp only [Act.put, q1, q2, q3, i64_w, i32_w]
           rfl
          refine pure_ (i := 3) (N := some 59) (v := ?_) (a' := ?_) #[T, T, T, T, F, F, F, F, F, F, F, F, F, F, F, F, F, F, F, F, F, F, F, F, F, F] rfl rfl (any_of HT_.out (by kernel_rfl)) (fun _ _ _ h => h) (Or.inl ⟨by rfl, ?_⟩) ?_ ?_
          rotate_left
          ·
           intro w'
           go_simp
           with_reducible rfl
          rotate_left
          ·
           simp only [Act.put, q1, q2, q3, i64_w, i32_w]
           rfl
          refine pure_ (i := 4) (N := some 60) (v := ?_) (a' := ?_) #[T, T, T, T, T, F, F, F, F, F, F, F, F, F, F, F, F, F, F, F, F, F, F, F, F, F] rfl rfl (any_of HT_.out (by kernel_rfl)) (fun _ _ _ h => h) (Or.inl ⟨by rfl, ?_⟩) ?_ ?_
          rotate_left
          ·
           intro w'
           go_simp
           with_reducible rfl
          rotate_left
          ·
           simp only [Act.put, q1, q2, q3, i64_w, i32_w]
           rfl
          refine pure_ (i := 6) (N := some 62) (v := ?_) (a' := ?_) #[T, T, T, T, T, F, T, F, F, F, F, F, F, F, F, F, F, F, F, F, F, F, F, F, F, F] rfl rfl (any_of HT_.out (by kernel_rfl)) (fun _ _ _ h => h) (Or.inl ⟨by rfl, ?_⟩) ?_ ?_
          rotate_left
          ·
           intro w'
           go_simp
           with_reducible rfl
          rotate_left
          ·
           simp only [Act.put, q1, q2, q3, i64_w, i32_w]
           rfl
          refine take_ (i := 5) (N := some 61) (v := ?_) (a' := ?_) #[T, T, T, T, T, T, T, F, F, F, F, F, F, F, F, F, F, F, F, F, F, F, F, F, F, F] rfl rfl (take_ofW HT_.out HW_.out (by kernel_rfl)) (fun _ _ _ h => h) (Or.inl ⟨by rfl, ?_⟩) hHeld ?_ ?_
          rotate_left
          ·
           rintro w' ⟨s0, s1⟩
           go_simp
           with_reducible rfl
          rotate_left
          ·
           simp only [Act.put, q1, q2, q3, i64_w, i32_w]
           rfl
          refine one_ (i := 7) (N := some 63) #[T, T, T, T, T, T, T, T, F, F, F, F, F, F, F, F, F, F, F, F, F, F, F, F, F, F] rfl rfl (one_of HT_.out (by kernel_rfl)) (by decide) (fun K hK => ?_)
          refine goes_ Try.func48 (by kernel_rfl) rfl #[.int .i64 a2] (by rfl) rfl rfl (by (try simp only [List.map_toArray, List.map_cons, List.map_nil]); first | done | rfl | (simp only [List.length_drop, List.length_take]; rfl)) ?_
          with_reducible refine (downpourref03_One.calls kj69 a2 t348 t349 _ A75.out).mono ?_
          rintro e w83 ⟨v350, rfl, ho0, hb⟩
          refine ⟨_, rfl, ?_⟩
          have n0_ := am (Kd.N_elder' (pn HO_321001) (by first | exact Kd.N_base ho0 | exact Kd.S_base ho0 | exact Kd.R_base ho0) hb)
          have n1_ := am (Kd.N_elder' (pn HO_322001) (by first | exact Kd.N_base ho0 | exact Kd.S_base ho0 | exact Kd.R_base ho0) hb)
          have n2_ := am (Kd.N_elder' (pn HO_336001) (by first | exact Kd.N_base ho0 | exact Kd.S_base ho0 | exact Kd.R_base ho0) hb)
          have n3_ := am (Kd.N_elder' (pn HO_342001) (by first | exact Kd.N_base ho0 | exact Kd.S_base ho0 | exact Kd.R_base ho0) hb)
          have n4_ := am (Kd.N_lower (Kd.N_mono (ok' := fun k_ => some k_ ≠ (.slice Ao15 t323.length co15 : Value).ownBlock ∧ some k_ ≠ (.slice Ao18 t327.length co18 : Value).ownBlock ∧ some k_ ≠ (.slice Ao27 t331.length co27 : Value).ownBlock ∧ some k_ ≠ (.slice Ao34 t337.length co34 : Value).ownBlock ∧ k_ ≠ gb320 ∧ k_ ≠ gb321 ∧ k_ ≠ gb335 ∧ k_ ≠ gb341) (Kd.S_N (Kd.S_bound ho0)) (fun k_ hk_ => ⟨(Kd.fresh' (Kd.N_lt (pn HO_321001)) k_ hk_.2.1), (Kd.fresh' (Kd.N_lt (pn HO_322001)) k_ hk_.2.1), (Kd.fresh' (Kd.N_lt (pn HO_336001)) k_ hk_.2.1), (Kd.fresh' (Kd.N_lt (pn HO_342001)) k_ hk_.2.1), (Kd.freshB (g := gb320) (o := .cells #[.int .i64 t322, .slice Ao15 t323.length co15] 42 (0, 0)) (pk BK320) k_ hk_.2.1), (Kd.freshB (g := gb321) (o := .cells #[.int .i64 t326, .slice Ao18 t327.length co18] 42 (0, 0)) (pk BK321) k_ hk_.2.1), (Kd.freshB (g := gb335) (o := .cells #[.int .i64 t330, .slice Ao27 t331.length co27] 42 (0, 0)) (pk BK335) k_ hk_.2.1), (Kd.freshB (g := gb341) (o := .cells #[.int .i64 t336, .slice Ao34 t337.length co34] 42 (0, 0)) (pk BK341) k_ hk_.2.1)⟩)) (below_size (pb HB)))
          have n5_ := bb BK320 hb
          have n6_ := bb BK321 hb
          have n7_ := bb BK335 hb
          have n8_ := bb BK341 hb
          have n9_ := am (below_step (pb HB) hb)
          clear HO_321001
          clear HO_322001
          clear HO_336001
          clear HO_342001
          clear BK320
          clear BK321
          clear BK335
          clear BK341
          clear HB
          have HO_321001 := n0_
          have HO_322001 := n1_
          have HO_336001 := n2_
          have HO_342001 := n3_
          have HO351 := n4_
          have BK320 := n5_
          have BK321 := n6_
          have BK335 := n7_
          have BK341 := n8_
          have HB := n9_
          clear n0_ n1_ n2_ n3_ n4_ n5_ n6_ n7_ n8_ n9_
          (try clear hb)
          (try clear hb2)
          (try clear hk)
          (try clear hi)
          (try clear ho0)
          obtain ⟨Ao84, co84, eo84⟩ := Kd.N_slice HO351.out
          (first | subst eo84 | (injection eo84 with f1_ f2_ f3_; have f4_ := f1_.symm; have f5_ := f3_.symm; clear f1_ f2_ f3_; subst f4_; subst f5_))
          refine hK.out _ _ ⟨(blk_cell BK341.out 0).trans rfl, (blk_cell BK341.out 1).trans rfl⟩ (fun hHeld => ?_)
          clear hK K
          refine norm_ (a' := ?_) ?_ ?_
          rotate_left
          ·
           show Act.put _ (some 63) _ = _
           simp only [Act.put, q1, q2, q3, i64_w, i32_w]
           rfl
          refine one_ (i := 8) (N := some 64) #[T, T, T, T, T, T, T, T, T, F, F, F, F, F, F, F, F, F, F, F, F, F, F, F, F, F] rfl rfl (one_of HT_.out (by kernel_rfl)) (by decide) (fun K hK => ?_)
          refine goes_ Try.func38 (by kernel_rfl) rfl #[.agg #[.int .i64 t336, .slice Ao34 t337.length co34], .agg #[.int .i64 t348, .slice Ao84 t349.length co84]] (by rfl) rfl rfl (by (try simp only [List.map_toArray, List.map_cons, List.map_nil]); first | done | rfl | (simp only [List.length_drop, List.length_take]; rfl)) ?_
          with_reducible refine (downpourref03_Same.calls kj69 t336 _ _ t337 t348 _ _ t349 false _ ?side1 ?side2 ?side3 ?side4 A76.out).mono ?_
          (case side1 => repeat (first | exact (Kd.N_reads' HO_342001.out).2.2 | (with_reducible refine Kd.C_alloc ?_ _) | (with_reducible refine Kd.C_drewN ?_ _) | (with_reducible refine Kd.C_drew ?_)))
          (case side2 => exact (Kd.N_reads' HO_342001.out).2.1)
          (case side3 => repeat (first | exact (Kd.N_reads' HO351.out).2.2 | (with_reducible refine Kd.C_alloc ?_ _) | (with_reducible refine Kd.C_drewN ?_ _) | (with_reducible refine Kd.C_drew ?_)))
          (case side4 => exact (Kd.N_reads' HO351.out).2.1)
          rintro e w85 ⟨rfl, hb⟩
          refine ⟨_, rfl, ?_⟩
          have n0_ := am (Kd.N_below (pn HO_321001) hb)
          have n1_ := am (Kd.N_below (pn HO_322001) hb)
          have n2_ := am (Kd.N_below (pn HO_336001) hb)
          have n3_ := am (Kd.N_below (pn HO_342001) hb)
          have n4_ := am (Kd.N_below (pn HO351) hb)
          have n5_ := bb BK320 hb
          have n6_ := bb BK321 hb
          have n7_ := bb BK335 hb
          have n8_ := bb BK341 hb
          have n9_ := am (below_step (pb HB) hb)
          clear HO_321001
          clear HO_322001
          clear HO_336001
          clear HO_342001
          clear HO351
          clear BK320
          clear BK321
          clear BK335
          clear BK341
          clear HB
          have HO_321001 := n0_
          have HO_322001 := n1_
          have HO_336001 := n2_
          have HO_342001 := n3_
          have HO351 := n4_
          have BK320 := n5_
          have BK321 := n6_
          have BK335 := n7_
          have BK341 := n8_
          have HB := n9_
          clear n0_ n1_ n2_ n3_ n4_ n5_ n6_ n7_ n8_ n9_
          (try clear hb)
          (try clear hb2)
          (try clear hk)
          (try clear hi)
          refine hK.out _ _ ⟨(blk_cell BK341.out 0).trans rfl, (blk_cell BK341.out 1).trans rfl⟩ (fun hHeld => ?_)
          clear hK K
          refine norm_ (a' := ?_) ?_ ?_
          rotate_left
          ·
           show Act.put _ (some 64) _ = _
           simp only [Act.put, q1, q2, q3, i64_w, i32_w]
           rfl
          refine pure_ (i := 9) (N := some 65) (v := ?_) (a' := ?_) #[T, T, T, T, T, T, T, T, T, T, F, F, F, F, F, F, F, F, F, F, F, F, F, F, F, F] rfl rfl (any_of HT_.out (by kernel_rfl)) (fun _ _ _ h => h) (Or.inl ⟨by rfl, ?_⟩) ?_ ?_
          rotate_left
          ·
           intro w'
           go_simp
           with_reducible rfl
          rotate_left
          ·
           simp only [Act.put, q1, q2, q3, i64_w, i32_w]
           rfl
          refine pure_ (i := 10) (N := some 66) (v := ?_) (a' := ?_) #[T, T, T, T, T, T, T, T, T, T, T, F, F, F, F, F, F, F, F, F, F, F, F, F, F, F] rfl rfl (any_of HT_.out (by kernel_rfl)) (fun _ _ _ h => h) (Or.inl ⟨by rfl, ?_⟩) ?_ ?_
          rotate_left
          ·
           intro w'
           go_simp
           with_reducible rfl
          rotate_left
          ·
           simp only [Act.put, q1, q2, q3, i64_w, i32_w]
           rfl
          refine pure_ (i := 11) (N := some 67) (v := ?_) (a' := ?_) #[T, T, T, T, T, T, T, T, T, T, T, T, F, F, F, F, F, F, F, F, F, F, F, F, F, F] rfl rfl (any_of HT_.out (by kernel_rfl)) (fun _ _ _ h => h) (Or.inl ⟨by rfl, ?_⟩) ?_ ?_
          rotate_left
          ·
           intro w'
           go_simp
           with_reducible rfl
          rotate_left
          ·
           simp only [Act.put, q1, q2, q3, i64_w, i32_w]
           rfl
          refine pure_ (i := 12) (N := some 68) (v := ?_) (a' := ?_) #[T, T, T, T, T, T, T, T, T, T, T, T, T, F, F, F, F, F, F, F, F, F, F, F, F, F] rfl rfl (any_of HT_.out (by kernel_rfl)) (fun _ _ _ h => h) (Or.inl ⟨by rfl, ?_⟩) ?_ ?_
          rotate_left
          ·
           intro w'
           go_simp
           with_reducible rfl
          rotate_left
          ·
           simp only [Act.put, q1, q2, q3, i64_w, i32_w]
           rfl
          refine pure_ (i := 13) (N := some 69) (v := undef) (a' := ?_) #[T, T, T, T, T, T, T, T, T, T, T, T, T, T, F, F, F, F, F, F, F, F, F, F, F, F] rfl rfl (any_of HT_.out (by kernel_rfl)) (fun _ _ _ h => h) (Or.inr ⟨by rfl, rfl⟩) ?_ ?_
          rotate_left
          ·
           simp only [Act.put, q1, q2, q3, i64_w, i32_w]
           rfl
          refine pure_ (i := 14) (N := some 70) (v := undef) (a' := ?_) #[T, T, T, T, T, T, T, T, T, T, T, T, T, T, T, F, F, F, F, F, F, F, F, F, F, F] rfl rfl (any_of HT_.out (by kernel_rfl)) (fun _ _ _ h => h) (Or.inr ⟨by rfl, rfl⟩) ?_ ?_
          rotate_left
          ·
           simp only [Act.put, q1, q2, q3, i64_w, i32_w]
           rfl
          refine pure_ (i := 15) (N := some 71) (v := undef) (a' := ?_) #[T, T, T, T, T, T, T, T, T, T, T, T, T, T, T, T, F, F, F, F, F, F, F, F, F, F] rfl rfl (any_of HT_.out (by kernel_rfl)) (fun _ _ _ h => h) (Or.inr ⟨by rfl, rfl⟩) ?_ ?_
          rotate_left
          ·
           simp only [Act.put, q1, q2, q3, i64_w, i32_w]
           rfl
          refine pure_ (i := 16) (N := some 72) (v := undef) (a' := ?_) #[T, T, T, T, T, T, T, T, T, T, T, T, T, T, T, T, T, F, F, F, F, F, F, F, F, F] rfl rfl (any_of HT_.out (by kernel_rfl)) (fun _ _ _ h => h) (Or.inr ⟨by rfl, rfl⟩) ?_ ?_
          rotate_left
          ·
           simp only [Act.put, q1, q2, q3, i64_w, i32_w]
           rfl
          refine pure_ (i := 17) (N := some 73) (v := undef) (a' := ?_) #[T, T, T, T, T, T, T, T, T, T, T, T, T, T, T, T, T, T, F, F, F, F, F, F, F, F] rfl rfl (any_of HT_.out (by kernel_rfl)) (fun _ _ _ h => h) (Or.inr ⟨by rfl, rfl⟩) ?_ ?_
          rotate_left
          ·
           simp only [Act.put, q1, q2, q3, i64_w, i32_w]
           rfl
          refine pure_ (i := 18) (N := some 74) (v := undef) (a' := ?_) #[T, T, T, T, T, T, T, T, T, T, T, T, T, T, T, T, T, T, T, F, F, F, F, F, F, F] rfl rfl (any_of HT_.out (by kernel_rfl)) (fun _ _ _ h => h) (Or.inr ⟨by rfl, rfl⟩) ?_ ?_
          rotate_left
          ·
           simp only [Act.put, q1, q2, q3, i64_w, i32_w]
           rfl
          refine pure_ (i := 19) (N := some 75) (v := undef) (a' := ?_) #[T, T, T, T, T, T, T, T, T, T, T, T, T, T, T, T, T, T, T, T, F, F, F, F, F, F] rfl rfl (any_of HT_.out (by kernel_rfl)) (fun _ _ _ h => h) (Or.inr ⟨by rfl, rfl⟩) ?_ ?_
          rotate_left
          ·
           simp only [Act.put, q1, q2, q3, i64_w, i32_w]
           rfl
          refine pure_ (i := 20) (N := some 76) (v := undef) (a' := ?_) #[T, T, T, T, T, T, T, T, T, T, T, T, T, T, T, T, T, T, T, T, T, F, F, F, F, F] rfl rfl (any_of HT_.out (by kernel_rfl)) (fun _ _ _ h => h) (Or.inr ⟨by rfl, rfl⟩) ?_ ?_
          rotate_left
          ·
           simp only [Act.put, q1, q2, q3, i64_w, i32_w]
           rfl
          refine pure_ (i := 21) (N := some 77) (v := undef) (a' := ?_) #[T, T, T, T, T, T, T, T, T, T, T, T, T, T, T, T, T, T, T, T, T, T, F, F, F, F] rfl rfl (any_of HT_.out (by kernel_rfl)) (fun _ _ _ h => h) (Or.inr ⟨by rfl, rfl⟩) ?_ ?_
          rotate_left
          ·
           simp only [Act.put, q1, q2, q3, i64_w, i32_w]
           rfl
          refine pure_ (i := 22) (N := some 78) (v := undef) (a' := ?_) #[T, T, T, T, T, T, T, T, T, T, T, T, T, T, T, T, T, T, T, T, T, T, T, F, F, F] rfl rfl (any_of HT_.out (by kernel_rfl)) (fun _ _ _ h => h) (Or.inr ⟨by rfl, rfl⟩) ?_ ?_
          rotate_left
          ·
           simp only [Act.put, q1, q2, q3, i64_w, i32_w]
           rfl
          refine pure_ (i := 23) (N := some 79) (v := undef) (a' := ?_) #[T, T, T, T, T, T, T, T, T, T, T, T, T, T, T, T, T, T, T, T, T, T, T, T, F, F] rfl rfl (any_of HT_.out (by kernel_rfl)) (fun _ _ _ h => h) (Or.inr ⟨by rfl, rfl⟩) ?_ ?_
          rotate_left
          ·
           simp only [Act.put, q1, q2, q3, i64_w, i32_w]
           rfl
          refine pure_ (i := 24) (N := some 80) (v := undef) (a' := ?_) #[T, T, T, T, T, T, T, T, T, T, T, T, T, T, T, T, T, T, T, T, T, T, T, T, T, F] rfl rfl (any_of HT_.out (by kernel_rfl)) (fun _ _ _ h => h) (Or.inr ⟨by rfl, rfl⟩) ?_ ?_
          rotate_left
          ·
           simp only [Act.put, q1, q2, q3, i64_w, i32_w]
           rfl
          refine pure_ (i := 25) (N := some 81) (v := ?_) (a' := ?_) #[T, T, T, T, T, T, T, T, T, T, T, T, T, T, T, T, T, T, T, T, T, T, T, T, T, T] rfl rfl (any_of HT_.out (by kernel_rfl)) (fun _ _ _ h => h) (Or.inl ⟨by rfl, ?_⟩) ?_ ?_
          rotate_left
          ·
           intro w'
           go_simp
           with_reducible rfl
          rotate_left
          ·
           simp only [Act.put, q1, q2, q3, i64_w, i32_w]
           rfl
          refine done_ (done_of HT_.out (by kernel_rfl)) ?_
          try go_wp2
          go_meet
          case rel => exact ⟨_, (true), (by first | rfl | (simp; done) | (simp [*]; done)), H', ⟨by have := HJ7.out; have := HJ69.out; first | omega | exact Nat.le_refl _⟩, ⟨by (with_reducible repeat (first | apply Kd.N_alloc | apply Kd.N_drewN | apply Kd.N_drew)); exact Kd.N_mono HO_321001.out (fun _ hk => ⟨hk.1.1, ⟨hk.1.2.1, ⟨hk.1.2.2.1, ⟨hk.1.2.2.2.1, ⟨hk.1.2.2.2.2.1, ⟨hk.1.2.2.2.2.2.1, hk.1.2.2.2.2.2.2⟩⟩⟩⟩⟩⟩)⟩, ⟨by (with_reducible repeat (first | apply Kd.N_alloc | apply Kd.N_drewN | apply Kd.N_drew)); exact Kd.N_mono HO_322001.out (fun _ hk => ⟨hk.1.1, ⟨hk.1.2.1, ⟨hk.1.2.2.1, ⟨hk.1.2.2.2.1, ⟨hk.1.2.2.2.2.1, ⟨hk.1.2.2.2.2.2.1, hk.1.2.2.2.2.2.2⟩⟩⟩⟩⟩⟩)⟩, ⟨by (with_reducible repeat (first | apply Kd.N_alloc | apply Kd.N_drewN | apply Kd.N_drew)); exact Kd.N_mono HO_336001.out (fun _ hk => ⟨hk.1.1, ⟨hk.1.2.1, ⟨hk.1.2.2.1, ⟨hk.1.2.2.2.1, ⟨hk.1.2.2.2.2.1, ⟨hk.1.2.2.2.2.2.1, hk.1.2.2.2.2.2.2⟩⟩⟩⟩⟩⟩)⟩, ⟨by (with_reducible repeat (first | apply Kd.N_alloc | apply Kd.N_drewN | apply Kd.N_drew)); exact Kd.N_mono HO_342001.out (fun _ hk => ⟨hk.1.1, ⟨hk.1.2.1, ⟨hk.1.2.2.1, ⟨hk.1.2.2.2.1, ⟨hk.1.2.2.2.2.1, ⟨hk.1.2.2.2.2.2.1, hk.1.2.2.2.2.2.2⟩⟩⟩⟩⟩⟩)⟩, ⟨by (with_reducible repeat (first | refine blk_drewN ?_ _ | refine blk_drew ?_ | refine blk_alloc ?_ _)); exact BK320.out⟩, ⟨by (with_reducible repeat (first | refine blk_drewN ?_ _ | refine blk_drew ?_ | refine blk_alloc ?_ _)); exact BK321.out⟩, ⟨by (with_reducible repeat (first | refine blk_drewN ?_ _ | refine blk_drew ?_ | refine blk_alloc ?_ _)); exact BK335.out⟩, ⟨by (with_reducible repeat (first | refine blk_drewN ?_ _ | refine blk_drew ?_ | refine blk_alloc ?_ _)); exact BK341.out⟩, ⟨pb HB⟩⟩
        ·
         rw [if_neg c74] at H
         have c74b0 : (t340 == 0) = false := beq_eq_false_iff_ne.mpr c74
         have c74b1 : (t340 != 0) = true := bne_iff_ne.mpr c74
         (first | rw [c74b0] | (simp only [i64_w, i32_w]; rw [c74b0]) | skip)
         have H' := Aside0.mk H
         clear H
         try go_wp2
         have n0_ := am (Kd.N_drew HO_321001.out)
         have n1_ := am (Kd.N_drew HO_322001.out)
         have n2_ := am (Kd.N_drew HO_336001.out)
         have n3_ := am (Kd.N_drew HO_342001.out)
         have n4_ := am (blk_drew BK320.out)
         have n5_ := am (blk_drew BK321.out)
         have n6_ := am (blk_drew BK335.out)
         have n7_ := am (blk_drew BK341.out)
         have n8_ := am (below_drew1 HB.out)
         clear HO_321001
         clear HO_322001
         clear HO_336001
         clear HO_342001
         clear BK320
         clear BK321
         clear BK335
         clear BK341
         clear HB
         have HO_321001 := n0_
         have HO_322001 := n1_
         have HO_336001 := n2_
         have HO_342001 := n3_
         have BK320 := n4_
         have BK321 := n5_
         have BK335 := n6_
         have BK341 := n7_
         have HB := n8_
         clear n0_ n1_ n2_ n3_ n4_ n5_ n6_ n7_ n8_
         refine start_ (n := 26) (S := fun w' => True) (ds := []) #[F, F, F, F, F, F, F, F, F, F, F, F, F, F, F, F, F, F, F, F, F, F, F, F, F, F] (by kernel_rfl) rfl rfl trivial (fun hHeld => ?_); refine with_tabW downpourlaw03_MatrixTurns.tab7 downpourlaw03_MatrixTurns.bits7 (fun HT_ HW_ => ?_)
         generalize wc.drew = w86 at HO_321001 HO_322001 HO_336001 HO_342001 BK320 BK321 BK335 BK341 HB hHeld ⊢
         refine pure_ (i := 0) (N := some 56) (v := ?_) (a' := ?_) #[T, F, F, F, F, F, F, F, F, F, F, F, F, F, F, F, F, F, F, F, F, F, F, F, F, F] rfl rfl (any_of HT_.out (by kernel_rfl)) (fun _ _ _ h => h) (Or.inl ⟨by rfl, ?_⟩) ?_ ?_
         rotate_left
         ·
          intro w'
          go_simp
          with_reducible rfl
         rotate_left
         ·
          simp only [Act.put, q1, q2, q3, i64_w, i32_w]
          rfl
         refine pure_ (i := 1) (N := some 57) (v := ?_) (a' := ?_) #[T, T, F, F, F, F, F, F, F, F, F, F, F, F, F, F, F, F, F, F, F, F, F, F, F, F] rfl rfl (any_of HT_.out (by kernel_rfl)) (fun _ _ _ h => h) (Or.inl ⟨by rfl, ?_⟩) ?_ ?_
         rotate_left
         ·
          intro w'
          go_simp
          with_reducible rfl
         rotate_left
         ·
          simp only [Act.put, q1, q2, q3, i64_w, i32_w]
          rfl
         refine pure_ (i := 2) (N := some 58) (v := ?_) (a' := ?_) #[T, T, T, F, F, F, F, F, F, F, F, F, F, F, F, F, F, F, F, F, F, F, F, F, F, F] rfl rfl (any_of HT_.out (by kernel_rfl)) (fun _ _ _ h => h) (Or.inl ⟨by rfl, ?_⟩) ?_ ?_
         rotate_left
         ·
          intro w'
          go_simp
          with_reducible rfl
         rotate_left
         ·
          simp only [Act.put, q1, q2, q3, i64_w, i32_w]
          rfl
         refine pure_ (i := 3) (N := some 59) (v := ?_) (a' := ?_) #[T, T, T, T, F, F, F, F, F, F, F, F, F, F, F, F, F, F, F, F, F, F, F, F, F, F] rfl rfl (any_of HT_.out (by kernel_rfl)) (fun _ _ _ h => h) (Or.inl ⟨by rfl, ?_⟩) ?_ ?_
         rotate_left
         ·
          intro w'
          go_simp
          with_reducible rfl
         rotate_left
         ·
          simp only [Act.put, q1, q2, q3, i64_w, i32_w]
          rfl
         refine pure_ (i := 4) (N := some 60) (v := ?_) (a' := ?_) #[T, T, T, T, T, F, F, F, F, F, F, F, F, F, F, F, F, F, F, F, F, F, F, F, F, F] rfl rfl (any_of HT_.out (by kernel_rfl)) (fun _ _ _ h => h) (Or.inl ⟨by rfl, ?_⟩) ?_ ?_
         rotate_left
         ·
          intro w'
          go_simp
          with_reducible rfl
         rotate_left
         ·
          simp only [Act.put, q1, q2, q3, i64_w, i32_w]
          rfl
         refine pure_ (i := 5) (N := some 61) (v := undef) (a' := ?_) #[T, T, T, T, T, T, F, F, F, F, F, F, F, F, F, F, F, F, F, F, F, F, F, F, F, F] rfl rfl (any_of HT_.out (by kernel_rfl)) (fun _ _ _ h => h) (Or.inr ⟨by rfl, rfl⟩) ?_ ?_
         rotate_left
         ·
          simp only [Act.put, q1, q2, q3, i64_w, i32_w]
          rfl
         refine pure_ (i := 6) (N := some 62) (v := undef) (a' := ?_) #[T, T, T, T, T, T, T, F, F, F, F, F, F, F, F, F, F, F, F, F, F, F, F, F, F, F] rfl rfl (any_of HT_.out (by kernel_rfl)) (fun _ _ _ h => h) (Or.inr ⟨by rfl, rfl⟩) ?_ ?_
         rotate_left
         ·
          simp only [Act.put, q1, q2, q3, i64_w, i32_w]
          rfl
         refine pure_ (i := 7) (N := some 63) (v := undef) (a' := ?_) #[T, T, T, T, T, T, T, T, F, F, F, F, F, F, F, F, F, F, F, F, F, F, F, F, F, F] rfl rfl (any_of HT_.out (by kernel_rfl)) (fun _ _ _ h => h) (Or.inr ⟨by rfl, rfl⟩) ?_ ?_
         rotate_left
         ·
          simp only [Act.put, q1, q2, q3, i64_w, i32_w]
          rfl
         refine pure_ (i := 8) (N := some 64) (v := undef) (a' := ?_) #[T, T, T, T, T, T, T, T, T, F, F, F, F, F, F, F, F, F, F, F, F, F, F, F, F, F] rfl rfl (any_of HT_.out (by kernel_rfl)) (fun _ _ _ h => h) (Or.inr ⟨by rfl, rfl⟩) ?_ ?_
         rotate_left
         ·
          simp only [Act.put, q1, q2, q3, i64_w, i32_w]
          rfl
         refine pure_ (i := 9) (N := some 65) (v := undef) (a' := ?_) #[T, T, T, T, T, T, T, T, T, T, F, F, F, F, F, F, F, F, F, F, F, F, F, F, F, F] rfl rfl (any_of HT_.out (by kernel_rfl)) (fun _ _ _ h => h) (Or.inr ⟨by rfl, rfl⟩) ?_ ?_
         rotate_left
         ·
          simp only [Act.put, q1, q2, q3, i64_w, i32_w]
          rfl
         refine pure_ (i := 10) (N := some 66) (v := ?_) (a' := ?_) #[T, T, T, T, T, T, T, T, T, T, T, F, F, F, F, F, F, F, F, F, F, F, F, F, F, F] rfl rfl (any_of HT_.out (by kernel_rfl)) (fun _ _ _ h => h) (Or.inl ⟨by rfl, ?_⟩) ?_ ?_
         rotate_left
         ·
          intro w'
          go_simp
          with_reducible rfl
         rotate_left
         ·
          simp only [Act.put, q1, q2, q3, i64_w, i32_w]
          rfl
         refine pure_ (i := 11) (N := some 67) (v := ?_) (a' := ?_) #[T, T, T, T, T, T, T, T, T, T, T, T, F, F, F, F, F, F, F, F, F, F, F, F, F, F] rfl rfl (any_of HT_.out (by kernel_rfl)) (fun _ _ _ h => h) (Or.inl ⟨by rfl, ?_⟩) ?_ ?_
         rotate_left
         ·
          intro w'
          go_simp
          with_reducible rfl
         rotate_left
         ·
          simp only [Act.put, q1, q2, q3, i64_w, i32_w]
          rfl
         refine pure_ (i := 12) (N := some 68) (v := ?_) (a' := ?_) #[T, T, T, T, T, T, T, T, T, T, T, T, T, F, F, F, F, F, F, F, F, F, F, F, F, F] rfl rfl (any_of HT_.out (by kernel_rfl)) (fun _ _ _ h => h) (Or.inl ⟨by rfl, ?_⟩) ?_ ?_
         rotate_left
         ·
          intro w'
          go_simp
          with_reducible rfl
         rotate_left
         ·
          simp only [Act.put, q1, q2, q3, i64_w, i32_w]
          rfl
         refine pure_ (i := 13) (N := some 69) (v := undef) (a' := ?_) #[T, T, T, T, T, T, T, T, T, T, T, T, T, T, F, F, F, F, F, F, F, F, F, F, F, F] rfl rfl (any_of HT_.out (by kernel_rfl)) (fun _ _ _ h => h) (Or.inr ⟨by rfl, rfl⟩) ?_ ?_
         rotate_left
         ·
          simp only [Act.put, q1, q2, q3, i64_w, i32_w]
          rfl
         refine pure_ (i := 14) (N := some 70) (v := undef) (a' := ?_) #[T, T, T, T, T, T, T, T, T, T, T, T, T, T, T, F, F, F, F, F, F, F, F, F, F, F] rfl rfl (any_of HT_.out (by kernel_rfl)) (fun _ _ _ h => h) (Or.inr ⟨by rfl, rfl⟩) ?_ ?_
         rotate_left
         ·
          simp only [Act.put, q1, q2, q3, i64_w, i32_w]
          rfl
         refine pure_ (i := 15) (N := some 71) (v := undef) (a' := ?_) #[T, T, T, T, T, T, T, T, T, T, T, T, T, T, T, T, F, F, F, F, F, F, F, F, F, F] rfl rfl (any_of HT_.out (by kernel_rfl)) (fun _ _ _ h => h) (Or.inr ⟨by rfl, rfl⟩) ?_ ?_
         rotate_left
         ·
          simp only [Act.put, q1, q2, q3, i64_w, i32_w]
          rfl
         refine pure_ (i := 16) (N := some 72) (v := undef) (a' := ?_) #[T, T, T, T, T, T, T, T, T, T, T, T, T, T, T, T, T, F, F, F, F, F, F, F, F, F] rfl rfl (any_of HT_.out (by kernel_rfl)) (fun _ _ _ h => h) (Or.inr ⟨by rfl, rfl⟩) ?_ ?_
         rotate_left
         ·
          simp only [Act.put, q1, q2, q3, i64_w, i32_w]
          rfl
         refine pure_ (i := 17) (N := some 73) (v := undef) (a' := ?_) #[T, T, T, T, T, T, T, T, T, T, T, T, T, T, T, T, T, T, F, F, F, F, F, F, F, F] rfl rfl (any_of HT_.out (by kernel_rfl)) (fun _ _ _ h => h) (Or.inr ⟨by rfl, rfl⟩) ?_ ?_
         rotate_left
         ·
          simp only [Act.put, q1, q2, q3, i64_w, i32_w]
          rfl
         refine pure_ (i := 18) (N := some 74) (v := undef) (a' := ?_) #[T, T, T, T, T, T, T, T, T, T, T, T, T, T, T, T, T, T, T, F, F, F, F, F, F, F] rfl rfl (any_of HT_.out (by kernel_rfl)) (fun _ _ _ h => h) (Or.inr ⟨by rfl, rfl⟩) ?_ ?_
         rotate_left
         ·
          simp only [Act.put, q1, q2, q3, i64_w, i32_w]
          rfl
         refine pure_ (i := 19) (N := some 75) (v := undef) (a' := ?_) #[T, T, T, T, T, T, T, T, T, T, T, T, T, T, T, T, T, T, T, T, F, F, F, F, F, F] rfl rfl (any_of HT_.out (by kernel_rfl)) (fun _ _ _ h => h) (Or.inr ⟨by rfl, rfl⟩) ?_ ?_
         rotate_left
         ·
          simp only [Act.put, q1, q2, q3, i64_w, i32_w]
          rfl
         refine pure_ (i := 20) (N := some 76) (v := undef) (a' := ?_) #[T, T, T, T, T, T, T, T, T, T, T, T, T, T, T, T, T, T, T, T, T, F, F, F, F, F] rfl rfl (any_of HT_.out (by kernel_rfl)) (fun _ _ _ h => h) (Or.inr ⟨by rfl, rfl⟩) ?_ ?_
         rotate_left
         ·
          simp only [Act.put, q1, q2, q3, i64_w, i32_w]
          rfl
         refine pure_ (i := 21) (N := some 77) (v := undef) (a' := ?_) #[T, T, T, T, T, T, T, T, T, T, T, T, T, T, T, T, T, T, T, T, T, T, F, F, F, F] rfl rfl (any_of HT_.out (by kernel_rfl)) (fun _ _ _ h => h) (Or.inr ⟨by rfl, rfl⟩) ?_ ?_
         rotate_left
         ·
          simp only [Act.put, q1, q2, q3, i64_w, i32_w]
          rfl
         refine pure_ (i := 22) (N := some 78) (v := undef) (a' := ?_) #[T, T, T, T, T, T, T, T, T, T, T, T, T, T, T, T, T, T, T, T, T, T, T, F, F, F] rfl rfl (any_of HT_.out (by kernel_rfl)) (fun _ _ _ h => h) (Or.inr ⟨by rfl, rfl⟩) ?_ ?_
         rotate_left
         ·
          simp only [Act.put, q1, q2, q3, i64_w, i32_w]
          rfl
         refine pure_ (i := 23) (N := some 79) (v := undef) (a' := ?_) #[T, T, T, T, T, T, T, T, T, T, T, T, T, T, T, T, T, T, T, T, T, T, T, T, F, F] rfl rfl (any_of HT_.out (by kernel_rfl)) (fun _ _ _ h => h) (Or.inr ⟨by rfl, rfl⟩) ?_ ?_
         rotate_left
         ·
          simp only [Act.put, q1, q2, q3, i64_w, i32_w]
          rfl
         refine pure_ (i := 24) (N := some 80) (v := undef) (a' := ?_) #[T, T, T, T, T, T, T, T, T, T, T, T, T, T, T, T, T, T, T, T, T, T, T, T, T, F] rfl rfl (any_of HT_.out (by kernel_rfl)) (fun _ _ _ h => h) (Or.inr ⟨by rfl, rfl⟩) ?_ ?_
         rotate_left
         ·
          simp only [Act.put, q1, q2, q3, i64_w, i32_w]
          rfl
         refine pure_ (i := 25) (N := some 81) (v := ?_) (a' := ?_) #[T, T, T, T, T, T, T, T, T, T, T, T, T, T, T, T, T, T, T, T, T, T, T, T, T, T] rfl rfl (any_of HT_.out (by kernel_rfl)) (fun _ _ _ h => h) (Or.inl ⟨by rfl, ?_⟩) ?_ ?_
         rotate_left
         ·
          intro w'
          go_simp
          with_reducible rfl
         rotate_left
         ·
          simp only [Act.put, q1, q2, q3, i64_w, i32_w]
          rfl
         refine done_ (done_of HT_.out (by kernel_rfl)) ?_
         try go_wp2
         go_meet
         case rel => exact ⟨_, (true), (by first | rfl | (simp; done) | (simp [*]; done)), H', ⟨by have := HJ7.out; have := HJ69.out; first | omega | exact Nat.le_refl _⟩, ⟨by (with_reducible repeat (first | apply Kd.N_alloc | apply Kd.N_drewN | apply Kd.N_drew)); exact HO_321001.out⟩, ⟨by (with_reducible repeat (first | apply Kd.N_alloc | apply Kd.N_drewN | apply Kd.N_drew)); exact HO_322001.out⟩, ⟨by (with_reducible repeat (first | apply Kd.N_alloc | apply Kd.N_drewN | apply Kd.N_drew)); exact HO_336001.out⟩, ⟨by (with_reducible repeat (first | apply Kd.N_alloc | apply Kd.N_drewN | apply Kd.N_drew)); exact HO_342001.out⟩, ⟨by (with_reducible repeat (first | refine blk_drewN ?_ _ | refine blk_drew ?_ | refine blk_alloc ?_ _)); exact BK320.out⟩, ⟨by (with_reducible repeat (first | refine blk_drewN ?_ _ | refine blk_drew ?_ | refine blk_alloc ?_ _)); exact BK321.out⟩, ⟨by (with_reducible repeat (first | refine blk_drewN ?_ _ | refine blk_drew ?_ | refine blk_alloc ?_ _)); exact BK335.out⟩, ⟨by (with_reducible repeat (first | refine blk_drewN ?_ _ | refine blk_drew ?_ | refine blk_alloc ?_ _)); exact BK341.out⟩, ⟨pb HB⟩⟩
       ·
        replace c73 := Bool.eq_false_iff.mpr c73
        subst c73
        have H1 : (if t340 = 2 then ((downpourref03_Same.f kj69 t336 t337 0 ([] : List (S25))).bind fun t353 => (downpourlaw03_MatrixTurns.j2 kj69 t334 (!t353) t322 t323 t330 t331)) else (downpourlaw03_MatrixTurns.j2 kj69 t334 true t322 t323 t330 t331)) = some r := by rw [if_neg (show ¬ (false = true) by decide)] at H; exact H
        clear H
        have H := H1
        clear H1
        by_cases c87 : t340 = 2
        ·
         rw [if_pos c87] at H
         have c87b0 : (t340 == 2) = true := beq_iff_eq.mpr c87
         have c87b1 : (t340 != 2) = false := bne_eq_false_iff_eq.mpr c87
         clear c87
         replace H := Option.bind_eq_some_iff.mp H
         obtain ⟨t353, A880, H⟩ := H
         replace H : (downpourlaw03_MatrixTurns.j2 kj69 t334 (!t353) t322 t323 t330 t331) = some r := H
         have A88 := Aside0.mk A880
         clear A880
         have H' := Aside0.mk H
         clear H
         try go_wp2
         have n0_ := am (Kd.N_drew HO_321001.out)
         have n1_ := am (Kd.N_drew HO_322001.out)
         have n2_ := am (Kd.N_drew HO_336001.out)
         have n3_ := am (Kd.N_drew HO_342001.out)
         have n4_ := am (blk_drew BK320.out)
         have n5_ := am (blk_drew BK321.out)
         have n6_ := am (blk_drew BK335.out)
         have n7_ := am (blk_drew BK341.out)
         have n8_ := am (below_drew1 HB.out)
         clear HO_321001
         clear HO_322001
         clear HO_336001
         clear HO_342001
         clear BK320
         clear BK321
         clear BK335
         clear BK341
         clear HB
         have HO_321001 := n0_
         have HO_322001 := n1_
         have HO_336001 := n2_
         have HO_342001 := n3_
         have BK320 := n4_
         have BK321 := n5_
         have BK335 := n6_
         have BK341 := n7_
         have HB := n8_
         clear n0_ n1_ n2_ n3_ n4_ n5_ n6_ n7_ n8_
         refine start_ (n := 26) (S := fun w' => w'.cell? ⟨gb341, 0, none⟩ = some (.int .i64 t336) ∧ w'.cell? ⟨gb341, 1, none⟩ = some (.slice Ao34 t337.length co34)) (ds := []) #[F, F, F, F, F, F, F, F, F, F, F, F, F, F, F, F, F, F, F, F, F, F, F, F, F, F] (by kernel_rfl) rfl rfl ⟨(blk_cell BK341.out 0).trans rfl, (blk_cell BK341.out 1).trans rfl⟩ (fun hHeld => ?_); refine with_tabW downpourlaw03_MatrixTurns.tab7 downpourlaw03_MatrixTurns.bits7 (fun HT_ HW_ => ?_)
         generalize wc.drew = w89 at HO_321001 HO_322001 HO_336001 HO_342001 BK320 BK321 BK335 BK341 HB hHeld ⊢
         refine pure_ (i := 0) (N := some 56) (v := ?_) (a' := ?_) #[T, F, F, F, F, F, F, F, F, F, F, F, F, F, F, F, F, F, F, F, F, F, F, F, F, F] rfl rfl (any_of HT_.out (by kernel_rfl)) (fun _ _ _ h => h) (Or.inl ⟨by rfl, ?_⟩) ?_ ?_
         rotate_left
         ·
          intro w'
          go_simp
          with_reducible rfl
         rotate_left
         ·
          simp only [Act.put, q1, q2, q3, i64_w, i32_w]
          rfl
         refine pure_ (i := 1) (N := some 57) (v := ?_) (a' := ?_) #[T, T, F, F, F, F, F, F, F, F, F, F, F, F, F, F, F, F, F, F, F, F, F, F, F, F] rfl rfl (any_of HT_.out (by kernel_rfl)) (fun _ _ _ h => h) (Or.inl ⟨by rfl, ?_⟩) ?_ ?_
         rotate_left
         ·
          intro w'
          go_simp
          with_reducible rfl
         rotate_left
         ·
          simp only [Act.put, q1, q2, q3, i64_w, i32_w]
          rfl
         refine pure_ (i := 2) (N := some 58) (v := undef) (a' := ?_) #[T, T, T, F, F, F, F, F, F, F, F, F, F, F, F, F, F, F, F, F, F, F, F, F, F, F] rfl rfl (any_of HT_.out (by kernel_rfl)) (fun _ _ _ h => h) (Or.inr ⟨by rfl, rfl⟩) ?_ ?_
         rotate_left
         ·
          simp only [Act.put, q1, q2, q3, i64_w, i32_w]
          rfl
         refine pure_ (i := 3) (N := some 59) (v := undef) (a' := ?_) #[T, T, T, T, F, F, F, F, F, F, F, F, F, F, F, F, F, F, F, F, F, F, F, F, F, F] rfl rfl (any_of HT_.out (by kernel_rfl)) (fun _ _ _ h => h) (Or.inr ⟨by rfl, rfl⟩) ?_ ?_
         rotate_left
         ·
          simp only [Act.put, q1, q2, q3, i64_w, i32_w]
          rfl
         refine pure_ (i := 4) (N := some 60) (v := undef) (a' := ?_) #[T, T, T, T, T, F, F, F, F, F, F, F, F, F, F, F, F, F, F, F, F, F, F, F, F, F] rfl rfl (any_of HT_.out (by kernel_rfl)) (fun _ _ _ h => h) (Or.inr ⟨by rfl, rfl⟩) ?_ ?_
         rotate_left
         ·
          simp only [Act.put, q1, q2, q3, i64_w, i32_w]
          rfl
         refine pure_ (i := 5) (N := some 61) (v := undef) (a' := ?_) #[T, T, T, T, T, T, F, F, F, F, F, F, F, F, F, F, F, F, F, F, F, F, F, F, F, F] rfl rfl (any_of HT_.out (by kernel_rfl)) (fun _ _ _ h => h) (Or.inr ⟨by rfl, rfl⟩) ?_ ?_
         rotate_left
         ·
          simp only [Act.put, q1, q2, q3, i64_w, i32_w]
          rfl
         refine pure_ (i := 6) (N := some 62) (v := undef) (a' := ?_) #[T, T, T, T, T, T, T, F, F, F, F, F, F, F, F, F, F, F, F, F, F, F, F, F, F, F] rfl rfl (any_of HT_.out (by kernel_rfl)) (fun _ _ _ h => h) (Or.inr ⟨by rfl, rfl⟩) ?_ ?_
         rotate_left
         ·
          simp only [Act.put, q1, q2, q3, i64_w, i32_w]
          rfl
         refine pure_ (i := 7) (N := some 63) (v := undef) (a' := ?_) #[T, T, T, T, T, T, T, T, F, F, F, F, F, F, F, F, F, F, F, F, F, F, F, F, F, F] rfl rfl (any_of HT_.out (by kernel_rfl)) (fun _ _ _ h => h) (Or.inr ⟨by rfl, rfl⟩) ?_ ?_
         rotate_left
         ·
          simp only [Act.put, q1, q2, q3, i64_w, i32_w]
          rfl
         refine pure_ (i := 8) (N := some 64) (v := undef) (a' := ?_) #[T, T, T, T, T, T, T, T, T, F, F, F, F, F, F, F, F, F, F, F, F, F, F, F, F, F] rfl rfl (any_of HT_.out (by kernel_rfl)) (fun _ _ _ h => h) (Or.inr ⟨by rfl, rfl⟩) ?_ ?_
         rotate_left
         ·
          simp only [Act.put, q1, q2, q3, i64_w, i32_w]
          rfl
         refine pure_ (i := 9) (N := some 65) (v := undef) (a' := ?_) #[T, T, T, T, T, T, T, T, T, T, F, F, F, F, F, F, F, F, F, F, F, F, F, F, F, F] rfl rfl (any_of HT_.out (by kernel_rfl)) (fun _ _ _ h => h) (Or.inr ⟨by rfl, rfl⟩) ?_ ?_
         rotate_left
         ·
          simp only [Act.put, q1, q2, q3, i64_w, i32_w]
          rfl
         refine pure_ (i := 10) (N := some 66) (v := undef) (a' := ?_) #[T, T, T, T, T, T, T, T, T, T, T, F, F, F, F, F, F, F, F, F, F, F, F, F, F, F] rfl rfl (any_of HT_.out (by kernel_rfl)) (fun _ _ _ h => h) (Or.inr ⟨by rfl, rfl⟩) ?_ ?_
         rotate_left
         ·
          simp only [Act.put, q1, q2, q3, i64_w, i32_w]
          rfl
         refine pure_ (i := 11) (N := some 67) (v := ?_) (a' := ?_) #[T, T, T, T, T, T, T, T, T, T, T, T, F, F, F, F, F, F, F, F, F, F, F, F, F, F] rfl rfl (any_of HT_.out (by kernel_rfl)) (fun _ _ _ h => h) (Or.inl ⟨by rfl, ?_⟩) ?_ ?_
         rotate_left
         ·
          intro w'
          go_simp
          with_reducible rfl
         rotate_left
         ·
          simp only [Act.put, q1, q2, q3, i64_w, i32_w]
          rfl
         refine pure_ (i := 12) (N := some 68) (v := ?_) (a' := ?_) #[T, T, T, T, T, T, T, T, T, T, T, T, T, F, F, F, F, F, F, F, F, F, F, F, F, F] rfl rfl (any_of HT_.out (by kernel_rfl)) (fun _ _ _ h => h) (Or.inl ⟨by rfl, ?_⟩) ?_ ?_
         rotate_left
         ·
          intro w'
          go_simp
          with_reducible rfl
         rotate_left
         ·
          simp only [Act.put, q1, q2, q3, i64_w, i32_w]
          rfl
         refine pure_ (i := 13) (N := some 69) (v := ?_) (a' := ?_) #[T, T, T, T, T, T, T, T, T, T, T, T, T, T, F, F, F, F, F, F, F, F, F, F, F, F] rfl rfl (any_of HT_.out (by kernel_rfl)) (fun _ _ _ h => h) (Or.inl ⟨by rfl, ?_⟩) ?_ ?_
         rotate_left
         ·
          intro w'
          go_simp
          with_reducible rfl
         rotate_left
         ·
          simp only [Act.put, q1, q2, q3, i64_w, i32_w]
          rfl
         refine pure_ (i := 14) (N := some 70) (v := ?_) (a' := ?_) #[T, T, T, T, T, T, T, T, T, T, T, T, T, T, T, F, F, F, F, F, F, F, F, F, F, F] rfl rfl (any_of HT_.out (by kernel_rfl)) (fun _ _ _ h => h) (Or.inl ⟨by rfl, ?_⟩) ?_ ?_
         rotate_left
         ·
          intro w'
          go_simp
          with_reducible rfl
         rotate_left
         ·
          simp only [Act.put, q1, q2, q3, i64_w, i32_w]
          rfl
         refine pure_ (i := 15) (N := some 71) (v := ?_) (a' := ?_) #[T, T, T, T, T, T, T, T, T, T, T, T, T, T, T, T, F, F, F, F, F, F, F, F, F, F] rfl rfl (any_of HT_.out (by kernel_rfl)) (fun _ _ _ h => h) (Or.inl ⟨by rfl, ?_⟩) ?_ ?_
         rotate_left
         ·
          intro w'
          go_simp
          with_reducible rfl
         rotate_left
         ·
          simp only [Act.put, q1, q2, q3, i64_w, i32_w]
          rfl
         refine pure_ (i := 16) (N := some 72) (v := ?_) (a' := ?_) #[T, T, T, T, T, T, T, T, T, T, T, T, T, T, T, T, T, F, F, F, F, F, F, F, F, F] rfl rfl (any_of HT_.out (by kernel_rfl)) (fun _ _ _ h => h) (Or.inl ⟨by rfl, ?_⟩) ?_ ?_
         rotate_left
         ·
          intro w'
          go_simp
          with_reducible rfl
         rotate_left
         ·
          simp only [Act.put, q1, q2, q3, i64_w, i32_w]
          rfl
         refine pure_ (i := 17) (N := some 73) (v := ?_) (a' := ?_) #[T, T, T, T, T, T, T, T, T, T, T, T, T, T, T, T, T, T, F, F, F, F, F, F, F, F] rfl rfl (any_of HT_.out (by kernel_rfl)) (fun _ _ _ h => h) (Or.inl ⟨by rfl, ?_⟩) ?_ ?_
         rotate_left
         ·
          intro w'
          go_simp
          with_reducible rfl
         rotate_left
         ·
          simp only [Act.put, q1, q2, q3, i64_w, i32_w]
          rfl
         refine pure_ (i := 18) (N := some 74) (v := ?_) (a' := ?_) #[T, T, T, T, T, T, T, T, T, T, T, T, T, T, T, T, T, T, T, F, F, F, F, F, F, F] rfl rfl (any_of HT_.out (by kernel_rfl)) (fun _ _ _ h => h) (Or.inl ⟨by rfl, ?_⟩) ?_ ?_
         rotate_left
         ·
          intro w'
          go_simp
          with_reducible rfl
         rotate_left
         ·
          simp only [Act.put, q1, q2, q3, i64_w, i32_w]
          rfl
         refine pure_ (i := 20) (N := some 76) (v := ?_) (a' := ?_) #[T, T, T, T, T, T, T, T, T, T, T, T, T, T, T, T, T, T, T, F, T, F, F, F, F, F] rfl rfl (any_of HT_.out (by kernel_rfl)) (fun _ _ _ h => h) (Or.inl ⟨by rfl, ?_⟩) ?_ ?_
         rotate_left
         ·
          intro w'
          go_simp
          with_reducible rfl
         rotate_left
         ·
          simp only [Act.put, q1, q2, q3, i64_w, i32_w]
          rfl
         refine take_ (i := 19) (N := some 75) (v := ?_) (a' := ?_) #[T, T, T, T, T, T, T, T, T, T, T, T, T, T, T, T, T, T, T, T, T, F, F, F, F, F] rfl rfl (take_ofW HT_.out HW_.out (by kernel_rfl)) (fun _ _ _ h => h) (Or.inl ⟨by rfl, ?_⟩) hHeld ?_ ?_
         rotate_left
         ·
          rintro w' ⟨s0, s1⟩
          go_simp
          with_reducible rfl
         rotate_left
         ·
          simp only [Act.put, q1, q2, q3, i64_w, i32_w]
          rfl
         refine one_ (i := 21) (N := some 77) #[T, T, T, T, T, T, T, T, T, T, T, T, T, T, T, T, T, T, T, T, T, T, F, F, F, F] rfl rfl (one_of HT_.out (by kernel_rfl)) (by decide) (fun K hK => ?_)
         refine goes_ Try.func38 (by kernel_rfl) rfl #[.agg #[.int .i64 t336, .slice Ao34 t337.length co34], .agg #[.int .i64 0, .slice none 0 0]] (by rfl) rfl rfl (by (try simp only [List.map_toArray, List.map_cons, List.map_nil]); first | done | rfl | (simp only [List.length_drop, List.length_take]; rfl)) ?_
         refine calls_of_args (args' := #[.agg #[.int .i64 t336, .slice Ao34 t337.length co34], .agg #[.int .i64 0, .slice none ([] : List (S25)).length 0]]) (by rfl) ?_; with_reducible refine (downpourref03_Same.calls kj69 t336 _ _ t337 0 _ _ ([] : List (S25)) t353 _ ?side1 ?side2 ?side3 ?side4 A88.out).mono ?_
         (case side1 => repeat (first | exact (Kd.N_reads' HO_342001.out).2.2 | (with_reducible refine Kd.C_alloc ?_ _) | (with_reducible refine Kd.C_drewN ?_ _) | (with_reducible refine Kd.C_drew ?_)))
         (case side2 => exact (Kd.N_reads' HO_342001.out).2.1)
         (case side3 => exact Kd.C_nil _ _)
         (case side4 => exact Nat.le_refl _)
         rintro e w90 ⟨rfl, hb⟩
         refine ⟨_, rfl, ?_⟩
         have n0_ := am (Kd.N_below (pn HO_321001) hb)
         have n1_ := am (Kd.N_below (pn HO_322001) hb)
         have n2_ := am (Kd.N_below (pn HO_336001) hb)
         have n3_ := am (Kd.N_below (pn HO_342001) hb)
         have n4_ := bb BK320 hb
         have n5_ := bb BK321 hb
         have n6_ := bb BK335 hb
         have n7_ := bb BK341 hb
         have n8_ := am (below_step (pb HB) hb)
         clear HO_321001
         clear HO_322001
         clear HO_336001
         clear HO_342001
         clear BK320
         clear BK321
         clear BK335
         clear BK341
         clear HB
         have HO_321001 := n0_
         have HO_322001 := n1_
         have HO_336001 := n2_
         have HO_342001 := n3_
         have BK320 := n4_
         have BK321 := n5_
         have BK335 := n6_
         have BK341 := n7_
         have HB := n8_
         clear n0_ n1_ n2_ n3_ n4_ n5_ n6_ n7_ n8_
         (try clear hb)
         (try clear hb2)
         (try clear hk)
         (try clear hi)
         refine hK.out _ _ ⟨(blk_cell BK341.out 0).trans rfl, (blk_cell BK341.out 1).trans rfl⟩ (fun hHeld => ?_)
         clear hK K
         refine norm_ (a' := ?_) ?_ ?_
         rotate_left
         ·
          show Act.put _ (some 77) _ = _
          simp only [Act.put, q1, q2, q3, i64_w, i32_w]
          rfl
         refine pure_ (i := 22) (N := some 78) (v := ?_) (a' := ?_) #[T, T, T, T, T, T, T, T, T, T, T, T, T, T, T, T, T, T, T, T, T, T, T, F, F, F] rfl rfl (any_of HT_.out (by kernel_rfl)) (fun _ _ _ h => h) (Or.inl ⟨by rfl, ?_⟩) ?_ ?_
         rotate_left
         ·
          intro w'
          go_simp
          with_reducible rfl
         rotate_left
         ·
          simp only [Act.put, q1, q2, q3, i64_w, i32_w]
          rfl
         refine pure_ (i := 23) (N := some 79) (v := ?_) (a' := ?_) #[T, T, T, T, T, T, T, T, T, T, T, T, T, T, T, T, T, T, T, T, T, T, T, T, F, F] rfl rfl (any_of HT_.out (by kernel_rfl)) (fun _ _ _ h => h) (Or.inl ⟨by rfl, ?_⟩) ?_ ?_
         rotate_left
         ·
          intro w'
          go_simp
          with_reducible rfl
         rotate_left
         ·
          simp only [Act.put, q1, q2, q3, i64_w, i32_w]
          rfl
         refine pure_ (i := 24) (N := some 80) (v := ?_) (a' := ?_) #[T, T, T, T, T, T, T, T, T, T, T, T, T, T, T, T, T, T, T, T, T, T, T, T, T, F] rfl rfl (any_of HT_.out (by kernel_rfl)) (fun _ _ _ h => h) (Or.inl ⟨by rfl, ?_⟩) ?_ ?_
         rotate_left
         ·
          intro w'
          go_simp
          with_reducible rfl
         rotate_left
         ·
          simp only [Act.put, q1, q2, q3, i64_w, i32_w]
          rfl
         refine pure_ (i := 25) (N := some 81) (v := ?_) (a' := ?_) #[T, T, T, T, T, T, T, T, T, T, T, T, T, T, T, T, T, T, T, T, T, T, T, T, T, T] rfl rfl (any_of HT_.out (by kernel_rfl)) (fun _ _ _ h => h) (Or.inl ⟨by rfl, ?_⟩) ?_ ?_
         rotate_left
         ·
          intro w'
          go_simp
          with_reducible rfl
         rotate_left
         ·
          simp only [Act.put, q1, q2, q3, i64_w, i32_w]
          rfl
         refine done_ (done_of HT_.out (by kernel_rfl)) ?_
         try go_wp2
         go_meet
         case rel => exact ⟨_, (!t353), (by first | rfl | (simp; done) | (simp [*]; done)), H', ⟨by have := HJ7.out; have := HJ69.out; first | omega | exact Nat.le_refl _⟩, ⟨by (with_reducible repeat (first | apply Kd.N_alloc | apply Kd.N_drewN | apply Kd.N_drew)); exact HO_321001.out⟩, ⟨by (with_reducible repeat (first | apply Kd.N_alloc | apply Kd.N_drewN | apply Kd.N_drew)); exact HO_322001.out⟩, ⟨by (with_reducible repeat (first | apply Kd.N_alloc | apply Kd.N_drewN | apply Kd.N_drew)); exact HO_336001.out⟩, ⟨by (with_reducible repeat (first | apply Kd.N_alloc | apply Kd.N_drewN | apply Kd.N_drew)); exact HO_342001.out⟩, ⟨by (with_reducible repeat (first | refine blk_drewN ?_ _ | refine blk_drew ?_ | refine blk_alloc ?_ _)); exact BK320.out⟩, ⟨by (with_reducible repeat (first | refine blk_drewN ?_ _ | refine blk_drew ?_ | refine blk_alloc ?_ _)); exact BK321.out⟩, ⟨by (with_reducible repeat (first | refine blk_drewN ?_ _ | refine blk_drew ?_ | refine blk_alloc ?_ _)); exact BK335.out⟩, ⟨by (with_reducible repeat (first | refine blk_drewN ?_ _ | refine blk_drew ?_ | refine blk_alloc ?_ _)); exact BK341.out⟩, ⟨pb HB⟩⟩
        ·
         rw [if_neg c87] at H
         have c87b0 : (t340 == 2) = false := beq_eq_false_iff_ne.mpr c87
         have c87b1 : (t340 != 2) = true := bne_iff_ne.mpr c87
         have H' := Aside0.mk H
         clear H
         try go_wp2
         have n0_ := am (Kd.N_drew HO_321001.out)
         have n1_ := am (Kd.N_drew HO_322001.out)
         have n2_ := am (Kd.N_drew HO_336001.out)
         have n3_ := am (Kd.N_drew HO_342001.out)
         have n4_ := am (blk_drew BK320.out)
         have n5_ := am (blk_drew BK321.out)
         have n6_ := am (blk_drew BK335.out)
         have n7_ := am (blk_drew BK341.out)
         have n8_ := am (below_drew1 HB.out)
         clear HO_321001
         clear HO_322001
         clear HO_336001
         clear HO_342001
         clear BK320
         clear BK321
         clear BK335
         clear BK341
         clear HB
         have HO_321001 := n0_
         have HO_322001 := n1_
         have HO_336001 := n2_
         have HO_342001 := n3_
         have BK320 := n4_
         have BK321 := n5_
         have BK335 := n6_
         have BK341 := n7_
         have HB := n8_
         clear n0_ n1_ n2_ n3_ n4_ n5_ n6_ n7_ n8_
         refine start_ (n := 26) (S := fun w' => True) (ds := []) #[F, F, F, F, F, F, F, F, F, F, F, F, F, F, F, F, F, F, F, F, F, F, F, F, F, F] (by kernel_rfl) rfl rfl trivial (fun hHeld => ?_); refine with_tabW downpourlaw03_MatrixTurns.tab7 downpourlaw03_MatrixTurns.bits7 (fun HT_ HW_ => ?_)
         generalize wc.drew = w91 at HO_321001 HO_322001 HO_336001 HO_342001 BK320 BK321 BK335 BK341 HB hHeld ⊢
         refine pure_ (i := 0) (N := some 56) (v := ?_) (a' := ?_) #[T, F, F, F, F, F, F, F, F, F, F, F, F, F, F, F, F, F, F, F, F, F, F, F, F, F] rfl rfl (any_of HT_.out (by kernel_rfl)) (fun _ _ _ h => h) (Or.inl ⟨by rfl, ?_⟩) ?_ ?_
         rotate_left
         ·
          intro w'
          go_simp
          with_reducible rfl
         rotate_left
         ·
          simp only [Act.put, q1, q2, q3, i64_w, i32_w]
          rfl
         refine pure_ (i := 1) (N := some 57) (v := ?_) (a' := ?_) #[T, T, F, F, F, F, F, F, F, F, F, F, F, F, F, F, F, F, F, F, F, F, F, F, F, F] rfl rfl (any_of HT_.out (by kernel_rfl)) (fun _ _ _ h => h) (Or.inl ⟨by rfl, ?_⟩) ?_ ?_
         rotate_left
         ·
          intro w'
          go_simp
          with_reducible rfl
         rotate_left
         ·
          simp only [Act.put, q1, q2, q3, i64_w, i32_w]
          rfl
         refine pure_ (i := 2) (N := some 58) (v := undef) (a' := ?_) #[T, T, T, F, F, F, F, F, F, F, F, F, F, F, F, F, F, F, F, F, F, F, F, F, F, F] rfl rfl (any_of HT_.out (by kernel_rfl)) (fun _ _ _ h => h) (Or.inr ⟨by rfl, rfl⟩) ?_ ?_
         rotate_left
         ·
          simp only [Act.put, q1, q2, q3, i64_w, i32_w]
          rfl
         refine pure_ (i := 3) (N := some 59) (v := undef) (a' := ?_) #[T, T, T, T, F, F, F, F, F, F, F, F, F, F, F, F, F, F, F, F, F, F, F, F, F, F] rfl rfl (any_of HT_.out (by kernel_rfl)) (fun _ _ _ h => h) (Or.inr ⟨by rfl, rfl⟩) ?_ ?_
         rotate_left
         ·
          simp only [Act.put, q1, q2, q3, i64_w, i32_w]
          rfl
         refine pure_ (i := 4) (N := some 60) (v := undef) (a' := ?_) #[T, T, T, T, T, F, F, F, F, F, F, F, F, F, F, F, F, F, F, F, F, F, F, F, F, F] rfl rfl (any_of HT_.out (by kernel_rfl)) (fun _ _ _ h => h) (Or.inr ⟨by rfl, rfl⟩) ?_ ?_
         rotate_left
         ·
          simp only [Act.put, q1, q2, q3, i64_w, i32_w]
          rfl
         refine pure_ (i := 5) (N := some 61) (v := undef) (a' := ?_) #[T, T, T, T, T, T, F, F, F, F, F, F, F, F, F, F, F, F, F, F, F, F, F, F, F, F] rfl rfl (any_of HT_.out (by kernel_rfl)) (fun _ _ _ h => h) (Or.inr ⟨by rfl, rfl⟩) ?_ ?_
         rotate_left
         ·
          simp only [Act.put, q1, q2, q3, i64_w, i32_w]
          rfl
         refine pure_ (i := 6) (N := some 62) (v := undef) (a' := ?_) #[T, T, T, T, T, T, T, F, F, F, F, F, F, F, F, F, F, F, F, F, F, F, F, F, F, F] rfl rfl (any_of HT_.out (by kernel_rfl)) (fun _ _ _ h => h) (Or.inr ⟨by rfl, rfl⟩) ?_ ?_
         rotate_left
         ·
          simp only [Act.put, q1, q2, q3, i64_w, i32_w]
          rfl
         refine pure_ (i := 7) (N := some 63) (v := undef) (a' := ?_) #[T, T, T, T, T, T, T, T, F, F, F, F, F, F, F, F, F, F, F, F, F, F, F, F, F, F] rfl rfl (any_of HT_.out (by kernel_rfl)) (fun _ _ _ h => h) (Or.inr ⟨by rfl, rfl⟩) ?_ ?_
         rotate_left
         ·
          simp only [Act.put, q1, q2, q3, i64_w, i32_w]
          rfl
         refine pure_ (i := 8) (N := some 64) (v := undef) (a' := ?_) #[T, T, T, T, T, T, T, T, T, F, F, F, F, F, F, F, F, F, F, F, F, F, F, F, F, F] rfl rfl (any_of HT_.out (by kernel_rfl)) (fun _ _ _ h => h) (Or.inr ⟨by rfl, rfl⟩) ?_ ?_
         rotate_left
         ·
          simp only [Act.put, q1, q2, q3, i64_w, i32_w]
          rfl
         refine pure_ (i := 9) (N := some 65) (v := undef) (a' := ?_) #[T, T, T, T, T, T, T, T, T, T, F, F, F, F, F, F, F, F, F, F, F, F, F, F, F, F] rfl rfl (any_of HT_.out (by kernel_rfl)) (fun _ _ _ h => h) (Or.inr ⟨by rfl, rfl⟩) ?_ ?_
         rotate_left
         ·
          simp only [Act.put, q1, q2, q3, i64_w, i32_w]
          rfl
         refine pure_ (i := 10) (N := some 66) (v := undef) (a' := ?_) #[T, T, T, T, T, T, T, T, T, T, T, F, F, F, F, F, F, F, F, F, F, F, F, F, F, F] rfl rfl (any_of HT_.out (by kernel_rfl)) (fun _ _ _ h => h) (Or.inr ⟨by rfl, rfl⟩) ?_ ?_
         rotate_left
         ·
          simp only [Act.put, q1, q2, q3, i64_w, i32_w]
          rfl
         refine pure_ (i := 11) (N := some 67) (v := ?_) (a' := ?_) #[T, T, T, T, T, T, T, T, T, T, T, T, F, F, F, F, F, F, F, F, F, F, F, F, F, F] rfl rfl (any_of HT_.out (by kernel_rfl)) (fun _ _ _ h => h) (Or.inl ⟨by rfl, ?_⟩) ?_ ?_
         rotate_left
         ·
          intro w'
          go_simp
          with_reducible rfl
         rotate_left
         ·
          simp only [Act.put, q1, q2, q3, i64_w, i32_w]
          rfl
         refine pure_ (i := 12) (N := some 68) (v := ?_) (a' := ?_) #[T, T, T, T, T, T, T, T, T, T, T, T, T, F, F, F, F, F, F, F, F, F, F, F, F, F] rfl rfl (any_of HT_.out (by kernel_rfl)) (fun _ _ _ h => h) (Or.inl ⟨by rfl, ?_⟩) ?_ ?_
         rotate_left
         ·
          intro w'
          go_simp
          with_reducible rfl
         rotate_left
         ·
          simp only [Act.put, q1, q2, q3, i64_w, i32_w]
          rfl
         refine pure_ (i := 13) (N := some 69) (v := ?_) (a' := ?_) #[T, T, T, T, T, T, T, T, T, T, T, T, T, T, F, F, F, F, F, F, F, F, F, F, F, F] rfl rfl (any_of HT_.out (by kernel_rfl)) (fun _ _ _ h => h) (Or.inl ⟨by rfl, ?_⟩) ?_ ?_
         rotate_left
         ·
          intro w'
          go_simp
          with_reducible rfl
         rotate_left
         ·
          simp only [Act.put, q1, q2, q3, i64_w, i32_w]
          rfl
         refine pure_ (i := 14) (N := some 70) (v := ?_) (a' := ?_) #[T, T, T, T, T, T, T, T, T, T, T, T, T, T, T, F, F, F, F, F, F, F, F, F, F, F] rfl rfl (any_of HT_.out (by kernel_rfl)) (fun _ _ _ h => h) (Or.inl ⟨by rfl, ?_⟩) ?_ ?_
         rotate_left
         ·
          intro w'
          go_simp
          with_reducible rfl
         rotate_left
         ·
          simp only [Act.put, q1, q2, q3, i64_w, i32_w]
          rfl
         refine pure_ (i := 15) (N := some 71) (v := ?_) (a' := ?_) #[T, T, T, T, T, T, T, T, T, T, T, T, T, T, T, T, F, F, F, F, F, F, F, F, F, F] rfl rfl (any_of HT_.out (by kernel_rfl)) (fun _ _ _ h => h) (Or.inl ⟨by rfl, ?_⟩) ?_ ?_
         rotate_left
         ·
          intro w'
          go_simp
          with_reducible rfl
         rotate_left
         ·
          simp only [Act.put, q1, q2, q3, i64_w, i32_w]
          rfl
         refine pure_ (i := 16) (N := some 72) (v := ?_) (a' := ?_) #[T, T, T, T, T, T, T, T, T, T, T, T, T, T, T, T, T, F, F, F, F, F, F, F, F, F] rfl rfl (any_of HT_.out (by kernel_rfl)) (fun _ _ _ h => h) (Or.inl ⟨by rfl, ?_⟩) ?_ ?_
         rotate_left
         ·
          intro w'
          go_simp
          with_reducible rfl
         rotate_left
         ·
          simp only [Act.put, q1, q2, q3, i64_w, i32_w]
          rfl
         refine pure_ (i := 17) (N := some 73) (v := ?_) (a' := ?_) #[T, T, T, T, T, T, T, T, T, T, T, T, T, T, T, T, T, T, F, F, F, F, F, F, F, F] rfl rfl (any_of HT_.out (by kernel_rfl)) (fun _ _ _ h => h) (Or.inl ⟨by rfl, ?_⟩) ?_ ?_
         rotate_left
         ·
          intro w'
          go_simp
          with_reducible rfl
         rotate_left
         ·
          simp only [Act.put, q1, q2, q3, i64_w, i32_w]
          rfl
         refine pure_ (i := 18) (N := some 74) (v := ?_) (a' := ?_) #[T, T, T, T, T, T, T, T, T, T, T, T, T, T, T, T, T, T, T, F, F, F, F, F, F, F] rfl rfl (any_of HT_.out (by kernel_rfl)) (fun _ _ _ h => h) (Or.inl ⟨by rfl, ?_⟩) ?_ ?_
         rotate_left
         ·
          intro w'
          go_simp
          with_reducible rfl
         rotate_left
         ·
          simp only [Act.put, q1, q2, q3, i64_w, i32_w]
          rfl
         refine pure_ (i := 19) (N := some 75) (v := undef) (a' := ?_) #[T, T, T, T, T, T, T, T, T, T, T, T, T, T, T, T, T, T, T, T, F, F, F, F, F, F] rfl rfl (any_of HT_.out (by kernel_rfl)) (fun _ _ _ h => h) (Or.inr ⟨by rfl, rfl⟩) ?_ ?_
         rotate_left
         ·
          simp only [Act.put, q1, q2, q3, i64_w, i32_w]
          rfl
         refine pure_ (i := 20) (N := some 76) (v := undef) (a' := ?_) #[T, T, T, T, T, T, T, T, T, T, T, T, T, T, T, T, T, T, T, T, T, F, F, F, F, F] rfl rfl (any_of HT_.out (by kernel_rfl)) (fun _ _ _ h => h) (Or.inr ⟨by rfl, rfl⟩) ?_ ?_
         rotate_left
         ·
          simp only [Act.put, q1, q2, q3, i64_w, i32_w]
          rfl
         refine pure_ (i := 21) (N := some 77) (v := undef) (a' := ?_) #[T, T, T, T, T, T, T, T, T, T, T, T, T, T, T, T, T, T, T, T, T, T, F, F, F, F] rfl rfl (any_of HT_.out (by kernel_rfl)) (fun _ _ _ h => h) (Or.inr ⟨by rfl, rfl⟩) ?_ ?_
         rotate_left
         ·
          simp only [Act.put, q1, q2, q3, i64_w, i32_w]
          rfl
         refine pure_ (i := 22) (N := some 78) (v := undef) (a' := ?_) #[T, T, T, T, T, T, T, T, T, T, T, T, T, T, T, T, T, T, T, T, T, T, T, F, F, F] rfl rfl (any_of HT_.out (by kernel_rfl)) (fun _ _ _ h => h) (Or.inr ⟨by rfl, rfl⟩) ?_ ?_
         rotate_left
         ·
          simp only [Act.put, q1, q2, q3, i64_w, i32_w]
          rfl
         refine pure_ (i := 23) (N := some 79) (v := ?_) (a' := ?_) #[T, T, T, T, T, T, T, T, T, T, T, T, T, T, T, T, T, T, T, T, T, T, T, T, F, F] rfl rfl (any_of HT_.out (by kernel_rfl)) (fun _ _ _ h => h) (Or.inl ⟨by rfl, ?_⟩) ?_ ?_
         rotate_left
         ·
          intro w'
          go_simp
          with_reducible rfl
         rotate_left
         ·
          simp only [Act.put, q1, q2, q3, i64_w, i32_w]
          rfl
         refine pure_ (i := 24) (N := some 80) (v := ?_) (a' := ?_) #[T, T, T, T, T, T, T, T, T, T, T, T, T, T, T, T, T, T, T, T, T, T, T, T, T, F] rfl rfl (any_of HT_.out (by kernel_rfl)) (fun _ _ _ h => h) (Or.inl ⟨by rfl, ?_⟩) ?_ ?_
         rotate_left
         ·
          intro w'
          go_simp
          with_reducible rfl
         rotate_left
         ·
          simp only [Act.put, q1, q2, q3, i64_w, i32_w]
          rfl
         refine pure_ (i := 25) (N := some 81) (v := ?_) (a' := ?_) #[T, T, T, T, T, T, T, T, T, T, T, T, T, T, T, T, T, T, T, T, T, T, T, T, T, T] rfl rfl (any_of HT_.out (by kernel_rfl)) (fun _ _ _ h => h) (Or.inl ⟨by rfl, ?_⟩) ?_ ?_
         rotate_left
         ·
          intro w'
          go_simp
          with_reducible rfl
         rotate_left
         ·
          simp only [Act.put, q1, q2, q3, i64_w, i32_w]
          rfl
         refine done_ (done_of HT_.out (by kernel_rfl)) ?_
         try go_wp2
         go_meet
         case rel => exact ⟨_, (true), (by first | rfl | (simp; done) | (simp [*]; done)), H', ⟨by have := HJ7.out; have := HJ69.out; first | omega | exact Nat.le_refl _⟩, ⟨by (with_reducible repeat (first | apply Kd.N_alloc | apply Kd.N_drewN | apply Kd.N_drew)); exact HO_321001.out⟩, ⟨by (with_reducible repeat (first | apply Kd.N_alloc | apply Kd.N_drewN | apply Kd.N_drew)); exact HO_322001.out⟩, ⟨by (with_reducible repeat (first | apply Kd.N_alloc | apply Kd.N_drewN | apply Kd.N_drew)); exact HO_336001.out⟩, ⟨by (with_reducible repeat (first | apply Kd.N_alloc | apply Kd.N_drewN | apply Kd.N_drew)); exact HO_342001.out⟩, ⟨by (with_reducible repeat (first | refine blk_drewN ?_ _ | refine blk_drew ?_ | refine blk_alloc ?_ _)); exact BK320.out⟩, ⟨by (with_reducible repeat (first | refine blk_drewN ?_ _ | refine blk_drew ?_ | refine blk_alloc ?_ _)); exact BK321.out⟩, ⟨by (with_reducible repeat (first | refine blk_drewN ?_ _ | refine blk_drew ?_ | refine blk_alloc ?_ _)); exact BK335.out⟩, ⟨by (with_reducible repeat (first | refine blk_drewN ?_ _ | refine blk_drew ?_ | refine blk_alloc ?_ _)); exact BK341.out⟩, ⟨pb HB⟩⟩
      case rest =>
       clear HC72
       try clear p2
       try clear c3
       try clear c7
       try clear c8
       try clear c38
       try clear c73
       try clear c87
       try clear c87b0
       try clear c87b1
       obtain ⟨kq, x81_71, rfl, HA, HJ71, HO_321001, HO_322001, HO_336001, HO_342001, BK320, BK321, BK335, BK341, HB⟩ := hcut
       cases kq with
       | zero => exact absurd HA.out (by simp [downpourlaw03_MatrixTurns.j2])
       | succ kj71 =>
        have H := HA.out
        clear HA
        simp only [downpourlaw03_MatrixTurns.j2] at H
        by_cases c92 : x81_71 = true
        ·
         subst c92
         have H1 : (none) = some r := by rw [if_pos rfl] at H; exact H
         clear H
         have H := H1
         clear H1
         exact absurd H (by simp)
        ·
         replace c92 := Bool.eq_false_iff.mpr c92
         subst c92
         have H1 : ((downpourref03_Right.f kj71 t322 t323).bind fun t354 => (if t354 = true then (if t334 = 0 then ((downpourref03_Turn.f kj71 t322 t323).bind fun bt355 => ((downpourref03_Same.f kj71 t330 t331 bt355.1 bt355.2).bind fun t359 => (some t359))) else (none)) else (if t334 = 1 then ((downpourref03_Same.f kj71 t330 t331 0 ([] : List (S25))).bind fun t360 => (some t360)) else (none)))) = some r := by rw [if_neg (show ¬ (false = true) by decide)] at H; exact H
         clear H
         have H := H1
         clear H1
         replace H := Option.bind_eq_some_iff.mp H
         obtain ⟨t354, A930, H⟩ := H
         replace H : (if t354 = true then (if t334 = 0 then ((downpourref03_Turn.f kj71 t322 t323).bind fun bt355 => ((downpourref03_Same.f kj71 t330 t331 bt355.1 bt355.2).bind fun t359 => (some t359))) else (none)) else (if t334 = 1 then ((downpourref03_Same.f kj71 t330 t331 0 ([] : List (S25))).bind fun t360 => (some t360)) else (none))) = some r := H
         have A93 := Aside0.mk A930
         clear A930
         by_cases c94 : t354 = true
         ·
          subst c94
          have H1 : (if t334 = 0 then ((downpourref03_Turn.f kj71 t322 t323).bind fun bt355 => ((downpourref03_Same.f kj71 t330 t331 bt355.1 bt355.2).bind fun t359 => (some t359))) else (none)) = some r := by rw [if_pos rfl] at H; exact H
          clear H
          have H := H1
          clear H1
          by_cases c95 : t334 = 0
          ·
           rw [if_pos c95] at H
           have c95b0 : (t334 == 0) = true := beq_iff_eq.mpr c95
           have c95b1 : (t334 != 0) = false := bne_eq_false_iff_eq.mpr c95
           clear c95
           replace H := Option.bind_eq_some_iff.mp H
           obtain ⟨⟨t355, t356⟩, A960, H⟩ := H
           replace H : ((downpourref03_Same.f kj71 t330 t331 t355 t356).bind fun t359 => (some t359)) = some r := H
           have A96 := Aside0.mk A960
           clear A960
           replace H := Option.bind_eq_some_iff.mp H
           obtain ⟨t359, A970, H⟩ := H
           replace H : (some t359) = some r := H
           have A97 := Aside0.mk A970
           clear A970
           obtain rfl := Option.some.inj H
           have hnb98 := NB320_321.out
           have hnc98 := NB321_320.out
           have hnb99 := NB320_335.out
           have hnc99 := NB335_320.out
           have hnb100 := NB320_341.out
           have hnc100 := NB341_320.out
           have hcz101_0 : wc.cell? ⟨gb320, 0, none⟩ = some (.int .i64 t322) := (blk_cell BK320.out 0).trans rfl
           have hcz101_1 : wc.cell? ⟨gb320, 1, none⟩ = some (.slice Ao15 t323.length co15) := (blk_cell BK320.out 1).trans rfl
           have hfz101_0 := blk_frozen BK320.out 0
           have hfz101_1 := blk_frozen BK320.out 1
           try go_wp2_with (first | ((with_reducible refine gate_callee (f := 36) rfl ?_); refine goesL_ (some 83) rfl rfl Try.func36 (by kernel_rfl) rfl #[.agg #[.int .i64 t322, .slice Ao15 t323.length co15]] rfl (by (try simp only [List.map_toArray, List.map_cons, List.map_nil]); first | done | rfl | (simp only [List.length_drop, List.length_take]; rfl)) ?_; (with_reducible refine (downpourref03_Right.calls kj71 t322 _ _ t323 true _ ?side1 ?side2 A93.out).mono ?_); (case side1 => repeat (first | exact (Kd.N_reads' HO_321001.out).2.2 | (with_reducible refine Kd.C_alloc ?_ _) | (with_reducible refine Kd.C_drewN ?_ _) | (with_reducible refine Kd.C_drew ?_))); (case side2 => exact (Kd.N_reads' HO_321001.out).2.1); rintro e w102 ⟨rfl, hb⟩; refine ⟨_, rfl, ?_⟩; have n0_ := am (Kd.N_below (pn HO_321001) hb); have n1_ := am (Kd.N_below (pn HO_322001) hb); have n2_ := am (Kd.N_below (pn HO_336001) hb); have n3_ := am (Kd.N_below (pn HO_342001) hb); have n4_ := bb BK320 hb; have n5_ := bb BK321 hb; have n6_ := bb BK335 hb; have n7_ := bb BK341 hb; have n8_ := am (below_step (pb HB) hb); clear HO_321001 HO_322001 HO_336001 HO_342001 BK320 BK321 BK335 BK341 HB; have HO_321001 := n0_; have HO_322001 := n1_; have HO_336001 := n2_; have HO_342001 := n3_; have BK320 := n4_; have BK321 := n5_; have BK335 := n6_; have BK341 := n7_; have HB := n8_; clear n0_ n1_ n2_ n3_ n4_ n5_ n6_ n7_ n8_; (try clear hb); (try clear hb2); (try clear hk); (try clear hi)))
           have n0_ := am (Kd.N_drew HO_321001.out)
           have n1_ := am (Kd.N_drew HO_322001.out)
           have n2_ := am (Kd.N_drew HO_336001.out)
           have n3_ := am (Kd.N_drew HO_342001.out)
           have n4_ := am (blk_drew BK320.out)
           have n5_ := am (blk_drew BK321.out)
           have n6_ := am (blk_drew BK335.out)
           have n7_ := am (blk_drew BK341.out)
           have n8_ := am (below_drew1 HB.out)
           clear HO_321001
           clear HO_322001
           clear HO_336001
           clear HO_342001
           clear BK320
           clear BK321
           clear BK335
           clear BK341
           clear HB
           have HO_321001 := n0_
           have HO_322001 := n1_
           have HO_336001 := n2_
           have HO_342001 := n3_
           have BK320 := n4_
           have BK321 := n5_
           have BK335 := n6_
           have BK341 := n7_
           have HB := n8_
           clear n0_ n1_ n2_ n3_ n4_ n5_ n6_ n7_ n8_
           refine start_ (n := 9) (S := fun w' => w'.cell? ⟨gb335, 0, none⟩ = some (.int .i64 t330) ∧ w'.cell? ⟨gb335, 1, none⟩ = some (.slice Ao27 t331.length co27) ∧ w'.cell? ⟨gb320, 0, none⟩ = some (.int .i64 t322) ∧ w'.cell? ⟨gb320, 1, none⟩ = some (.slice Ao15 t323.length co15)) (ds := []) #[F, F, F, F, F, F, F, F, F] (by kernel_rfl) rfl rfl ⟨(blk_cell BK335.out 0).trans rfl, (blk_cell BK335.out 1).trans rfl, (blk_cell BK320.out 0).trans rfl, (blk_cell BK320.out 1).trans rfl⟩ (fun hHeld => ?_); refine with_tabW downpourlaw03_MatrixTurns.tab11 downpourlaw03_MatrixTurns.bits11 (fun HT_ HW_ => ?_)
           generalize w102.drew = w103 at HO_321001 HO_322001 HO_336001 HO_342001 BK320 BK321 BK335 BK341 HB hHeld ⊢
           refine pure_ (i := 0) (N := some 92) (v := ?_) (a' := ?_) #[T, F, F, F, F, F, F, F, F] rfl rfl (any_of HT_.out (by kernel_rfl)) (fun _ _ _ h => h) (Or.inl ⟨by rfl, ?_⟩) ?_ ?_
           rotate_left
           ·
            intro w'
            go_simp
            with_reducible rfl
           rotate_left
           ·
            simp only [Act.put, q1, q2, q3, i64_w, i32_w]
            rfl
           refine pure_ (i := 1) (N := some 93) (v := ?_) (a' := ?_) #[T, T, F, F, F, F, F, F, F] rfl rfl (any_of HT_.out (by kernel_rfl)) (fun _ _ _ h => h) (Or.inl ⟨by rfl, ?_⟩) ?_ ?_
           rotate_left
           ·
            intro w'
            go_simp
            with_reducible rfl
           rotate_left
           ·
            simp only [Act.put, q1, q2, q3, i64_w, i32_w]
            rfl
           refine pure_ (i := 2) (N := some 94) (v := ?_) (a' := ?_) #[T, T, T, F, F, F, F, F, F] rfl rfl (any_of HT_.out (by kernel_rfl)) (fun _ _ _ h => h) (Or.inl ⟨by rfl, ?_⟩) ?_ ?_
           rotate_left
           ·
            intro w'
            go_simp
            with_reducible rfl
           rotate_left
           ·
            simp only [Act.put, q1, q2, q3, i64_w, i32_w]
            rfl
           refine take_ (i := 3) (N := some 95) (v := ?_) (a' := ?_) #[T, T, T, T, F, F, F, F, F] rfl rfl (take_ofW HT_.out HW_.out (by kernel_rfl)) (fun _ _ _ h => h) (Or.inl ⟨by rfl, ?_⟩) hHeld ?_ ?_
           rotate_left
           ·
            rintro w' ⟨s0, s1, s2, s3⟩
            go_simp
            with_reducible rfl
           rotate_left
           ·
            simp only [Act.put, q1, q2, q3, i64_w, i32_w]
            rfl
           refine take_ (i := 4) (N := some 96) (v := ?_) (a' := ?_) #[T, T, T, T, T, F, F, F, F] rfl rfl (take_ofW HT_.out HW_.out (by kernel_rfl)) (fun _ _ _ h => h) (Or.inl ⟨by rfl, ?_⟩) hHeld ?_ ?_
           rotate_left
           ·
            rintro w' ⟨s0, s1, s2, s3⟩
            go_simp
            with_reducible rfl
           rotate_left
           ·
            simp only [Act.put, q1, q2, q3, i64_w, i32_w]
            rfl
           refine one_ (i := 5) (N := some 97) #[T, T, T, T, T, T, F, F, F] rfl rfl (one_of HT_.out (by kernel_rfl)) (by decide) (fun K hK => ?_)
           refine goes_ Try.func49 (by kernel_rfl) rfl #[.agg #[.int .i64 t322, .slice Ao15 t323.length co15]] (by rfl) rfl rfl (by (try simp only [List.map_toArray, List.map_cons, List.map_nil]); first | done | rfl | (simp only [List.length_drop, List.length_take]; rfl)) ?_
           with_reducible refine (downpourref03_Turn.calls kj71 t322 _ _ t323 t355 t356 _ ?side1 ?side2 A96.out).mono ?_
           (case side1 => repeat (first | exact (Kd.N_reads' HO_321001.out).2.2 | (with_reducible refine Kd.C_alloc ?_ _) | (with_reducible refine Kd.C_drewN ?_ _) | (with_reducible refine Kd.C_drew ?_)))
           (case side2 => exact (Kd.N_reads' HO_321001.out).2.1)
           rintro e w104 ⟨v357, rfl, ho0, hb⟩
           refine ⟨_, rfl, ?_⟩
           have n0_ := am (Kd.N_elder' (pn HO_321001) (by first | exact Kd.N_base ho0 | exact Kd.S_base ho0 | exact Kd.R_base ho0) hb)
           have n1_ := am (Kd.N_elder' (pn HO_322001) (by first | exact Kd.N_base ho0 | exact Kd.S_base ho0 | exact Kd.R_base ho0) hb)
           have n2_ := am (Kd.N_elder' (pn HO_336001) (by first | exact Kd.N_base ho0 | exact Kd.S_base ho0 | exact Kd.R_base ho0) hb)
           have n3_ := am (Kd.N_elder' (pn HO_342001) (by first | exact Kd.N_base ho0 | exact Kd.S_base ho0 | exact Kd.R_base ho0) hb)
           have n4_ := am (Kd.N_lower (Kd.N_mono (ok' := fun k_ => some k_ ≠ (.slice Ao15 t323.length co15 : Value).ownBlock ∧ some k_ ≠ (.slice Ao18 t327.length co18 : Value).ownBlock ∧ some k_ ≠ (.slice Ao27 t331.length co27 : Value).ownBlock ∧ some k_ ≠ (.slice Ao34 t337.length co34 : Value).ownBlock ∧ k_ ≠ gb320 ∧ k_ ≠ gb321 ∧ k_ ≠ gb335 ∧ k_ ≠ gb341) (Kd.S_N (Kd.S_bound ho0)) (fun k_ hk_ => ⟨(Kd.fresh' (Kd.N_lt (pn HO_321001)) k_ hk_.2.1), (Kd.fresh' (Kd.N_lt (pn HO_322001)) k_ hk_.2.1), (Kd.fresh' (Kd.N_lt (pn HO_336001)) k_ hk_.2.1), (Kd.fresh' (Kd.N_lt (pn HO_342001)) k_ hk_.2.1), (Kd.freshB (g := gb320) (o := .cells #[.int .i64 t322, .slice Ao15 t323.length co15] 42 (0, 0)) (pk BK320) k_ hk_.2.1), (Kd.freshB (g := gb321) (o := .cells #[.int .i64 t326, .slice Ao18 t327.length co18] 42 (0, 0)) (pk BK321) k_ hk_.2.1), (Kd.freshB (g := gb335) (o := .cells #[.int .i64 t330, .slice Ao27 t331.length co27] 42 (0, 0)) (pk BK335) k_ hk_.2.1), (Kd.freshB (g := gb341) (o := .cells #[.int .i64 t336, .slice Ao34 t337.length co34] 42 (0, 0)) (pk BK341) k_ hk_.2.1)⟩)) (below_size (pb HB)))
           have n5_ := bb BK320 hb
           have n6_ := bb BK321 hb
           have n7_ := bb BK335 hb
           have n8_ := bb BK341 hb
           have n9_ := am (below_step (pb HB) hb)
           clear HO_321001
           clear HO_322001
           clear HO_336001
           clear HO_342001
           clear BK320
           clear BK321
           clear BK335
           clear BK341
           clear HB
           have HO_321001 := n0_
           have HO_322001 := n1_
           have HO_336001 := n2_
           have HO_342001 := n3_
           have HO358 := n4_
           have BK320 := n5_
           have BK321 := n6_
           have BK335 := n7_
           have BK341 := n8_
           have HB := n9_
           clear n0_ n1_ n2_ n3_ n4_ n5_ n6_ n7_ n8_ n9_
           (try clear hb)
           (try clear hb2)
           (try clear hk)
           (try clear hi)
           (try clear ho0)
           obtain ⟨Ao105, co105, eo105⟩ := Kd.N_slice HO358.out
           (first | subst eo105 | (injection eo105 with f1_ f2_ f3_; have f4_ := f1_.symm; have f5_ := f3_.symm; clear f1_ f2_ f3_; subst f4_; subst f5_))
           refine hK.out _ _ ⟨(blk_cell BK335.out 0).trans rfl, (blk_cell BK335.out 1).trans rfl, (blk_cell BK320.out 0).trans rfl, (blk_cell BK320.out 1).trans rfl⟩ (fun hHeld => ?_)
           clear hK K
           refine norm_ (a' := ?_) ?_ ?_
           rotate_left
           ·
            show Act.put _ (some 97) _ = _
            simp only [Act.put, q1, q2, q3, i64_w, i32_w]
            rfl
           refine one_ (i := 6) (N := some 98) #[T, T, T, T, T, T, T, F, F] rfl rfl (one_of HT_.out (by kernel_rfl)) (by decide) (fun K hK => ?_)
           refine goes_ Try.func38 (by kernel_rfl) rfl #[.agg #[.int .i64 t330, .slice Ao27 t331.length co27], .agg #[.int .i64 t355, .slice Ao105 t356.length co105]] (by rfl) rfl rfl (by (try simp only [List.map_toArray, List.map_cons, List.map_nil]); first | done | rfl | (simp only [List.length_drop, List.length_take]; rfl)) ?_
           with_reducible refine (downpourref03_Same.calls kj71 t330 _ _ t331 t355 _ _ t356 t359 _ ?side1 ?side2 ?side3 ?side4 A97.out).mono ?_
           (case side1 => repeat (first | exact (Kd.N_reads' HO_336001.out).2.2 | (with_reducible refine Kd.C_alloc ?_ _) | (with_reducible refine Kd.C_drewN ?_ _) | (with_reducible refine Kd.C_drew ?_)))
           (case side2 => exact (Kd.N_reads' HO_336001.out).2.1)
           (case side3 => repeat (first | exact (Kd.N_reads' HO358.out).2.2 | (with_reducible refine Kd.C_alloc ?_ _) | (with_reducible refine Kd.C_drewN ?_ _) | (with_reducible refine Kd.C_drew ?_)))
           (case side4 => exact (Kd.N_reads' HO358.out).2.1)
           rintro e w106 ⟨rfl, hb⟩
           refine ⟨_, rfl, ?_⟩
           have n0_ := am (Kd.N_below (pn HO_321001) hb)
           have n1_ := am (Kd.N_below (pn HO_322001) hb)
           have n2_ := am (Kd.N_below (pn HO_336001) hb)
           have n3_ := am (Kd.N_below (pn HO_342001) hb)
           have n4_ := am (Kd.N_below (pn HO358) hb)
           have n5_ := bb BK320 hb
           have n6_ := bb BK321 hb
           have n7_ := bb BK335 hb
           have n8_ := bb BK341 hb
           have n9_ := am (below_step (pb HB) hb)
           clear HO_321001
           clear HO_322001
           clear HO_336001
           clear HO_342001
           clear HO358
           clear BK320
           clear BK321
           clear BK335
           clear BK341
           clear HB
           have HO_321001 := n0_
           have HO_322001 := n1_
           have HO_336001 := n2_
           have HO_342001 := n3_
           have HO358 := n4_
           have BK320 := n5_
           have BK321 := n6_
           have BK335 := n7_
           have BK341 := n8_
           have HB := n9_
           clear n0_ n1_ n2_ n3_ n4_ n5_ n6_ n7_ n8_ n9_
           (try clear hb)
           (try clear hb2)
           (try clear hk)
           (try clear hi)
           refine hK.out _ _ ⟨(blk_cell BK335.out 0).trans rfl, (blk_cell BK335.out 1).trans rfl, (blk_cell BK320.out 0).trans rfl, (blk_cell BK320.out 1).trans rfl⟩ (fun hHeld => ?_)
           clear hK K
           refine norm_ (a' := ?_) ?_ ?_
           rotate_left
           ·
            show Act.put _ (some 98) _ = _
            simp only [Act.put, q1, q2, q3, i64_w, i32_w]
            rfl
           refine pure_ (i := 7) (N := some 99) (v := ?_) (a' := ?_) #[T, T, T, T, T, T, T, T, F] rfl rfl (any_of HT_.out (by kernel_rfl)) (fun _ _ _ h => h) (Or.inl ⟨by rfl, ?_⟩) ?_ ?_
           rotate_left
           ·
            intro w'
            go_simp
            with_reducible rfl
           rotate_left
           ·
            simp only [Act.put, q1, q2, q3, i64_w, i32_w]
            rfl
           refine pure_ (i := 8) (N := some 6) (v := ?_) (a' := ?_) #[T, T, T, T, T, T, T, T, T] rfl rfl (any_of HT_.out (by kernel_rfl)) (fun _ _ _ h => h) (Or.inl ⟨by rfl, ?_⟩) ?_ ?_
           rotate_left
           ·
            intro w'
            go_simp
            with_reducible rfl
           rotate_left
           ·
            simp only [Act.put, q1, q2, q3, i64_w, i32_w]
            rfl
           refine done_ (done_of HT_.out (by kernel_rfl)) ?_
           try go_wp2
           go_ret
           exact ⟨by first | rfl | (simp [errW_none, errW_some] <;> rfl) | (simp [*, errW_none, errW_some] <;> rfl), pb HB⟩
          ·
           rw [if_neg c95] at H
           exact absurd H (by simp)
         ·
          replace c94 := Bool.eq_false_iff.mpr c94
          subst c94
          have H1 : (if t334 = 1 then ((downpourref03_Same.f kj71 t330 t331 0 ([] : List (S25))).bind fun t360 => (some t360)) else (none)) = some r := by rw [if_neg (show ¬ (false = true) by decide)] at H; exact H
          clear H
          have H := H1
          clear H1
          by_cases c107 : t334 = 1
          ·
           rw [if_pos c107] at H
           have c107b0 : (t334 == 1) = true := beq_iff_eq.mpr c107
           have c107b1 : (t334 != 1) = false := bne_eq_false_iff_eq.mpr c107
           clear c107
           replace H := Option.bind_eq_some_iff.mp H
           obtain ⟨t360, A1080, H⟩ := H
           replace H : (some t360) = some r := H
           have A108 := Aside0.mk A1080
           clear A1080
           obtain rfl := Option.some.inj H
           have hnb109 := NB320_321.out
           have hnc109 := NB321_320.out
           have hnb110 := NB320_335.out
           have hnc110 := NB335_320.out
           have hnb111 := NB320_341.out
           have hnc111 := NB341_320.out
           have hcz112_0 : wc.cell? ⟨gb320, 0, none⟩ = some (.int .i64 t322) := (blk_cell BK320.out 0).trans rfl
           have hcz112_1 : wc.cell? ⟨gb320, 1, none⟩ = some (.slice Ao15 t323.length co15) := (blk_cell BK320.out 1).trans rfl
           have hfz112_0 := blk_frozen BK320.out 0
           have hfz112_1 := blk_frozen BK320.out 1
           go_wp2_with (first | ((with_reducible refine gate_callee (f := 36) rfl ?_); refine goesL_ (some 83) rfl rfl Try.func36 (by kernel_rfl) rfl #[.agg #[.int .i64 t322, .slice Ao15 t323.length co15]] rfl (by (try simp only [List.map_toArray, List.map_cons, List.map_nil]); first | done | rfl | (simp only [List.length_drop, List.length_take]; rfl)) ?_; (with_reducible refine (downpourref03_Right.calls kj71 t322 _ _ t323 false _ ?side1 ?side2 A93.out).mono ?_); (case side1 => repeat (first | exact (Kd.N_reads' HO_321001.out).2.2 | (with_reducible refine Kd.C_alloc ?_ _) | (with_reducible refine Kd.C_drewN ?_ _) | (with_reducible refine Kd.C_drew ?_))); (case side2 => exact (Kd.N_reads' HO_321001.out).2.1); rintro e w113 ⟨rfl, hb⟩; refine ⟨_, rfl, ?_⟩; have n0_ := am (Kd.N_below (pn HO_321001) hb); have n1_ := am (Kd.N_below (pn HO_322001) hb); have n2_ := am (Kd.N_below (pn HO_336001) hb); have n3_ := am (Kd.N_below (pn HO_342001) hb); have n4_ := bb BK320 hb; have n5_ := bb BK321 hb; have n6_ := bb BK335 hb; have n7_ := bb BK341 hb; have n8_ := am (below_step (pb HB) hb); clear HO_321001 HO_322001 HO_336001 HO_342001 BK320 BK321 BK335 BK341 HB; have HO_321001 := n0_; have HO_322001 := n1_; have HO_336001 := n2_; have HO_342001 := n3_; have BK320 := n4_; have BK321 := n5_; have BK335 := n6_; have BK341 := n7_; have HB := n8_; clear n0_ n1_ n2_ n3_ n4_ n5_ n6_ n7_ n8_; (try clear hb); (try clear hb2); (try clear hk); (try clear hi); have hnb114 := NB335_321.out; have hnc114 := NB321_335.out; have hnb115 := NB335_341.out; have hnc115 := NB341_335.out; have hcz116_0 : w113.cell? ⟨gb335, 0, none⟩ = some (.int .i64 t330) := (blk_cell BK335.out 0).trans rfl; have hcz116_1 : w113.cell? ⟨gb335, 1, none⟩ = some (.slice Ao27 t331.length co27) := (blk_cell BK335.out 1).trans rfl; have hfz116_0 := blk_frozen BK335.out 0; have hfz116_1 := blk_frozen BK335.out 1) | (go_at_call 38; (refine calls_of_args (args' := #[.agg #[.int .i64 t330, .slice Ao27 t331.length co27], .agg #[.int .i64 0, .slice none ([] : List (S25)).length 0]]) (by rfl) ?_; with_reducible refine (downpourref03_Same.calls kj71 t330 _ _ t331 0 _ _ ([] : List (S25)) t360 _ ?side1 ?side2 ?side3 ?side4 A108.out).mono ?_); (case side1 => repeat (first | exact (Kd.N_reads' HO_336001.out).2.2 | (with_reducible refine Kd.C_alloc ?_ _) | (with_reducible refine Kd.C_drewN ?_ _) | (with_reducible refine Kd.C_drew ?_))); (case side2 => exact (Kd.N_reads' HO_336001.out).2.1); (case side3 => exact Kd.C_nil _ _); (case side4 => exact Nat.le_refl _); rintro e w117 ⟨rfl, hb⟩; have n0_ := am (Kd.N_below (pn HO_321001) hb); have n1_ := am (Kd.N_below (pn HO_322001) hb); have n2_ := am (Kd.N_below (pn HO_336001) hb); have n3_ := am (Kd.N_below (pn HO_342001) hb); have n4_ := bb BK320 hb; have n5_ := bb BK321 hb; have n6_ := bb BK335 hb; have n7_ := bb BK341 hb; have n8_ := am (below_step (pb HB) hb); clear HO_321001 HO_322001 HO_336001 HO_342001 BK320 BK321 BK335 BK341 HB; have HO_321001 := n0_; have HO_322001 := n1_; have HO_336001 := n2_; have HO_342001 := n3_; have BK320 := n4_; have BK321 := n5_; have BK335 := n6_; have BK341 := n7_; have HB := n8_; clear n0_ n1_ n2_ n3_ n4_ n5_ n6_ n7_ n8_; (try clear hb); (try clear hb2); (try clear hk); (try clear hi)))
           go_ret
           exact ⟨by first | rfl | (simp [errW_none, errW_some] <;> rfl) | (simp [*, errW_none, errW_some] <;> rfl), pb HB⟩
          ·
           rw [if_neg c107] at H
           exact absurd H (by simp)

end Go.Proofs.Ytfdcjkhckjnaeaa.PD
