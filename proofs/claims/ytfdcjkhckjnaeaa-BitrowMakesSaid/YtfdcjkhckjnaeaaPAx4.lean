-- PRINTED by print.py (a twelfth state) out of the translation. Not trusted: Lean checks it.
import Derived.Test.YtfdcjkhckjnaeaaPAx0
import Derived.Test.YtfdcjkhckjnaeaaPAx1
import Derived.Test.YtfdcjkhckjnaeaaPAx2
import Derived.Test.YtfdcjkhckjnaeaaPAx3
namespace Go.Proofs.Ytfdcjkhckjnaeaa.PA
open Go.RowKit Go.Proofs.YtfdcjkhckjnaeaaW.PrintWords Go.Proofs.YtfdcjkhckjnaeaaW.PrintLast Go.Proofs.YtfdcjkhckjnaeaaW.PrintMore
attribute [local go_sem] max2_int min2_int max_two min_two max_three min_three max_four min_four   -- for this text's walks alone
set_option linter.unusedVariables false
set_option linter.unusedSimpArgs false

/-! ### downpourlaw01_BitrowMakes: function 3 -/
mutual
def downpourlaw01_BitrowMakes.j0 : Nat → Int → List Int → Int → Int → Bool → Int → List Int → Int → List Int → Option (Bool)
  | 0, _, _, _, _, _, _, _, _, _ => none
  | k + 1, x0, x1, x10, x12, x56, x196000, x196001, x202000, x202001 => if x56 = true then (none) else (if x0 < 0 then (downpourlaw01_BitrowMakes.j1 k x0 x1 x10 x12 true x196000 x196001 x202000 x202001) else (downpourlaw01_BitrowMakes.j1 k x0 x1 x10 x12 (decide (x0 > 512)) x196000 x196001 x202000 x202001))
def downpourlaw01_BitrowMakes.j1 : Nat → Int → List Int → Int → Int → Bool → Int → List Int → Int → List Int → Option (Bool)
  | 0, _, _, _, _, _, _, _, _, _ => none
  | k + 1, x0, x1, x10, x12, x62, x196000, x196001, x202000, x202001 => if x62 = true then (if x10 = 2 then (if x12 = 2 then ((downpourref01_Same.f k x196000 x196001 0 ([] : List Int)).bind fun t208 => (if t208 = true then ((downpourref01_Same.f k x202000 x202001 0 ([] : List Int)).bind fun t209 => (some t209)) else (none))) else (none)) else (none)) else (if x10 = 0 then ((downpourref01_Of.f k x0 ([] : List Int)).bind fun bt210 => ((downpourref01_Same.f k x196000 x196001 bt210.1 bt210.2).bind fun t214 => (downpourlaw01_BitrowMakes.j2 k x0 x1 x12 (!t214) x202000 x202001))) else (downpourlaw01_BitrowMakes.j2 k x0 x1 x12 true x202000 x202001))
def downpourlaw01_BitrowMakes.j2 : Nat → Int → List Int → Int → Bool → Int → List Int → Option (Bool)
  | 0, _, _, _, _, _, _ => none
  | k + 1, x0, x1, x12, x87, x202000, x202001 => if x87 = true then (none) else ((downpourref01_There.f k x0 x1).bind fun t215 => (if t215 = true then (if x12 = 0 then ((downpourref01_Of.f k x0 x1).bind fun bt216 => ((downpourref01_Same.f k x202000 x202001 bt216.1 bt216.2).bind fun t220 => (some t220))) else (none)) else (if x12 = 3 then ((downpourref01_Same.f k x202000 x202001 0 ([] : List Int)).bind fun t221 => (some t221)) else (none))))
end
def downpourlaw01_BitrowMakes.f (k : Nat) (a0 : Int) (l1 : List Int) (a2_0 : Int) (l2_1 : List Int) (a3_0 : Int) (l3_1 : List Int) : Option (Bool) := if 0 ≤ (mn (l1.length : Int) 40) then (if (mn (l1.length : Int) 40) ≤ (l1.length : Int) then ((downpourlaw01_few.f a2_0 l2_1).bind fun bt182 => ((downpourlaw01_few.f a3_0 l3_1).bind fun bt186 => ((bitrow_New.f a0).bind fun bt190 => ((bitrow_Of.f k a0 (l1.take ((mn (l1.length : Int) 40) : Int).toNat)).bind fun bt196 => ((bitrow_Right.f bt182.1 bt182.2).bind fun t202 => ((downpourref01_Right.f k bt182.1 bt182.2).bind fun t203 => (if (t202 != t203) = true then (downpourlaw01_BitrowMakes.j0 k a0 (l1.take ((mn (l1.length : Int) 40) : Int).toNat) bt190.2.2 bt196.2.2 true bt190.1 bt190.2.1 bt196.1 bt196.2.1) else ((bitrow_Like.f k bt182.1 bt182.2 bt186.1 bt186.2).bind fun t204 => ((downpourref01_Same.f k bt182.1 bt182.2 bt186.1 bt186.2).bind fun t205 => (if (t204 != t205) = true then (downpourlaw01_BitrowMakes.j0 k a0 (l1.take ((mn (l1.length : Int) 40) : Int).toNat) bt190.2.2 bt196.2.2 true bt190.1 bt190.2.1 bt196.1 bt196.2.1) else ((bitrow_Like.f k bt182.1 bt182.2 bt182.1 bt182.2).bind fun t206 => (if t206 = true then ((downpourlaw01_alive.f k).bind fun t207 => (downpourlaw01_BitrowMakes.j0 k a0 (l1.take ((mn (l1.length : Int) 40) : Int).toNat) bt190.2.2 bt196.2.2 (!t207) bt190.1 bt190.2.1 bt196.1 bt196.2.1)) else (downpourlaw01_BitrowMakes.j0 k a0 (l1.take ((mn (l1.length : Int) 40) : Int).toNat) bt190.2.2 bt196.2.2 true bt190.1 bt190.2.1 bt196.1 bt196.2.1))))))))))))) else (none)) else (none)
theorem downpourlaw01_BitrowMakes.mono_l : ∀ k, (∀ y0 y1 y2 y3 y4 y5 y6 y7 y8, LeO (downpourlaw01_BitrowMakes.j0 k y0 y1 y2 y3 y4 y5 y6 y7 y8) (downpourlaw01_BitrowMakes.j0 (k + 1) y0 y1 y2 y3 y4 y5 y6 y7 y8)) ∧ (∀ y0 y1 y2 y3 y4 y5 y6 y7 y8, LeO (downpourlaw01_BitrowMakes.j1 k y0 y1 y2 y3 y4 y5 y6 y7 y8) (downpourlaw01_BitrowMakes.j1 (k + 1) y0 y1 y2 y3 y4 y5 y6 y7 y8)) ∧ (∀ y0 y1 y2 y3 y4 y5, LeO (downpourlaw01_BitrowMakes.j2 k y0 y1 y2 y3 y4 y5) (downpourlaw01_BitrowMakes.j2 (k + 1) y0 y1 y2 y3 y4 y5))
  | 0 => ⟨fun _ _ _ _ _ _ _ _ _ r h => by simp [downpourlaw01_BitrowMakes.j0] at h, fun _ _ _ _ _ _ _ _ _ r h => by simp [downpourlaw01_BitrowMakes.j1] at h, fun _ _ _ _ _ _ r h => by simp [downpourlaw01_BitrowMakes.j2] at h⟩
  | k + 1 => by
    obtain ⟨ih0, ih1, ih2⟩ := downpourlaw01_BitrowMakes.mono_l k
    refine ⟨?_, ?_, ?_⟩
    · intro y0 y1 y2 y3 y4 y5 y6 y7 y8
      unfold downpourlaw01_BitrowMakes.j0
      repeat' first
      | (with_reducible exact ih0 _ _ _ _ _ _ _ _ _)
      | (with_reducible exact ih1 _ _ _ _ _ _ _ _ _)
      | (with_reducible exact ih2 _ _ _ _ _ _)
      | (with_reducible exact bitrow_Like.mono _ _ _ _ _)
      | (with_reducible exact bitrow_Of.mono _ _ _)
      | (with_reducible exact downpourlaw01_alive.mono _)
      | (with_reducible exact downpourref01_Of.mono _ _ _)
      | (with_reducible exact downpourref01_Right.mono _ _ _)
      | (with_reducible exact downpourref01_Same.mono _ _ _ _ _)
      | (with_reducible exact downpourref01_There.mono _ _ _)
      | (with_reducible exact LeO.refl _)
      | (with_reducible exact LeO.none _)
      | (with_reducible refine LeO.ite ?_ ?_)
      | (with_reducible refine LeO.bind ?_ (fun _ => ?_))
      | exact ih0 _ _ _ _ _ _ _ _ _
      | exact ih1 _ _ _ _ _ _ _ _ _
      | exact ih2 _ _ _ _ _ _
      | exact bitrow_Like.mono _ _ _ _ _
      | exact bitrow_Of.mono _ _ _
      | exact downpourlaw01_alive.mono _
      | exact downpourref01_Of.mono _ _ _
      | exact downpourref01_Right.mono _ _ _
      | exact downpourref01_Same.mono _ _ _ _ _
      | exact downpourref01_There.mono _ _ _
      | exact LeO.none _
      | refine LeO.ite ?_ ?_
      | refine LeO.bind ?_ (fun _ => ?_)
    · intro y0 y1 y2 y3 y4 y5 y6 y7 y8
      unfold downpourlaw01_BitrowMakes.j1
      repeat' first
      | (with_reducible exact ih0 _ _ _ _ _ _ _ _ _)
      | (with_reducible exact ih1 _ _ _ _ _ _ _ _ _)
      | (with_reducible exact ih2 _ _ _ _ _ _)
      | (with_reducible exact bitrow_Like.mono _ _ _ _ _)
      | (with_reducible exact bitrow_Of.mono _ _ _)
      | (with_reducible exact downpourlaw01_alive.mono _)
      | (with_reducible exact downpourref01_Of.mono _ _ _)
      | (with_reducible exact downpourref01_Right.mono _ _ _)
      | (with_reducible exact downpourref01_Same.mono _ _ _ _ _)
      | (with_reducible exact downpourref01_There.mono _ _ _)
      | (with_reducible exact LeO.refl _)
      | (with_reducible exact LeO.none _)
      | (with_reducible refine LeO.ite ?_ ?_)
      | (with_reducible refine LeO.bind ?_ (fun _ => ?_))
      | exact ih0 _ _ _ _ _ _ _ _ _
      | exact ih1 _ _ _ _ _ _ _ _ _
      | exact ih2 _ _ _ _ _ _
      | exact bitrow_Like.mono _ _ _ _ _
      | exact bitrow_Of.mono _ _ _
      | exact downpourlaw01_alive.mono _
      | exact downpourref01_Of.mono _ _ _
      | exact downpourref01_Right.mono _ _ _
      | exact downpourref01_Same.mono _ _ _ _ _
      | exact downpourref01_There.mono _ _ _
      | exact LeO.none _
      | refine LeO.ite ?_ ?_
      | refine LeO.bind ?_ (fun _ => ?_)
    · intro y0 y1 y2 y3 y4 y5
      unfold downpourlaw01_BitrowMakes.j2
      repeat' first
      | (with_reducible exact ih0 _ _ _ _ _ _ _ _ _)
      | (with_reducible exact ih1 _ _ _ _ _ _ _ _ _)
      | (with_reducible exact ih2 _ _ _ _ _ _)
      | (with_reducible exact bitrow_Like.mono _ _ _ _ _)
      | (with_reducible exact bitrow_Of.mono _ _ _)
      | (with_reducible exact downpourlaw01_alive.mono _)
      | (with_reducible exact downpourref01_Of.mono _ _ _)
      | (with_reducible exact downpourref01_Right.mono _ _ _)
      | (with_reducible exact downpourref01_Same.mono _ _ _ _ _)
      | (with_reducible exact downpourref01_There.mono _ _ _)
      | (with_reducible exact LeO.refl _)
      | (with_reducible exact LeO.none _)
      | (with_reducible refine LeO.ite ?_ ?_)
      | (with_reducible refine LeO.bind ?_ (fun _ => ?_))
      | exact ih0 _ _ _ _ _ _ _ _ _
      | exact ih1 _ _ _ _ _ _ _ _ _
      | exact ih2 _ _ _ _ _ _
      | exact bitrow_Like.mono _ _ _ _ _
      | exact bitrow_Of.mono _ _ _
      | exact downpourlaw01_alive.mono _
      | exact downpourref01_Of.mono _ _ _
      | exact downpourref01_Right.mono _ _ _
      | exact downpourref01_Same.mono _ _ _ _ _
      | exact downpourref01_There.mono _ _ _
      | exact LeO.none _
      | refine LeO.ite ?_ ?_
      | refine LeO.bind ?_ (fun _ => ?_)
theorem downpourlaw01_BitrowMakes.mono : ∀ a0 a1 a2 a3 a4 a5 k, LeO (downpourlaw01_BitrowMakes.f k a0 a1 a2 a3 a4 a5) (downpourlaw01_BitrowMakes.f (k + 1) a0 a1 a2 a3 a4 a5) := by
  intro a0 a1 a2 a3 a4 a5 k
  obtain ⟨ih0, ih1, ih2⟩ := downpourlaw01_BitrowMakes.mono_l k
  unfold downpourlaw01_BitrowMakes.f
  repeat' first
      | (with_reducible exact ih0 _ _ _ _ _ _ _ _ _)
      | (with_reducible exact ih1 _ _ _ _ _ _ _ _ _)
      | (with_reducible exact ih2 _ _ _ _ _ _)
      | (with_reducible exact bitrow_Like.mono _ _ _ _ _)
      | (with_reducible exact bitrow_Of.mono _ _ _)
      | (with_reducible exact downpourlaw01_alive.mono _)
      | (with_reducible exact downpourref01_Of.mono _ _ _)
      | (with_reducible exact downpourref01_Right.mono _ _ _)
      | (with_reducible exact downpourref01_Same.mono _ _ _ _ _)
      | (with_reducible exact downpourref01_There.mono _ _ _)
      | (with_reducible exact LeO.refl _)
      | (with_reducible exact LeO.none _)
      | (with_reducible refine LeO.ite ?_ ?_)
      | (with_reducible refine LeO.bind ?_ (fun _ => ?_))
      | exact ih0 _ _ _ _ _ _ _ _ _
      | exact ih1 _ _ _ _ _ _ _ _ _
      | exact ih2 _ _ _ _ _ _
      | exact bitrow_Like.mono _ _ _ _ _
      | exact bitrow_Of.mono _ _ _
      | exact downpourlaw01_alive.mono _
      | exact downpourref01_Of.mono _ _ _
      | exact downpourref01_Right.mono _ _ _
      | exact downpourref01_Same.mono _ _ _ _ _
      | exact downpourref01_There.mono _ _ _
      | exact LeO.none _
      | refine LeO.ite ?_ ?_
      | refine LeO.bind ?_ (fun _ => ?_)
def downpourlaw01_BitrowMakes.T1 : Bool × List (List Nat × List Nat) := (true, [([], []), ([], []), ([1], [1]), ([2], [2]), ([0, 3], [0, 3]), ([], []), ([5], [5]), ([], []), ([7, 6], [7]), ([4, 8, 0, 1, 2, 3, 4], [0, 1, 4]), ([6, 9, 0, 1, 2, 3, 4, 5, 6, 9], [6]), ([8, 10, 0, 1, 2, 3, 4, 5, 6, 7, 8, 9, 10], [8])])
def downpourlaw01_BitrowMakes.B1 : List Nat := [0, 0, 2, 6, 15, 0, 32, 0, 224, 511, 1023, 2047]
theorem downpourlaw01_BitrowMakes.tab1 : rtab .any (opsOf Try.f3 1) = downpourlaw01_BitrowMakes.T1 := by kernel_rfl
theorem downpourlaw01_BitrowMakes.bits1 : waitsOk downpourlaw01_BitrowMakes.T1.2 downpourlaw01_BitrowMakes.B1 = true := by kernel_rfl
def downpourlaw01_BitrowMakes.T4 : Bool × List (List Nat × List Nat) := (true, [([], []), ([0], [0]), ([], []), ([2, 1], [2]), ([1, 3], [1, 3]), ([4, 3], [4]), ([5], [5]), ([5], [5]), ([6, 7, 5, 5], [5, 6, 7]), ([5], [5]), ([5], [5]), ([9, 10, 8, 5], [5, 9, 10]), ([8, 11, 5], [5, 8, 11]), ([5, 12], [5, 12]), ([13, 11], [13]), ([14], [14]), ([14], [14]), ([15, 16, 14, 14], [14, 15, 16]), ([17, 14], [14, 17]), ([14, 18], [14, 18]), ([19, 17], [19]), ([20, 20], [20]), ([21, 20], [20, 21]), ([20, 22], [20, 22])])
def downpourlaw01_BitrowMakes.B4 : List Nat := [0, 1, 0, 7, 15, 31, 63, 63, 255, 63, 63, 2047, 4095, 8191, 16383, 32767, 32767, 131071, 262143, 524287, 1048575, 2097151, 4194303, 8388607]
theorem downpourlaw01_BitrowMakes.tab4 : rtab .any (opsOf Try.f3 4) = downpourlaw01_BitrowMakes.T4 := by kernel_rfl
theorem downpourlaw01_BitrowMakes.bits4 : waitsOk downpourlaw01_BitrowMakes.T4.2 downpourlaw01_BitrowMakes.B4 = true := by kernel_rfl
def downpourlaw01_BitrowMakes.T8 : Bool × List (List Nat × List Nat) := (true, [([], []), ([0], [0]), ([1], [1]), ([2], [2]), ([2], [2]), ([4, 2, 2], [2, 4]), ([3, 5, 5, 2], [2, 3, 5]), ([6, 2], [2, 6]), ([2, 7], [2, 7])])
def downpourlaw01_BitrowMakes.B8 : List Nat := [0, 1, 3, 7, 7, 23, 63, 127, 255]
theorem downpourlaw01_BitrowMakes.tab8 : rtab .any (opsOf Try.f3 8) = downpourlaw01_BitrowMakes.T8 := by kernel_rfl
theorem downpourlaw01_BitrowMakes.bits8 : waitsOk downpourlaw01_BitrowMakes.T8.2 downpourlaw01_BitrowMakes.B8 = true := by kernel_rfl
def downpourlaw01_BitrowMakes.T12 : Bool × List (List Nat × List Nat) := (true, [([], []), ([0], [0]), ([1], [1]), ([2], [2]), ([2], [2]), ([2], [2]), ([4, 5, 2, 2], [2, 4, 5]), ([3, 6, 6, 2], [2, 3, 6]), ([2, 7], [2, 7]), ([8, 7, 0, 1, 2, 3, 4, 5, 6, 7, 8], [8])])
def downpourlaw01_BitrowMakes.B12 : List Nat := [0, 1, 3, 7, 7, 7, 55, 127, 255, 511]
theorem downpourlaw01_BitrowMakes.tab12 : rtab .any (opsOf Try.f3 12) = downpourlaw01_BitrowMakes.T12 := by kernel_rfl
theorem downpourlaw01_BitrowMakes.bits12 : waitsOk downpourlaw01_BitrowMakes.T12.2 downpourlaw01_BitrowMakes.B12 = true := by kernel_rfl
set_option maxHeartbeats 8000000 in
set_option maxRecDepth 100000 in
theorem downpourlaw01_BitrowMakes.calls (k : Nat) (a0 : Int) (A1 : Option Addr) (c1 : Nat) (l1 : List Int) (a2_0 : Int) (A2_1 : Option Addr) (c2_1 : Nat) (l2_1 : List Int) (a3_0 : Int) (A3_1 : Option Addr) (c3_1 : Nat) (l3_1 : List Int) (r : Bool) (w : World) (hr1 : Kd.C (Kd.int .i64) w A1 l1.length l1) (hc1 : l1.length ≤ c1) (hr2_1 : Kd.C (Kd.int .u64) w A2_1 l2_1.length l2_1) (hc2_1 : l2_1.length ≤ c2_1) (hr3_1 : Kd.C (Kd.int .u64) w A3_1 l3_1.length l3_1) (hc3_1 : l3_1.length ≤ c3_1) (h : downpourlaw01_BitrowMakes.f k a0 l1 a2_0 l2_1 a3_0 l3_1 = some r) :
    Calls Try.prog 3 #[.int .i64 a0, .slice A1 l1.length c1, .agg #[.int .i64 a2_0, .slice A2_1 l2_1.length c2_1], .agg #[.int .i64 a3_0, .slice A3_1 l3_1.length c3_1]] w fun e w' => e = .returned (.bool r) ∧ Below w.heap.size w w' := by
  have hu25 := Try.underlying25
  have HR1 := Aside0.mk hr1
  have HC1 := Aside0.mk hc1
  clear hr1 hc1
  have HR2_1 := Aside0.mk hr2_1
  have HC2_1 := Aside0.mk hc2_1
  clear hr2_1 hc2_1
  have HR3_1 := Aside0.mk hr3_1
  have HC3_1 := Aside0.mk hc3_1
  clear hr3_1 hc3_1
  have HB := Aside0.mk (Below.refl w.heap.size w)
  have H : (if 0 ≤ (mn (l1.length : Int) 40) then (if (mn (l1.length : Int) 40) ≤ (l1.length : Int) then ((downpourlaw01_few.f a2_0 l2_1).bind fun bt182 => ((downpourlaw01_few.f a3_0 l3_1).bind fun bt186 => ((bitrow_New.f a0).bind fun bt190 => ((bitrow_Of.f k a0 (l1.take ((mn (l1.length : Int) 40) : Int).toNat)).bind fun bt196 => ((bitrow_Right.f bt182.1 bt182.2).bind fun t202 => ((downpourref01_Right.f k bt182.1 bt182.2).bind fun t203 => (if (t202 != t203) = true then (downpourlaw01_BitrowMakes.j0 k a0 (l1.take ((mn (l1.length : Int) 40) : Int).toNat) bt190.2.2 bt196.2.2 true bt190.1 bt190.2.1 bt196.1 bt196.2.1) else ((bitrow_Like.f k bt182.1 bt182.2 bt186.1 bt186.2).bind fun t204 => ((downpourref01_Same.f k bt182.1 bt182.2 bt186.1 bt186.2).bind fun t205 => (if (t204 != t205) = true then (downpourlaw01_BitrowMakes.j0 k a0 (l1.take ((mn (l1.length : Int) 40) : Int).toNat) bt190.2.2 bt196.2.2 true bt190.1 bt190.2.1 bt196.1 bt196.2.1) else ((bitrow_Like.f k bt182.1 bt182.2 bt182.1 bt182.2).bind fun t206 => (if t206 = true then ((downpourlaw01_alive.f k).bind fun t207 => (downpourlaw01_BitrowMakes.j0 k a0 (l1.take ((mn (l1.length : Int) 40) : Int).toNat) bt190.2.2 bt196.2.2 (!t207) bt190.1 bt190.2.1 bt196.1 bt196.2.1)) else (downpourlaw01_BitrowMakes.j0 k a0 (l1.take ((mn (l1.length : Int) 40) : Int).toNat) bt190.2.2 bt196.2.2 true bt190.1 bt190.2.1 bt196.1 bt196.2.1))))))))))))) else (none)) else (none)) = some r := h
  clear h
  obtain ⟨ji5, hji5⟩ : ∃ j_ : Int, (mn (l1.length : Int) 40) = j_ := ⟨_, rfl⟩
  replace H : (if 0 ≤ (ji5) then (if (ji5) ≤ (l1.length : Int) then ((downpourlaw01_few.f a2_0 l2_1).bind fun bt182 => ((downpourlaw01_few.f a3_0 l3_1).bind fun bt186 => ((bitrow_New.f a0).bind fun bt190 => ((bitrow_Of.f k a0 (l1.take ((ji5) : Int).toNat)).bind fun bt196 => ((bitrow_Right.f bt182.1 bt182.2).bind fun t202 => ((downpourref01_Right.f k bt182.1 bt182.2).bind fun t203 => (if (t202 != t203) = true then (downpourlaw01_BitrowMakes.j0 k a0 (l1.take ((ji5) : Int).toNat) bt190.2.2 bt196.2.2 true bt190.1 bt190.2.1 bt196.1 bt196.2.1) else ((bitrow_Like.f k bt182.1 bt182.2 bt186.1 bt186.2).bind fun t204 => ((downpourref01_Same.f k bt182.1 bt182.2 bt186.1 bt186.2).bind fun t205 => (if (t204 != t205) = true then (downpourlaw01_BitrowMakes.j0 k a0 (l1.take ((ji5) : Int).toNat) bt190.2.2 bt196.2.2 true bt190.1 bt190.2.1 bt196.1 bt196.2.1) else ((bitrow_Like.f k bt182.1 bt182.2 bt182.1 bt182.2).bind fun t206 => (if t206 = true then ((downpourlaw01_alive.f k).bind fun t207 => (downpourlaw01_BitrowMakes.j0 k a0 (l1.take ((ji5) : Int).toNat) bt190.2.2 bt196.2.2 (!t207) bt190.1 bt190.2.1 bt196.1 bt196.2.1)) else (downpourlaw01_BitrowMakes.j0 k a0 (l1.take ((ji5) : Int).toNat) bt190.2.2 bt196.2.2 true bt190.1 bt190.2.1 bt196.1 bt196.2.1))))))))))))) else (none)) else (none)) = some r := by first | (rw [hji5] at H; exact H) | (simp only [hji5] at H ⊢; exact H)
  (try (have hji5h : ji5 ≤ 40 := by (rw [← hji5]; unfold mn; (repeat' split) <;> omega)))
  (try (have hji5g : ji5 ≤ 64 := by omega))
  (try (have hji5l : 0 ≤ ji5 := by (rw [← hji5]; unfold mn; (repeat' split) <;> omega)))
  (try (have hji5m : 0 ≤ ji5 := by omega))
  have hji5_ : (if 40 < (l1.length : Int) then 40 else (l1.length : Int)) = ji5 := hji5
  by_cases c6 : 0 ≤ (ji5)
  · rw [if_pos c6] at H
    have c6b0 := eq_true c6
    have c6b1 : decide (0 ≤ (ji5)) = true := decide_eq_true c6
    clear c6
    by_cases c7 : (ji5) ≤ (l1.length : Int)
    · rw [if_pos c7] at H
      have c7b0 := eq_true c7
      have c7b1 : decide ((ji5) ≤ (l1.length : Int)) = true := decide_eq_true c7
      clear c7
      replace H := Option.bind_eq_some_iff.mp H
      obtain ⟨⟨t182, t183⟩, A80, H⟩ := H
      replace H : ((downpourlaw01_few.f a3_0 l3_1).bind fun bt186 => ((bitrow_New.f a0).bind fun bt190 => ((bitrow_Of.f k a0 (l1.take ((ji5) : Int).toNat)).bind fun bt196 => ((bitrow_Right.f t182 t183).bind fun t202 => ((downpourref01_Right.f k t182 t183).bind fun t203 => (if (t202 != t203) = true then (downpourlaw01_BitrowMakes.j0 k a0 (l1.take ((ji5) : Int).toNat) bt190.2.2 bt196.2.2 true bt190.1 bt190.2.1 bt196.1 bt196.2.1) else ((bitrow_Like.f k t182 t183 bt186.1 bt186.2).bind fun t204 => ((downpourref01_Same.f k t182 t183 bt186.1 bt186.2).bind fun t205 => (if (t204 != t205) = true then (downpourlaw01_BitrowMakes.j0 k a0 (l1.take ((ji5) : Int).toNat) bt190.2.2 bt196.2.2 true bt190.1 bt190.2.1 bt196.1 bt196.2.1) else ((bitrow_Like.f k t182 t183 t182 t183).bind fun t206 => (if t206 = true then ((downpourlaw01_alive.f k).bind fun t207 => (downpourlaw01_BitrowMakes.j0 k a0 (l1.take ((ji5) : Int).toNat) bt190.2.2 bt196.2.2 (!t207) bt190.1 bt190.2.1 bt196.1 bt196.2.1)) else (downpourlaw01_BitrowMakes.j0 k a0 (l1.take ((ji5) : Int).toNat) bt190.2.2 bt196.2.2 true bt190.1 bt190.2.1 bt196.1 bt196.2.1)))))))))))) = some r := H
      have A8 := Aside0.mk A80
      clear A80
      replace H := Option.bind_eq_some_iff.mp H
      obtain ⟨⟨t186, t187⟩, A90, H⟩ := H
      replace H : ((bitrow_New.f a0).bind fun bt190 => ((bitrow_Of.f k a0 (l1.take ((ji5) : Int).toNat)).bind fun bt196 => ((bitrow_Right.f t182 t183).bind fun t202 => ((downpourref01_Right.f k t182 t183).bind fun t203 => (if (t202 != t203) = true then (downpourlaw01_BitrowMakes.j0 k a0 (l1.take ((ji5) : Int).toNat) bt190.2.2 bt196.2.2 true bt190.1 bt190.2.1 bt196.1 bt196.2.1) else ((bitrow_Like.f k t182 t183 t186 t187).bind fun t204 => ((downpourref01_Same.f k t182 t183 t186 t187).bind fun t205 => (if (t204 != t205) = true then (downpourlaw01_BitrowMakes.j0 k a0 (l1.take ((ji5) : Int).toNat) bt190.2.2 bt196.2.2 true bt190.1 bt190.2.1 bt196.1 bt196.2.1) else ((bitrow_Like.f k t182 t183 t182 t183).bind fun t206 => (if t206 = true then ((downpourlaw01_alive.f k).bind fun t207 => (downpourlaw01_BitrowMakes.j0 k a0 (l1.take ((ji5) : Int).toNat) bt190.2.2 bt196.2.2 (!t207) bt190.1 bt190.2.1 bt196.1 bt196.2.1)) else (downpourlaw01_BitrowMakes.j0 k a0 (l1.take ((ji5) : Int).toNat) bt190.2.2 bt196.2.2 true bt190.1 bt190.2.1 bt196.1 bt196.2.1))))))))))) = some r := H
      have A9 := Aside0.mk A90
      clear A90
      replace H := Option.bind_eq_some_iff.mp H
      obtain ⟨⟨t190, t191, t194⟩, A100, H⟩ := H
      replace H : ((bitrow_Of.f k a0 (l1.take ((ji5) : Int).toNat)).bind fun bt196 => ((bitrow_Right.f t182 t183).bind fun t202 => ((downpourref01_Right.f k t182 t183).bind fun t203 => (if (t202 != t203) = true then (downpourlaw01_BitrowMakes.j0 k a0 (l1.take ((ji5) : Int).toNat) t194 bt196.2.2 true t190 t191 bt196.1 bt196.2.1) else ((bitrow_Like.f k t182 t183 t186 t187).bind fun t204 => ((downpourref01_Same.f k t182 t183 t186 t187).bind fun t205 => (if (t204 != t205) = true then (downpourlaw01_BitrowMakes.j0 k a0 (l1.take ((ji5) : Int).toNat) t194 bt196.2.2 true t190 t191 bt196.1 bt196.2.1) else ((bitrow_Like.f k t182 t183 t182 t183).bind fun t206 => (if t206 = true then ((downpourlaw01_alive.f k).bind fun t207 => (downpourlaw01_BitrowMakes.j0 k a0 (l1.take ((ji5) : Int).toNat) t194 bt196.2.2 (!t207) t190 t191 bt196.1 bt196.2.1)) else (downpourlaw01_BitrowMakes.j0 k a0 (l1.take ((ji5) : Int).toNat) t194 bt196.2.2 true t190 t191 bt196.1 bt196.2.1)))))))))) = some r := H
      have A10 := Aside0.mk A100
      clear A100
      replace H := Option.bind_eq_some_iff.mp H
      obtain ⟨⟨t196, t197, t200⟩, A110, H⟩ := H
      replace H : ((bitrow_Right.f t182 t183).bind fun t202 => ((downpourref01_Right.f k t182 t183).bind fun t203 => (if (t202 != t203) = true then (downpourlaw01_BitrowMakes.j0 k a0 (l1.take ((ji5) : Int).toNat) t194 t200 true t190 t191 t196 t197) else ((bitrow_Like.f k t182 t183 t186 t187).bind fun t204 => ((downpourref01_Same.f k t182 t183 t186 t187).bind fun t205 => (if (t204 != t205) = true then (downpourlaw01_BitrowMakes.j0 k a0 (l1.take ((ji5) : Int).toNat) t194 t200 true t190 t191 t196 t197) else ((bitrow_Like.f k t182 t183 t182 t183).bind fun t206 => (if t206 = true then ((downpourlaw01_alive.f k).bind fun t207 => (downpourlaw01_BitrowMakes.j0 k a0 (l1.take ((ji5) : Int).toNat) t194 t200 (!t207) t190 t191 t196 t197)) else (downpourlaw01_BitrowMakes.j0 k a0 (l1.take ((ji5) : Int).toNat) t194 t200 true t190 t191 t196 t197))))))))) = some r := H
      have A11 := Aside0.mk A110
      clear A110
      have HC12 := Aside0.mk H
      clear H
      go_enter Try.func3, Try.ntmps3
      try go_wp2_with (first | ((with_reducible refine gate_dst (N := 6) rfl ?_); refine box_event ?hg (N := 6) ?hd (cs := #[.int .i64 a2_0, .slice A2_1 l2_1.length c2_1]) (t := 25) ?hr ?_; (case hd => rfl); (case hg => rfl); (case hr => first | (go_simp; done) | (go_simp; rfl)); intro gb179 hg w13 hbox hb; have n0_ := Aside0.mk (below_step (by repeat (first | (with_reducible first | exact HB.out | apply below_alloc | apply pw_below_drewN | apply below_drew1) | exact HB.out)) hb); have n1_ := Aside0.mk (hbox); have n2_ := Aside0.mk ((by rw [hg]; exact (below_size (by repeat (first | (with_reducible first | exact HB.out | apply below_alloc | apply pw_below_drewN | apply below_drew1) | exact HB.out))) : w.heap.size ≤ gb179)); have n3_ := Aside0.mk ((by rw [hg]; exact (below_size (by repeat (first | (with_reducible first | exact HB.out | apply below_alloc | apply pw_below_drewN | apply below_drew1) | exact HB.out))) : w.heap.size ≤ gb179)); clear HB; have HB := n0_; have BK179 := n1_; have GW179 := n2_; have GE179 := n3_; clear n0_ n1_ n2_ n3_ hb hbox hg) | ((with_reducible refine gate_dst (N := 7) rfl ?_); refine box_event ?hg (N := 7) ?hd (cs := #[.int .i64 a3_0, .slice A3_1 l3_1.length c3_1]) (t := 25) ?hr ?_; (case hd => rfl); (case hg => rfl); (case hr => first | (go_simp; done) | (go_simp; rfl)); intro gb180 hg w14 hbox hb; have n0_ := bb BK179 hb; have n1_ := Aside0.mk (below_step (by repeat (first | (with_reducible first | exact HB.out | apply below_alloc | apply pw_below_drewN | apply below_drew1 | refine below_set ?_ GE179.out) | exact HB.out)) hb); have n2_ := Aside0.mk (hbox); have n3_ := Aside0.mk ((by rw [hg]; exact (below_size (by repeat (first | (with_reducible first | exact HB.out | apply below_alloc | apply pw_below_drewN | apply below_drew1 | refine below_set ?_ GE179.out) | exact HB.out))) : w.heap.size ≤ gb180)); have n4_ := Aside0.mk ((by rw [hg]; exact (below_size (by repeat (first | (with_reducible first | exact HB.out | apply below_alloc | apply pw_below_drewN | apply below_drew1 | refine below_set ?_ GE179.out) | exact HB.out))) : w.heap.size ≤ gb180)); have n5_ := Aside0.mk ((by rw [hg]; exact Nat.ne_of_lt (bl BK179) : gb179 ≠ gb180)); have n6_ := Aside0.mk ((by rw [hg]; exact Nat.ne_of_gt (bl BK179) : gb180 ≠ gb179)); clear BK179 HB; have BK179 := n0_; have HB := n1_; have BK180 := n2_; have GW180 := n3_; have GE180 := n4_; have NB179_180 := n5_; have NB180_179 := n6_; clear n0_ n1_ n2_ n3_ n4_ n5_ n6_ hb hbox hg))
      have n0_ := Aside0.mk (blk_drew BK179.out)
      have n1_ := Aside0.mk (blk_drew BK180.out)
      have n2_ := Aside0.mk (below_drew1 HB.out)
      clear BK179
      clear BK180
      clear HB
      have BK179 := n0_
      have BK180 := n1_
      have HB := n2_
      clear n0_ n1_ n2_
      obtain ⟨i016, hi016, _, hsz16, _⟩ := info_parts info3
      obtain ⟨hcut16, hA16, hC16⟩ := print_take_of (P := Try.prog) (Value.int .i64) 0 22 3 .i64 Try.underlying22 hi016 hsz16 A1 c1 l1 (ji5) (of_decide_eq_true (by first | (with_reducible assumption) | assumption)) (of_decide_eq_true (by first | (with_reducible assumption) | assumption)) HC1.out
      have HR181 := Aside0.mk (Kd.C_of_reads (h1 := fun _ => rfl) (hA16 _ (Kd.reads_of_C HR1.out)))
      have HC181 := Aside0.mk hC16
      clear hA16 hC16 hi016 hsz16
      refine start_ (n := 12) (S := fun w' => w'.cell? ⟨gb179, 0, none⟩ = some (.int .i64 a2_0) ∧ w'.cell? ⟨gb179, 1, none⟩ = some (.slice A2_1 l2_1.length c2_1) ∧ w'.cell? ⟨gb180, 0, none⟩ = some (.int .i64 a3_0) ∧ w'.cell? ⟨gb180, 1, none⟩ = some (.slice A3_1 l3_1.length c3_1)) (ds := [10, 11]) #[false, false, false, false, false, false, false, false, false, false, false, false] (by kernel_rfl) rfl rfl ⟨(blk_cell BK179.out 0).trans rfl, (blk_cell BK179.out 1).trans rfl, (blk_cell BK180.out 0).trans rfl, (blk_cell BK180.out 1).trans rfl⟩ (fun hHeld => ?_); refine with_tabW downpourlaw01_BitrowMakes.tab1 downpourlaw01_BitrowMakes.bits1 (fun HT_ HW_ => ?_)
      generalize w14.drew = w15 at BK179 BK180 HB HR181 hHeld ⊢
      refine pure_ (i := 0) (N := some 13) (v := ?_) (a' := ?_) #[true, false, false, false, false, false, false, false, false, false, false, false] rfl rfl (any_of HT_.out (by kernel_rfl)) (fun _ _ _ h => h) (Or.inl ⟨by rfl, ?_⟩) ?_ ?_
      rotate_left
      · intro w'
        go_simp
        with_reducible rfl
      rotate_left
      · simp only [Act.put, List.setIfInBounds_toArray, List.set_cons_zero, List.set_cons_succ, i64_w, i32_w]
        rfl
      refine pure_ (i := 1) (N := some 14) (v := ?_) (a' := ?_) #[true, true, false, false, false, false, false, false, false, false, false, false] rfl rfl (any_of HT_.out (by kernel_rfl)) (fun _ _ _ h => h) (Or.inl ⟨by rfl, ?_⟩) ?_ ?_
      rotate_left
      · intro w'
        go_simp
        with_reducible rfl
      rotate_left
      · simp only [Act.put, List.setIfInBounds_toArray, List.set_cons_zero, List.set_cons_succ, i64_w, i32_w]
        rfl
      refine pure_ (i := 2) (N := some 15) (v := ?_) (a' := ?_) #[true, true, true, false, false, false, false, false, false, false, false, false] rfl rfl (any_of HT_.out (by kernel_rfl)) (fun _ _ _ h => h) (Or.inl ⟨by rfl, ?_⟩) ?_ ?_
      rotate_left
      · intro w'
        go_simp
        with_reducible rfl
      rotate_left
      · simp only [Act.put, List.setIfInBounds_toArray, List.set_cons_zero, List.set_cons_succ, i64_w, i32_w]
        rfl
      refine pure_ (i := 3) (N := some 16) (v := ?_) (a' := ?_) #[true, true, true, true, false, false, false, false, false, false, false, false] rfl rfl (any_of HT_.out (by kernel_rfl)) (fun _ _ _ h => h) (Or.inl ⟨by rfl, ?_⟩) ?_ ?_
      rotate_left
      · intro w'
        go_simp
        with_reducible rfl
      rotate_left
      · simp only [Act.put, List.setIfInBounds_toArray, List.set_cons_zero, List.set_cons_succ, i64_w, i32_w]
        rfl
      refine pure_ (i := 4) (N := some 17) (v := ?_) (a' := ?_) #[true, true, true, true, true, false, false, false, false, false, false, false] rfl rfl (any_of HT_.out (by kernel_rfl)) (fun _ _ _ h => h) (Or.inl ⟨by rfl, ?_⟩) ?_ ?_
      rotate_left
      · intro w'
        go_simp
        with_reducible rfl
      rotate_left
      · simp only [Act.put, List.setIfInBounds_toArray, List.set_cons_zero, List.set_cons_succ, i64_w, i32_w]
        rfl
      refine take_ (i := 5) (N := some 18) (v := ?_) (a' := ?_) #[true, true, true, true, true, true, false, false, false, false, false, false] rfl rfl (take_ofW HT_.out HW_.out (by kernel_rfl)) (fun _ _ _ h => h) (Or.inl ⟨by rfl, ?_⟩) hHeld ?_ ?_
      rotate_left
      · rintro w' ⟨s0, s1, s2, s3⟩
        go_simp
        with_reducible rfl
      rotate_left
      · simp only [Act.put, List.setIfInBounds_toArray, List.set_cons_zero, List.set_cons_succ, i64_w, i32_w]
        rfl
      refine take_ (i := 7) (N := some 20) (v := ?_) (a' := ?_) #[true, true, true, true, true, true, false, true, false, false, false, false] rfl rfl (take_ofW HT_.out HW_.out (by kernel_rfl)) (fun _ _ _ h => h) (Or.inl ⟨by rfl, ?_⟩) hHeld ?_ ?_
      rotate_left
      · rintro w' ⟨s0, s1, s2, s3⟩
        go_simp
        with_reducible rfl
      rotate_left
      · simp only [Act.put, List.setIfInBounds_toArray, List.set_cons_zero, List.set_cons_succ, i64_w, i32_w]
        rfl
      refine one_ (i := 6) (N := some 19) #[true, true, true, true, true, true, true, true, false, false, false, false] rfl rfl (one_of HT_.out (by kernel_rfl)) (by decide) (fun K hK => ?_)
      refine goes_ Try.func19 (by kernel_rfl) rfl #[.agg #[.int .i64 a2_0, .slice A2_1 l2_1.length c2_1]] (by rfl) rfl rfl (by (try simp only [List.map_toArray, List.map_cons, List.map_nil]); first | done | rfl | (simp only [List.length_drop, List.length_take]; rfl)) ?_
      with_reducible refine (downpourlaw01_few.calls a2_0 (fun k_ => k_ < w.heap.size) _ _ l2_1 t182 t183 _ ?side1 A8.out).mono ?_
      (case side1 => exact Kd.V_mk HC2_1.out (Kd.F_below (Kd.C_F (Kd.heap_int .u64) HR2_1.out) (by repeat (first | (with_reducible first | exact HB.out | apply below_alloc | apply pw_below_drewN | apply below_drew1 | refine below_set ?_ GE179.out | refine below_set ?_ GE180.out) | exact HB.out))))
      rintro e w17 ⟨v184, rfl, ho0, hb⟩
      refine ⟨_, rfl, ?_⟩
      have n0_ := Aside0.mk (Kd.V_lower (Kd.V_mono (ok' := fun k_ => k_ ≠ gb179 ∧ k_ ≠ gb180) ho0 (fun k_ hk_ => ⟨Or.elim hk_ (fun hs_ => fun e_ => Nat.not_le.2 hs_ (by rw [e_]; exact GW179.out)) (fun hn_ => (Kd.freshB (g := gb179) (o := .cells #[.int .i64 a2_0, .slice A2_1 l2_1.length c2_1] 25 (0, 0)) (pk BK179) k_ hn_)), Or.elim hk_ (fun hs_ => fun e_ => Nat.not_le.2 hs_ (by rw [e_]; exact GW180.out)) (fun hn_ => (Kd.freshB (g := gb180) (o := .cells #[.int .i64 a3_0, .slice A3_1 l3_1.length c3_1] 25 (0, 0)) (pk BK180) k_ hn_))⟩)) (below_size (by repeat (first | (with_reducible first | exact HB.out | apply below_alloc | apply pw_below_drewN | apply below_drew1 | refine below_set ?_ GE179.out | refine below_set ?_ GE180.out) | exact HB.out))))
      have n1_ := bb BK179 hb
      have n2_ := bb BK180 hb
      have n3_ := Aside0.mk (below_step (by repeat (first | (with_reducible first | exact HB.out | apply below_alloc | apply pw_below_drewN | apply below_drew1 | refine below_set ?_ GE179.out | refine below_set ?_ GE180.out) | exact HB.out)) hb)
      clear BK179
      clear BK180
      clear HB
      have HO185 := n0_
      have BK179 := n1_
      have BK180 := n2_
      have HB := n3_
      clear n0_ n1_ n2_ n3_
      (try clear hb)
      (try clear hb2)
      (try clear hk)
      (try clear hi)
      (try clear ho0)
      refine hK.out _ _ ⟨(blk_cell BK179.out 0).trans rfl, (blk_cell BK179.out 1).trans rfl, (blk_cell BK180.out 0).trans rfl, (blk_cell BK180.out 1).trans rfl⟩ (fun hHeld => ?_)
      clear hK K
      refine norm_ (a' := ?_) ?_ ?_
      rotate_left
      · show Act.put _ (some 19) _ = _
        simp only [Act.put, List.setIfInBounds_toArray, List.set_cons_zero, List.set_cons_succ, i64_w, i32_w]
        rfl
      refine one_ (i := 8) (N := some 21) #[true, true, true, true, true, true, true, true, true, false, false, false] rfl rfl (one_of HT_.out (by kernel_rfl)) (by decide) (fun K hK => ?_)
      refine goes_ Try.func19 (by kernel_rfl) rfl #[.agg #[.int .i64 a3_0, .slice A3_1 l3_1.length c3_1]] (by rfl) rfl rfl (by (try simp only [List.map_toArray, List.map_cons, List.map_nil]); first | done | rfl | (simp only [List.length_drop, List.length_take]; rfl)) ?_
      with_reducible refine (downpourlaw01_few.calls a3_0 (fun k_ => k_ < w.heap.size) _ _ l3_1 t186 t187 _ ?side1 A9.out).mono ?_
      (case side1 => exact Kd.V_mk HC3_1.out (Kd.F_below (Kd.C_F (Kd.heap_int .u64) HR3_1.out) (by repeat (first | (with_reducible first | exact HB.out | apply below_alloc | apply pw_below_drewN | apply below_drew1 | refine below_set ?_ GE179.out | refine below_set ?_ GE180.out) | exact HB.out))))
      rintro e w18 ⟨v188, rfl, ho0, hb⟩
      refine ⟨_, rfl, ?_⟩
      have n0_ := Aside0.mk (Kd.V_below (pv HO185) hb)
      have n1_ := Aside0.mk (Kd.V_lower (Kd.V_mono (ok' := fun k_ => k_ ≠ gb179 ∧ k_ ≠ gb180) ho0 (fun k_ hk_ => ⟨Or.elim hk_ (fun hs_ => fun e_ => Nat.not_le.2 hs_ (by rw [e_]; exact GW179.out)) (fun hn_ => (Kd.freshB (g := gb179) (o := .cells #[.int .i64 a2_0, .slice A2_1 l2_1.length c2_1] 25 (0, 0)) (pk BK179) k_ hn_)), Or.elim hk_ (fun hs_ => fun e_ => Nat.not_le.2 hs_ (by rw [e_]; exact GW180.out)) (fun hn_ => (Kd.freshB (g := gb180) (o := .cells #[.int .i64 a3_0, .slice A3_1 l3_1.length c3_1] 25 (0, 0)) (pk BK180) k_ hn_))⟩)) (below_size (by repeat (first | (with_reducible first | exact HB.out | apply below_alloc | apply pw_below_drewN | apply below_drew1 | refine below_set ?_ GE179.out | refine below_set ?_ GE180.out) | exact HB.out))))
      have n2_ := bb BK179 hb
      have n3_ := bb BK180 hb
      have n4_ := Aside0.mk (below_step (by repeat (first | (with_reducible first | exact HB.out | apply below_alloc | apply pw_below_drewN | apply below_drew1 | refine below_set ?_ GE179.out | refine below_set ?_ GE180.out) | exact HB.out)) hb)
      clear HO185
      clear BK179
      clear BK180
      clear HB
      have HO185 := n0_
      have HO189 := n1_
      have BK179 := n2_
      have BK180 := n3_
      have HB := n4_
      clear n0_ n1_ n2_ n3_ n4_
      (try clear hb)
      (try clear hb2)
      (try clear hk)
      (try clear hi)
      (try clear ho0)
      obtain ⟨Ao20, co20, eo20⟩ := Kd.V_slice HO185.out
      (first | subst eo20 | (injection eo20 with f1_ f2_ f3_; have f4_ := f1_.symm; have f5_ := f3_.symm; clear f1_ f2_ f3_; subst f4_; subst f5_))
      obtain ⟨Ao23, co23, eo23⟩ := Kd.V_slice HO189.out
      (first | subst eo23 | (injection eo23 with f1_ f2_ f3_; have f4_ := f1_.symm; have f5_ := f3_.symm; clear f1_ f2_ f3_; subst f4_; subst f5_))
      refine hK.out _ _ ⟨(blk_cell BK179.out 0).trans rfl, (blk_cell BK179.out 1).trans rfl, (blk_cell BK180.out 0).trans rfl, (blk_cell BK180.out 1).trans rfl⟩ (fun hHeld => ?_)
      clear hK K
      refine norm_ (a' := ?_) ?_ ?_
      rotate_left
      · show Act.put _ (some 21) _ = _
        simp only [Act.put, List.setIfInBounds_toArray, List.set_cons_zero, List.set_cons_succ, i64_w, i32_w]
        rfl
      refine pure_ (i := 9) (N := some 1) (v := ?_) (a' := ?_) #[true, true, true, true, true, true, true, true, true, true, false, false] rfl rfl (any_of HT_.out (by kernel_rfl)) (fun _ _ _ h => h) (Or.inl ⟨by rfl, ?_⟩) ?_ ?_
      rotate_left
      · intro w'
        go_simp
        with_reducible rfl
      rotate_left
      · simp only [Act.put, List.setIfInBounds_toArray, List.set_cons_zero, List.set_cons_succ, i64_w, i32_w]
        rfl
      refine last_ (i := 10) (N := none) #[true, true, true, true, true, true, true, true, true, true, true, false] rfl rfl (one_of HT_.out (by kernel_rfl)) (by decide) (fun K hK => ?_)
      have hs19 : w18.cell? ⟨gb179, 0, none⟩ = some (.int .i64 a2_0) := (blk_cell BK179.out 0).trans rfl
      have hfs19 := blk_frozen BK179.out 0
      have hns19_1 := NB180_179.out
      have hms19_1 := NB179_180.out
      have hs21 : w18.cell? ⟨gb179, 1, none⟩ = some (.slice A2_1 l2_1.length c2_1) := (blk_cell BK179.out 1).trans rfl
      have hfs21 := blk_frozen BK179.out 1
      have hns21_1 := NB180_179.out
      have hms21_1 := NB179_180.out
      refine skip_ (w1 := ?_) (by rfl) rfl ?_ ?_
      rotate_left
      · go_simp
        rfl
      refine hK.out _ _ ?_
      clear hK K
      refine last_ (i := 11) (N := none) #[true, true, true, true, true, true, true, true, true, true, true, true] rfl rfl (one_of HT_.out (by kernel_rfl)) (by decide) (fun K hK => ?_)
      have hs22 : w18.cell? ⟨gb180, 0, none⟩ = some (.int .i64 a3_0) := (blk_cell BK180.out 0).trans rfl
      have hfs22 := blk_frozen BK180.out 0
      have hns22_0 := NB179_180.out
      have hms22_0 := NB180_179.out
      have hs24 : w18.cell? ⟨gb180, 1, none⟩ = some (.slice A3_1 l3_1.length c3_1) := (blk_cell BK180.out 1).trans rfl
      have hfs24 := blk_frozen BK180.out 1
      have hns24_0 := NB179_180.out
      have hms24_0 := NB180_179.out
      refine skip_ (w1 := ?_) (by rfl) rfl ?_ ?_
      rotate_left
      · go_simp
        rfl
      refine hK.out _ _ ?_
      clear hK K
      refine done_ (done_of HT_.out (by kernel_rfl)) ?_
      go_upto_region 4 with (first | ((with_reducible refine gate_callee (f := 20) rfl ?_); refine goesL_ (some 24) rfl rfl Try.func20 (by kernel_rfl) rfl #[.int .i64 a0] rfl (by (try simp only [List.map_toArray, List.map_cons, List.map_nil]); first | done | rfl | (simp only [List.length_drop, List.length_take]; rfl)) ?_; (with_reducible refine (bitrow_New.calls a0 t190 t191 t194 _ A10.out).mono ?_); rintro e w25 ⟨v192, rfl, ho0, hb⟩; refine ⟨_, rfl, ?_⟩; have n0_ := Aside0.mk (Kd.V_elder' (by (with_reducible repeat (first | apply Kd.V_alloc | apply Kd.V_drewN | apply Kd.V_drew)); exact (Kd.V_mono (Kd.V_mono (Kd.V_far (p := ⟨gb180, 1, none⟩) (Kd.V_far (p := ⟨gb180, 0, none⟩) (Kd.V_far (p := ⟨gb179, 1, none⟩) (Kd.V_far (p := ⟨gb179, 0, none⟩) (Kd.V_mono (Kd.V_mono HO185.out (fun k_ hk => (⟨hk, hk.1⟩ : _ ∧ k_ ≠ gb179))) (fun k_ hk => (⟨hk, hk.1.2⟩ : _ ∧ k_ ≠ gb180))) (fun _ hk => hk.1.2) (.int .i64 t182)) (fun _ hk => hk.1.2) (.slice Ao20 t183.length co20)) (fun _ hk => hk.2) (.int .i64 t186)) (fun _ hk => hk.2) (.slice Ao23 t187.length co23)) (fun _ h_ => h_.1)) (fun _ h_ => h_.1))) (Kd.R_base ho0) hb); have n1_ := Aside0.mk (Kd.V_elder' (by (with_reducible repeat (first | apply Kd.V_alloc | apply Kd.V_drewN | apply Kd.V_drew)); exact (Kd.V_mono (Kd.V_mono (Kd.V_far (p := ⟨gb180, 1, none⟩) (Kd.V_far (p := ⟨gb180, 0, none⟩) (Kd.V_far (p := ⟨gb179, 1, none⟩) (Kd.V_far (p := ⟨gb179, 0, none⟩) (Kd.V_mono (Kd.V_mono HO189.out (fun k_ hk => (⟨hk, hk.1⟩ : _ ∧ k_ ≠ gb179))) (fun k_ hk => (⟨hk, hk.1.2⟩ : _ ∧ k_ ≠ gb180))) (fun _ hk => hk.1.2) (.int .i64 t182)) (fun _ hk => hk.1.2) (.slice Ao20 t183.length co20)) (fun _ hk => hk.2) (.int .i64 t186)) (fun _ hk => hk.2) (.slice Ao23 t187.length co23)) (fun _ h_ => h_.1)) (fun _ h_ => h_.1))) (Kd.R_base ho0) hb); have n2_ := Aside0.mk (Kd.R_lower ho0 (below_size (by repeat (first | (with_reducible first | exact HB.out | apply below_alloc | apply pw_below_drewN | apply below_drew1 | refine below_set ?_ GE179.out | refine below_set ?_ GE180.out) | exact HB.out)))); have n3_ := Aside0.mk (blk_below (g := gb179) (o := .cells #[.int .i64 t182, .slice Ao20 t183.length co20] 25 (0, 0)) (by (with_reducible repeat (first | refine blk_drewN ?_ _ | refine blk_drew ?_ | refine blk_alloc ?_ _)); refine blk_far ?_ NB179_180.out _; (with_reducible repeat (first | refine blk_drewN ?_ _ | refine blk_drew ?_ | refine blk_alloc ?_ _)); refine blk_far ?_ NB179_180.out _; (with_reducible repeat (first | refine blk_drewN ?_ _ | refine blk_drew ?_ | refine blk_alloc ?_ _)); refine blk_put (cs := #[.int .i64 t182, .slice A2_1 l2_1.length c2_1]) ?_ 1 _ rfl; (with_reducible repeat (first | refine blk_drewN ?_ _ | refine blk_drew ?_ | refine blk_alloc ?_ _)); refine blk_put (cs := #[.int .i64 a2_0, .slice A2_1 l2_1.length c2_1]) ?_ 0 _ rfl; (with_reducible repeat (first | refine blk_drewN ?_ _ | refine blk_drew ?_ | refine blk_alloc ?_ _)); exact BK179.out) hb); have n4_ := Aside0.mk (blk_below (g := gb180) (o := .cells #[.int .i64 t186, .slice Ao23 t187.length co23] 25 (0, 0)) (by (with_reducible repeat (first | refine blk_drewN ?_ _ | refine blk_drew ?_ | refine blk_alloc ?_ _)); refine blk_put (cs := #[.int .i64 t186, .slice A3_1 l3_1.length c3_1]) ?_ 1 _ rfl; (with_reducible repeat (first | refine blk_drewN ?_ _ | refine blk_drew ?_ | refine blk_alloc ?_ _)); refine blk_put (cs := #[.int .i64 a3_0, .slice A3_1 l3_1.length c3_1]) ?_ 0 _ rfl; (with_reducible repeat (first | refine blk_drewN ?_ _ | refine blk_drew ?_ | refine blk_alloc ?_ _)); refine blk_far ?_ NB180_179.out _; (with_reducible repeat (first | refine blk_drewN ?_ _ | refine blk_drew ?_ | refine blk_alloc ?_ _)); refine blk_far ?_ NB180_179.out _; (with_reducible repeat (first | refine blk_drewN ?_ _ | refine blk_drew ?_ | refine blk_alloc ?_ _)); exact BK180.out) hb); have n5_ := Aside0.mk (below_step (by repeat (first | (with_reducible first | exact HB.out | apply below_alloc | apply pw_below_drewN | apply below_drew1 | refine below_set ?_ GE179.out | refine below_set ?_ GE180.out) | exact HB.out)) hb); clear HO185 HO189 BK179 BK180 HB; have HO185 := n0_; have HO189 := n1_; have HO193 := n2_; have BK179 := n3_; have BK180 := n4_; have HB := n5_; clear n0_ n1_ n2_ n3_ n4_ n5_; (try clear hb); (try clear hb2); (try clear hk); (try clear hi); (try clear ho0)) | ((with_reducible refine gate_dst (N := 9) rfl ?_); refine box_event ?hg (N := 9) ?hd (cs := #[.int .i64 0, .slice none 0 0]) (t := 25) ?hr ?_; (case hd => rfl); (case hg => rfl); (case hr => first | (go_simp; done) | (go_simp; rfl)); intro gb195 hg w26 hbox hb; have n0_ := Aside0.mk (Kd.V_below (Kd.V_elderB (pv HO185) gb195 (Nat.le_of_eq hg.symm)) hb); have n1_ := Aside0.mk (Kd.V_below (Kd.V_elderB (pv HO189) gb195 (Nat.le_of_eq hg.symm)) hb); have n2_ := Aside0.mk (Kd.R_below (pr HO193) hb); have n3_ := bb BK179 hb; have n4_ := bb BK180 hb; have n5_ := Aside0.mk (below_step (by repeat (first | (with_reducible first | exact HB.out | apply below_alloc | apply pw_below_drewN | apply below_drew1 | refine below_set ?_ GE179.out | refine below_set ?_ GE180.out) | exact HB.out)) hb); have n6_ := Aside0.mk (hbox); have n7_ := Aside0.mk ((by rw [hg]; exact (below_size (by repeat (first | (with_reducible first | exact HB.out | apply below_alloc | apply pw_below_drewN | apply below_drew1 | refine below_set ?_ GE179.out | refine below_set ?_ GE180.out) | exact HB.out))) : w.heap.size ≤ gb195)); have n8_ := Aside0.mk ((by rw [hg]; exact (below_size (by repeat (first | (with_reducible first | exact HB.out | apply below_alloc | apply pw_below_drewN | apply below_drew1 | refine below_set ?_ GE179.out | refine below_set ?_ GE180.out) | exact HB.out))) : w.heap.size ≤ gb195)); have n9_ := Aside0.mk ((by rw [hg]; exact Nat.ne_of_lt (bl BK179) : gb179 ≠ gb195)); have n10_ := Aside0.mk ((by rw [hg]; exact Nat.ne_of_gt (bl BK179) : gb195 ≠ gb179)); have n11_ := Aside0.mk ((by rw [hg]; exact Nat.ne_of_lt (bl BK180) : gb180 ≠ gb195)); have n12_ := Aside0.mk ((by rw [hg]; exact Nat.ne_of_gt (bl BK180) : gb195 ≠ gb180)); clear HO185 HO189 HO193 BK179 BK180 HB; have HO185 := n0_; have HO189 := n1_; have HO193 := n2_; have BK179 := n3_; have BK180 := n4_; have HB := n5_; have BK195 := n6_; have GW195 := n7_; have GE195 := n8_; have NB179_195 := n9_; have NB195_179 := n10_; have NB180_195 := n11_; have NB195_180 := n12_; clear n0_ n1_ n2_ n3_ n4_ n5_ n6_ n7_ n8_ n9_ n10_ n11_ n12_ hb hbox hg; have hnb27 := NB195_179.out; have hnc27 := NB179_195.out; have hnb28 := NB195_180.out; have hnc28 := NB180_195.out; have hcz29_0 : w26.cell? ⟨gb195, 0, none⟩ = some (.int .i64 0) := (blk_cell BK195.out 0).trans rfl; have hcz29_1 : w26.cell? ⟨gb195, 1, none⟩ = some (.slice none 0 0) := (blk_cell BK195.out 1).trans rfl; have hfz29_0 := blk_frozen BK195.out 0; have hfz29_1 := blk_frozen BK195.out 1; obtain ⟨Ao30, co30, eo30⟩ := Kd.R_slice HO193.out; subst eo30) | ((with_reducible refine gate_callee (f := 21) rfl ?_); refine goesL_ (some 30) rfl rfl Try.func21 (by kernel_rfl) rfl #[.int .i64 a0, .slice A1 (l1.take ((ji5) : Int).toNat).length c1] rfl (by (try simp only [List.map_toArray, List.map_cons, List.map_nil]); first | done | (rw [show (l1.take ((ji5) : Int).toNat).length = (ji5).toNat from (by rw [List.length_take]; have h_ : ((ji5) : Int) ≤ (l1.length : Int) := of_decide_eq_true (by first | (with_reducible assumption) | assumption); omega)] <;> rfl) | (simp only [hji5]; rfl) | rfl | (simp only [List.length_drop, List.length_take]; rfl)) ?_; (with_reducible refine (bitrow_Of.calls k a0 _ _ (l1.take ((ji5) : Int).toNat) t196 t197 t200 _ ?side1 ?side2 A11.out).mono ?_); (case side1 => exact Kd.C_below HR181.out (by repeat (first | (with_reducible first | exact HB.out | apply below_alloc | apply pw_below_drewN | apply below_drew1 | refine below_set ?_ GE179.out | refine below_set ?_ GE180.out | refine below_set ?_ GE195.out) | exact HB.out))); (case side2 => exact HC181.out); rintro e w31 ⟨v198, rfl, ho0, hb⟩; refine ⟨_, rfl, ?_⟩; have n0_ := Aside0.mk (Kd.V_elder' (by (with_reducible repeat (first | apply Kd.V_alloc | apply Kd.V_drewN | apply Kd.V_drew)); exact (Kd.V_mono (Kd.V_far (p := ⟨gb195, 1, none⟩) (Kd.V_far (p := ⟨gb195, 0, none⟩) (Kd.V_mono HO185.out (fun k_ hk => (⟨hk, hk.2⟩ : _ ∧ k_ ≠ gb195))) (fun _ hk => hk.2) (.int .i64 t190)) (fun _ hk => hk.2) (.slice Ao30 t191.length co30)) (fun _ h_ => h_.1))) (Kd.R_base ho0) hb); have n1_ := Aside0.mk (Kd.V_elder' (by (with_reducible repeat (first | apply Kd.V_alloc | apply Kd.V_drewN | apply Kd.V_drew)); exact (Kd.V_mono (Kd.V_far (p := ⟨gb195, 1, none⟩) (Kd.V_far (p := ⟨gb195, 0, none⟩) (Kd.V_mono HO189.out (fun k_ hk => (⟨hk, hk.2⟩ : _ ∧ k_ ≠ gb195))) (fun _ hk => hk.2) (.int .i64 t190)) (fun _ hk => hk.2) (.slice Ao30 t191.length co30)) (fun _ h_ => h_.1))) (Kd.R_base ho0) hb); have n2_ := Aside0.mk (Kd.R_elder' (by (with_reducible repeat (first | apply Kd.R_alloc | apply Kd.R_drewN | apply Kd.R_drew)); exact (Kd.R_mono (Kd.R_far (p := ⟨gb195, 1, none⟩) (Kd.R_far (p := ⟨gb195, 0, none⟩) (Kd.R_types HO193.out BK195.out (by decide)) (fun _ hk => hk.2) (.int .i64 t190)) (fun _ hk => hk.2) (.slice Ao30 t191.length co30)) (fun _ h_ => h_.1))) (Kd.R_base ho0) hb); have n3_ := Aside0.mk (Kd.R_lower (Kd.R_new' ho0 (Kd.R_lt (by (with_reducible repeat (first | apply Kd.R_alloc | apply Kd.R_drewN | apply Kd.R_drew)); exact (Kd.R_mono (Kd.R_far (p := ⟨gb195, 1, none⟩) (Kd.R_far (p := ⟨gb195, 0, none⟩) (Kd.R_types HO193.out BK195.out (by decide)) (fun _ hk => hk.2) (.int .i64 t190)) (fun _ hk => hk.2) (.slice Ao30 t191.length co30)) (fun _ h_ => h_.1))))) (below_size (by repeat (first | (with_reducible first | exact HB.out | apply below_alloc | apply pw_below_drewN | apply below_drew1 | refine below_set ?_ GE179.out | refine below_set ?_ GE180.out | refine below_set ?_ GE195.out) | exact HB.out)))); have n4_ := Aside0.mk (blk_below (g := gb179) (o := .cells #[.int .i64 t182, .slice Ao20 t183.length co20] 25 (0, 0)) (by (with_reducible repeat (first | refine blk_drewN ?_ _ | refine blk_drew ?_ | refine blk_alloc ?_ _)); refine blk_far ?_ NB179_195.out _; (with_reducible repeat (first | refine blk_drewN ?_ _ | refine blk_drew ?_ | refine blk_alloc ?_ _)); refine blk_far ?_ NB179_195.out _; (with_reducible repeat (first | refine blk_drewN ?_ _ | refine blk_drew ?_ | refine blk_alloc ?_ _)); exact BK179.out) hb); have n5_ := Aside0.mk (blk_below (g := gb180) (o := .cells #[.int .i64 t186, .slice Ao23 t187.length co23] 25 (0, 0)) (by (with_reducible repeat (first | refine blk_drewN ?_ _ | refine blk_drew ?_ | refine blk_alloc ?_ _)); refine blk_far ?_ NB180_195.out _; (with_reducible repeat (first | refine blk_drewN ?_ _ | refine blk_drew ?_ | refine blk_alloc ?_ _)); refine blk_far ?_ NB180_195.out _; (with_reducible repeat (first | refine blk_drewN ?_ _ | refine blk_drew ?_ | refine blk_alloc ?_ _)); exact BK180.out) hb); have n6_ := Aside0.mk (blk_below (g := gb195) (o := .cells #[.int .i64 t190, .slice Ao30 t191.length co30] 25 (0, 0)) (by (with_reducible repeat (first | refine blk_drewN ?_ _ | refine blk_drew ?_ | refine blk_alloc ?_ _)); refine blk_put (cs := #[.int .i64 t190, .slice none 0 0]) ?_ 1 _ rfl; (with_reducible repeat (first | refine blk_drewN ?_ _ | refine blk_drew ?_ | refine blk_alloc ?_ _)); refine blk_put (cs := #[.int .i64 0, .slice none 0 0]) ?_ 0 _ rfl; (with_reducible repeat (first | refine blk_drewN ?_ _ | refine blk_drew ?_ | refine blk_alloc ?_ _)); exact BK195.out) hb); have n7_ := Aside0.mk (below_step (by repeat (first | (with_reducible first | exact HB.out | apply below_alloc | apply pw_below_drewN | apply below_drew1 | refine below_set ?_ GE179.out | refine below_set ?_ GE180.out | refine below_set ?_ GE195.out) | exact HB.out)) hb); clear HO185 HO189 HO193 BK179 BK180 BK195 HB; have HO185 := n0_; have HO189 := n1_; have HO193 := n2_; have HO199 := n3_; have BK179 := n4_; have BK180 := n5_; have BK195 := n6_; have HB := n7_; clear n0_ n1_ n2_ n3_ n4_ n5_ n6_ n7_; (try clear hb); (try clear hb2); (try clear hk); (try clear hi); (try clear ho0)) | ((with_reducible refine gate_dst (N := 11) rfl ?_); refine box_event ?hg (N := 11) ?hd (cs := #[.int .i64 0, .slice none 0 0]) (t := 25) ?hr ?_; (case hd => rfl); (case hg => rfl); (case hr => first | (go_simp; done) | (go_simp; rfl)); intro gb201 hg w32 hbox hb; have n0_ := Aside0.mk (Kd.V_below (Kd.V_elderB (pv HO185) gb201 (Nat.le_of_eq hg.symm)) hb); have n1_ := Aside0.mk (Kd.V_below (Kd.V_elderB (pv HO189) gb201 (Nat.le_of_eq hg.symm)) hb); have n2_ := Aside0.mk (Kd.R_below (pr HO193) hb); have n3_ := Aside0.mk (Kd.R_below (pr HO199) hb); have n4_ := bb BK179 hb; have n5_ := bb BK180 hb; have n6_ := bb BK195 hb; have n7_ := Aside0.mk (below_step (by repeat (first | (with_reducible first | exact HB.out | apply below_alloc | apply pw_below_drewN | apply below_drew1 | refine below_set ?_ GE179.out | refine below_set ?_ GE180.out | refine below_set ?_ GE195.out) | exact HB.out)) hb); have n8_ := Aside0.mk (hbox); have n9_ := Aside0.mk ((by rw [hg]; exact (below_size (by repeat (first | (with_reducible first | exact HB.out | apply below_alloc | apply pw_below_drewN | apply below_drew1 | refine below_set ?_ GE179.out | refine below_set ?_ GE180.out | refine below_set ?_ GE195.out) | exact HB.out))) : w.heap.size ≤ gb201)); have n10_ := Aside0.mk ((by rw [hg]; exact (below_size (by repeat (first | (with_reducible first | exact HB.out | apply below_alloc | apply pw_below_drewN | apply below_drew1 | refine below_set ?_ GE179.out | refine below_set ?_ GE180.out | refine below_set ?_ GE195.out) | exact HB.out))) : w.heap.size ≤ gb201)); have n11_ := Aside0.mk ((by rw [hg]; exact Nat.ne_of_lt (bl BK179) : gb179 ≠ gb201)); have n12_ := Aside0.mk ((by rw [hg]; exact Nat.ne_of_gt (bl BK179) : gb201 ≠ gb179)); have n13_ := Aside0.mk ((by rw [hg]; exact Nat.ne_of_lt (bl BK180) : gb180 ≠ gb201)); have n14_ := Aside0.mk ((by rw [hg]; exact Nat.ne_of_gt (bl BK180) : gb201 ≠ gb180)); have n15_ := Aside0.mk ((by rw [hg]; exact Nat.ne_of_lt (bl BK195) : gb195 ≠ gb201)); have n16_ := Aside0.mk ((by rw [hg]; exact Nat.ne_of_gt (bl BK195) : gb201 ≠ gb195)); clear HO185 HO189 HO193 HO199 BK179 BK180 BK195 HB; have HO185 := n0_; have HO189 := n1_; have HO193 := n2_; have HO199 := n3_; have BK179 := n4_; have BK180 := n5_; have BK195 := n6_; have HB := n7_; have BK201 := n8_; have GW201 := n9_; have GE201 := n10_; have NB179_201 := n11_; have NB201_179 := n12_; have NB180_201 := n13_; have NB201_180 := n14_; have NB195_201 := n15_; have NB201_195 := n16_; clear n0_ n1_ n2_ n3_ n4_ n5_ n6_ n7_ n8_ n9_ n10_ n11_ n12_ n13_ n14_ n15_ n16_ hb hbox hg; have hnb33 := NB201_179.out; have hnc33 := NB179_201.out; have hnb34 := NB201_180.out; have hnc34 := NB180_201.out; have hnb35 := NB201_195.out; have hnc35 := NB195_201.out; have hcz36_0 : w32.cell? ⟨gb201, 0, none⟩ = some (.int .i64 0) := (blk_cell BK201.out 0).trans rfl; have hcz36_1 : w32.cell? ⟨gb201, 1, none⟩ = some (.slice none 0 0) := (blk_cell BK201.out 1).trans rfl; have hfz36_0 := blk_frozen BK201.out 0; have hfz36_1 := blk_frozen BK201.out 1; obtain ⟨Ao37, co37, eo37⟩ := Kd.R_slice HO199.out; subst eo37))
      (try simp only [Act.put, List.setIfInBounds_toArray, List.set_cons_zero, List.set_cons_succ])
      go_cut [56] (fun v56 wc => ∃ (kq : Nat) (x56_11 : Bool), v56 = .bool x56_11 ∧ Aside0 (downpourlaw01_BitrowMakes.j0 kq a0 (l1.take ((ji5) : Int).toNat) t194 t200 x56_11 t190 t191 t196 t197 = some r) ∧ Aside0 (kq ≤ k) ∧ Aside0 (Kd.V (Kd.int .u64) 59 wc w.heap.size (fun k_ => some k_ ≠ ((.slice Ao30 t191.length co30) : Value).ownBlock ∧ some k_ ≠ ((.slice Ao37 t197.length co37) : Value).ownBlock ∧ k_ ≠ gb179 ∧ k_ ≠ gb180 ∧ k_ ≠ gb195 ∧ k_ ≠ gb201) (.slice Ao20 t183.length co20) t183) ∧ Aside0 (Kd.V (Kd.int .u64) 59 wc w.heap.size (fun k_ => some k_ ≠ ((.slice Ao30 t191.length co30) : Value).ownBlock ∧ some k_ ≠ ((.slice Ao37 t197.length co37) : Value).ownBlock ∧ k_ ≠ gb179 ∧ k_ ≠ gb180 ∧ k_ ≠ gb195 ∧ k_ ≠ gb201) (.slice Ao23 t187.length co23) t187) ∧ Aside0 (Kd.R (Kd.int .u64) 59 wc w.heap.size (fun k_ => some k_ ≠ ((.slice Ao37 t197.length co37) : Value).ownBlock) (.slice Ao30 t191.length co30) t191) ∧ Aside0 (Kd.R (Kd.int .u64) 59 wc w.heap.size (fun k_ => some k_ ≠ ((.slice Ao30 t191.length co30) : Value).ownBlock) (.slice Ao37 t197.length co37) t197) ∧ Aside0 (wc.heap[gb179]? = some (.cells #[.int .i64 t182, (.slice Ao20 t183.length co20)] 25 (0, 0))) ∧ Aside0 (wc.heap[gb180]? = some (.cells #[.int .i64 t186, (.slice Ao23 t187.length co23)] 25 (0, 0))) ∧ Aside0 (wc.heap[gb195]? = some (.cells #[.int .i64 t190, (.slice Ao30 t191.length co30)] 25 (0, 0))) ∧ Aside0 (wc.heap[gb201]? = some (.cells #[.int .i64 t196, (.slice Ao37 t197.length co37)] 25 (0, 0))) ∧ Aside0 (Below w.heap.size w wc))
      case first =>
        have H := HC12.out
        clear HC12
        replace H := Option.bind_eq_some_iff.mp H
        obtain ⟨t202, A380, H⟩ := H
        replace H : ((downpourref01_Right.f k t182 t183).bind fun t203 => (if (t202 != t203) = true then (downpourlaw01_BitrowMakes.j0 k a0 (l1.take ((ji5) : Int).toNat) t194 t200 true t190 t191 t196 t197) else ((bitrow_Like.f k t182 t183 t186 t187).bind fun t204 => ((downpourref01_Same.f k t182 t183 t186 t187).bind fun t205 => (if (t204 != t205) = true then (downpourlaw01_BitrowMakes.j0 k a0 (l1.take ((ji5) : Int).toNat) t194 t200 true t190 t191 t196 t197) else ((bitrow_Like.f k t182 t183 t182 t183).bind fun t206 => (if t206 = true then ((downpourlaw01_alive.f k).bind fun t207 => (downpourlaw01_BitrowMakes.j0 k a0 (l1.take ((ji5) : Int).toNat) t194 t200 (!t207) t190 t191 t196 t197)) else (downpourlaw01_BitrowMakes.j0 k a0 (l1.take ((ji5) : Int).toNat) t194 t200 true t190 t191 t196 t197)))))))) = some r := H
        have A38 := Aside0.mk A380
        clear A380
        replace H := Option.bind_eq_some_iff.mp H
        obtain ⟨t203, A390, H⟩ := H
        replace H : (if (t202 != t203) = true then (downpourlaw01_BitrowMakes.j0 k a0 (l1.take ((ji5) : Int).toNat) t194 t200 true t190 t191 t196 t197) else ((bitrow_Like.f k t182 t183 t186 t187).bind fun t204 => ((downpourref01_Same.f k t182 t183 t186 t187).bind fun t205 => (if (t204 != t205) = true then (downpourlaw01_BitrowMakes.j0 k a0 (l1.take ((ji5) : Int).toNat) t194 t200 true t190 t191 t196 t197) else ((bitrow_Like.f k t182 t183 t182 t183).bind fun t206 => (if t206 = true then ((downpourlaw01_alive.f k).bind fun t207 => (downpourlaw01_BitrowMakes.j0 k a0 (l1.take ((ji5) : Int).toNat) t194 t200 (!t207) t190 t191 t196 t197)) else (downpourlaw01_BitrowMakes.j0 k a0 (l1.take ((ji5) : Int).toNat) t194 t200 true t190 t191 t196 t197))))))) = some r := H
        have A39 := Aside0.mk A390
        clear A390
        by_cases c40 : (t202 != t203) = true
        · rw [if_pos c40] at H
          have c40b0 : (t202 != t203) = true := c40
          (try (have c40b1 : decide (t202 = t203) = false := by simpa using c40))
          (try (have c40b2 : (t202 == t203) = false := by simpa using c40))
          (try (have c40b3 : ¬ (t202 = t203) := by simpa using c40))
          clear c40
          (first | rw [c40b0] | (simp only [i64_w, i32_w]; rw [c40b0]) | skip)
          have H' := Aside0.mk H
          clear H
          try go_wp2
          have n0_ : Aside0 (Kd.V (Kd.int .u64) 59 ((w32.setCell ⟨gb201, 0, none⟩ (.int .i64 t196)).setCell ⟨gb201, 1, none⟩ (.slice Ao37 t197.length co37)) w.heap.size (fun k_ => some k_ ≠ (.slice Ao30 t191.length co30 : Value).ownBlock ∧ some k_ ≠ (.slice Ao37 t197.length co37 : Value).ownBlock ∧ k_ ≠ gb179 ∧ k_ ≠ gb180 ∧ k_ ≠ gb195 ∧ k_ ≠ gb201) (.slice Ao20 t183.length co20) t183) := ⟨by (with_reducible repeat (first | apply Kd.V_alloc | apply Kd.V_drewN | apply Kd.V_drew)); exact Kd.V_mono (Kd.V_far (p := ⟨gb201, 1, none⟩) (Kd.V_far (p := ⟨gb201, 0, none⟩) (Kd.V_mono HO185.out (fun k_ hk => (⟨hk, hk.2⟩ : _ ∧ k_ ≠ gb201))) (fun _ hk => hk.2) (.int .i64 t196)) (fun _ hk => hk.2) (.slice Ao37 t197.length co37)) (fun _ hk => ⟨hk.1.1.1.1.2, ⟨hk.1.1.2, ⟨hk.1.1.1.1.1.1, ⟨hk.1.1.1.1.1.2, ⟨hk.1.1.1.2, hk.1.2⟩⟩⟩⟩⟩)⟩
          have n1_ : Aside0 (Kd.V (Kd.int .u64) 59 ((w32.setCell ⟨gb201, 0, none⟩ (.int .i64 t196)).setCell ⟨gb201, 1, none⟩ (.slice Ao37 t197.length co37)) w.heap.size (fun k_ => some k_ ≠ (.slice Ao30 t191.length co30 : Value).ownBlock ∧ some k_ ≠ (.slice Ao37 t197.length co37 : Value).ownBlock ∧ k_ ≠ gb179 ∧ k_ ≠ gb180 ∧ k_ ≠ gb195 ∧ k_ ≠ gb201) (.slice Ao23 t187.length co23) t187) := ⟨by (with_reducible repeat (first | apply Kd.V_alloc | apply Kd.V_drewN | apply Kd.V_drew)); exact Kd.V_mono (Kd.V_far (p := ⟨gb201, 1, none⟩) (Kd.V_far (p := ⟨gb201, 0, none⟩) (Kd.V_mono HO189.out (fun k_ hk => (⟨hk, hk.2⟩ : _ ∧ k_ ≠ gb201))) (fun _ hk => hk.2) (.int .i64 t196)) (fun _ hk => hk.2) (.slice Ao37 t197.length co37)) (fun _ hk => ⟨hk.1.1.1.1.2, ⟨hk.1.1.2, ⟨hk.1.1.1.1.1.1, ⟨hk.1.1.1.1.1.2, ⟨hk.1.1.1.2, hk.1.2⟩⟩⟩⟩⟩)⟩
          have n2_ : Aside0 (Kd.R (Kd.int .u64) 59 ((w32.setCell ⟨gb201, 0, none⟩ (.int .i64 t196)).setCell ⟨gb201, 1, none⟩ (.slice Ao37 t197.length co37)) w.heap.size (fun k_ => some k_ ≠ (.slice Ao37 t197.length co37 : Value).ownBlock) (.slice Ao30 t191.length co30) t191) := ⟨by (with_reducible repeat (first | apply Kd.R_alloc | apply Kd.R_drewN | apply Kd.R_drew)); exact Kd.R_mono (Kd.R_far (p := ⟨gb201, 1, none⟩) (Kd.R_far (p := ⟨gb201, 0, none⟩) (Kd.R_types HO193.out BK201.out (by decide)) (fun _ hk => hk.2) (.int .i64 t196)) (fun _ hk => hk.2) (.slice Ao37 t197.length co37)) (fun _ hk => hk.1.2)⟩
          have n3_ : Aside0 (Kd.R (Kd.int .u64) 59 ((w32.setCell ⟨gb201, 0, none⟩ (.int .i64 t196)).setCell ⟨gb201, 1, none⟩ (.slice Ao37 t197.length co37)) w.heap.size (fun k_ => some k_ ≠ (.slice Ao30 t191.length co30 : Value).ownBlock) (.slice Ao37 t197.length co37) t197) := ⟨by (with_reducible repeat (first | apply Kd.R_alloc | apply Kd.R_drewN | apply Kd.R_drew)); exact Kd.R_mono (Kd.R_far (p := ⟨gb201, 1, none⟩) (Kd.R_far (p := ⟨gb201, 0, none⟩) (Kd.R_types HO199.out BK201.out (by decide)) (fun _ hk => hk.2) (.int .i64 t196)) (fun _ hk => hk.2) (.slice Ao37 t197.length co37)) (fun _ hk => hk.1.2)⟩
          have n4_ : Aside0 (((w32.setCell ⟨gb201, 0, none⟩ (.int .i64 t196)).setCell ⟨gb201, 1, none⟩ (.slice Ao37 t197.length co37)).heap[gb179]? = some (.cells #[.int .i64 t182, .slice Ao20 t183.length co20] 25 (0, 0))) := ⟨by (with_reducible repeat (first | refine blk_drewN ?_ _ | refine blk_drew ?_ | refine blk_alloc ?_ _)); refine blk_far ?_ NB179_201.out _; (with_reducible repeat (first | refine blk_drewN ?_ _ | refine blk_drew ?_ | refine blk_alloc ?_ _)); refine blk_far ?_ NB179_201.out _; (with_reducible repeat (first | refine blk_drewN ?_ _ | refine blk_drew ?_ | refine blk_alloc ?_ _)); exact BK179.out⟩
          have n5_ : Aside0 (((w32.setCell ⟨gb201, 0, none⟩ (.int .i64 t196)).setCell ⟨gb201, 1, none⟩ (.slice Ao37 t197.length co37)).heap[gb180]? = some (.cells #[.int .i64 t186, .slice Ao23 t187.length co23] 25 (0, 0))) := ⟨by (with_reducible repeat (first | refine blk_drewN ?_ _ | refine blk_drew ?_ | refine blk_alloc ?_ _)); refine blk_far ?_ NB180_201.out _; (with_reducible repeat (first | refine blk_drewN ?_ _ | refine blk_drew ?_ | refine blk_alloc ?_ _)); refine blk_far ?_ NB180_201.out _; (with_reducible repeat (first | refine blk_drewN ?_ _ | refine blk_drew ?_ | refine blk_alloc ?_ _)); exact BK180.out⟩
          have n6_ : Aside0 (((w32.setCell ⟨gb201, 0, none⟩ (.int .i64 t196)).setCell ⟨gb201, 1, none⟩ (.slice Ao37 t197.length co37)).heap[gb195]? = some (.cells #[.int .i64 t190, .slice Ao30 t191.length co30] 25 (0, 0))) := ⟨by (with_reducible repeat (first | refine blk_drewN ?_ _ | refine blk_drew ?_ | refine blk_alloc ?_ _)); refine blk_far ?_ NB195_201.out _; (with_reducible repeat (first | refine blk_drewN ?_ _ | refine blk_drew ?_ | refine blk_alloc ?_ _)); refine blk_far ?_ NB195_201.out _; (with_reducible repeat (first | refine blk_drewN ?_ _ | refine blk_drew ?_ | refine blk_alloc ?_ _)); exact BK195.out⟩
          have n7_ : Aside0 (((w32.setCell ⟨gb201, 0, none⟩ (.int .i64 t196)).setCell ⟨gb201, 1, none⟩ (.slice Ao37 t197.length co37)).heap[gb201]? = some (.cells #[.int .i64 t196, .slice Ao37 t197.length co37] 25 (0, 0))) := ⟨by (with_reducible repeat (first | refine blk_drewN ?_ _ | refine blk_drew ?_ | refine blk_alloc ?_ _)); refine blk_put (cs := #[.int .i64 t196, .slice none 0 0]) ?_ 1 _ rfl; (with_reducible repeat (first | refine blk_drewN ?_ _ | refine blk_drew ?_ | refine blk_alloc ?_ _)); refine blk_put (cs := #[.int .i64 0, .slice none 0 0]) ?_ 0 _ rfl; (with_reducible repeat (first | refine blk_drewN ?_ _ | refine blk_drew ?_ | refine blk_alloc ?_ _)); exact BK201.out⟩
          have n8_ : Aside0 (Below w.heap.size w ((w32.setCell ⟨gb201, 0, none⟩ (.int .i64 t196)).setCell ⟨gb201, 1, none⟩ (.slice Ao37 t197.length co37))) := ⟨by repeat (first | (with_reducible first | exact HB.out | apply below_alloc | apply pw_below_drewN | apply below_drew1 | refine below_set ?_ GE179.out | refine below_set ?_ GE180.out | refine below_set ?_ GE195.out | refine below_set ?_ GE201.out) | exact HB.out)⟩
          (try clear HO185)
          (try clear HO189)
          (try clear HO193)
          (try clear HO199)
          (try clear BK179)
          (try clear BK180)
          (try clear BK195)
          (try clear BK201)
          (try clear HB)
          generalize ((w32.setCell ⟨gb201, 0, none⟩ (.int .i64 t196)).setCell ⟨gb201, 1, none⟩ (.slice Ao37 t197.length co37)) = w41 at n0_ n1_ n2_ n3_ n4_ n5_ n6_ n7_ n8_ ⊢
          have HO185 := n0_
          have HO189 := n1_
          have HO193 := n2_
          have HO199 := n3_
          have BK179 := n4_
          have BK180 := n5_
          have BK195 := n6_
          have BK201 := n7_
          have HB := n8_
          clear n0_ n1_ n2_ n3_ n4_ n5_ n6_ n7_ n8_
          have n0_ := Aside0.mk (Kd.V_drew HO185.out)
          have n1_ := Aside0.mk (Kd.V_drew HO189.out)
          have n2_ := Aside0.mk (Kd.R_drew HO193.out)
          have n3_ := Aside0.mk (Kd.R_drew HO199.out)
          have n4_ := Aside0.mk (blk_drew BK179.out)
          have n5_ := Aside0.mk (blk_drew BK180.out)
          have n6_ := Aside0.mk (blk_drew BK195.out)
          have n7_ := Aside0.mk (blk_drew BK201.out)
          have n8_ := Aside0.mk (below_drew1 HB.out)
          clear HO185
          clear HO189
          clear HO193
          clear HO199
          clear BK179
          clear BK180
          clear BK195
          clear BK201
          clear HB
          have HO185 := n0_
          have HO189 := n1_
          have HO193 := n2_
          have HO199 := n3_
          have BK179 := n4_
          have BK180 := n5_
          have BK195 := n6_
          have BK201 := n7_
          have HB := n8_
          clear n0_ n1_ n2_ n3_ n4_ n5_ n6_ n7_ n8_
          refine start_ (n := 24) (S := fun w' => w'.cell? ⟨gb179, 0, none⟩ = some (.int .i64 t182) ∧ w'.cell? ⟨gb179, 1, none⟩ = some (.slice Ao20 t183.length co20)) (ds := []) #[false, false, false, false, false, false, false, false, false, false, false, false, false, false, false, false, false, false, false, false, false, false, false, false] (by kernel_rfl) rfl rfl ⟨(blk_cell BK179.out 0).trans rfl, (blk_cell BK179.out 1).trans rfl⟩ (fun hHeld => ?_); refine with_tabW downpourlaw01_BitrowMakes.tab4 downpourlaw01_BitrowMakes.bits4 (fun HT_ HW_ => ?_)
          generalize w41.drew = w42 at HO185 HO189 HO193 HO199 BK179 BK180 BK195 BK201 HB hHeld ⊢
          refine take_ (i := 0) (N := some 33) (v := ?_) (a' := ?_) #[true, false, false, false, false, false, false, false, false, false, false, false, false, false, false, false, false, false, false, false, false, false, false, false] rfl rfl (take_ofW HT_.out HW_.out (by kernel_rfl)) (fun _ _ _ h => h) (Or.inl ⟨by rfl, ?_⟩) hHeld ?_ ?_
          rotate_left
          · rintro w' ⟨s0, s1⟩
            go_simp
            with_reducible rfl
          rotate_left
          · simp only [Act.put, List.setIfInBounds_toArray, List.set_cons_zero, List.set_cons_succ, i64_w, i32_w]
            rfl
          refine take_ (i := 2) (N := some 35) (v := ?_) (a' := ?_) #[true, false, true, false, false, false, false, false, false, false, false, false, false, false, false, false, false, false, false, false, false, false, false, false] rfl rfl (take_ofW HT_.out HW_.out (by kernel_rfl)) (fun _ _ _ h => h) (Or.inl ⟨by rfl, ?_⟩) hHeld ?_ ?_
          rotate_left
          · rintro w' ⟨s0, s1⟩
            go_simp
            with_reducible rfl
          rotate_left
          · simp only [Act.put, List.setIfInBounds_toArray, List.set_cons_zero, List.set_cons_succ, i64_w, i32_w]
            rfl
          refine one_ (i := 1) (N := some 34) #[true, true, true, false, false, false, false, false, false, false, false, false, false, false, false, false, false, false, false, false, false, false, false, false] rfl rfl (one_of HT_.out (by kernel_rfl)) (by decide) (fun K hK => ?_)
          refine goes_ Try.func22 (by kernel_rfl) rfl #[.agg #[.int .i64 t182, .slice Ao20 t183.length co20]] (by rfl) rfl rfl (by (try simp only [List.map_toArray, List.map_cons, List.map_nil]); first | done | rfl | (simp only [List.length_drop, List.length_take]; rfl)) ?_
          with_reducible refine (bitrow_Right.calls t182 _ _ t183 t202 _ ?side1 ?side2 A38.out).mono ?_
          (case side1 => repeat (first | exact (Kd.V_reads' HO185.out).2.2 | (with_reducible refine Kd.C_alloc ?_ _) | (with_reducible refine Kd.C_drewN ?_ _) | (with_reducible refine Kd.C_drew ?_)))
          (case side2 => exact (Kd.V_reads' HO185.out).2.1)
          rintro e w43 ⟨rfl, hb⟩
          refine ⟨_, rfl, ?_⟩
          have n0_ := Aside0.mk (Kd.V_below (pv HO185) hb)
          have n1_ := Aside0.mk (Kd.V_below (pv HO189) hb)
          have n2_ := Aside0.mk (Kd.R_below (pr HO193) hb)
          have n3_ := Aside0.mk (Kd.R_below (pr HO199) hb)
          have n4_ := bb BK179 hb
          have n5_ := bb BK180 hb
          have n6_ := bb BK195 hb
          have n7_ := bb BK201 hb
          have n8_ := Aside0.mk (below_step (by repeat (first | (with_reducible first | exact HB.out | apply below_alloc | apply pw_below_drewN | apply below_drew1 | refine below_set ?_ GE179.out | refine below_set ?_ GE180.out | refine below_set ?_ GE195.out | refine below_set ?_ GE201.out) | exact HB.out)) hb)
          clear HO185
          clear HO189
          clear HO193
          clear HO199
          clear BK179
          clear BK180
          clear BK195
          clear BK201
          clear HB
          have HO185 := n0_
          have HO189 := n1_
          have HO193 := n2_
          have HO199 := n3_
          have BK179 := n4_
          have BK180 := n5_
          have BK195 := n6_
          have BK201 := n7_
          have HB := n8_
          clear n0_ n1_ n2_ n3_ n4_ n5_ n6_ n7_ n8_
          (try clear hb)
          (try clear hb2)
          (try clear hk)
          (try clear hi)
          refine hK.out _ _ ⟨(blk_cell BK179.out 0).trans rfl, (blk_cell BK179.out 1).trans rfl⟩ (fun hHeld => ?_)
          clear hK K
          refine norm_ (a' := ?_) ?_ ?_
          rotate_left
          · show Act.put _ (some 34) _ = _
            simp only [Act.put, List.setIfInBounds_toArray, List.set_cons_zero, List.set_cons_succ, i64_w, i32_w]
            rfl
          refine one_ (i := 3) (N := some 36) #[true, true, true, true, false, false, false, false, false, false, false, false, false, false, false, false, false, false, false, false, false, false, false, false] rfl rfl (one_of HT_.out (by kernel_rfl)) (by decide) (fun K hK => ?_)
          refine goes_ Try.func23 (by kernel_rfl) rfl #[.agg #[.int .i64 t182, .slice Ao20 t183.length co20]] (by rfl) rfl rfl (by (try simp only [List.map_toArray, List.map_cons, List.map_nil]); first | done | rfl | (simp only [List.length_drop, List.length_take]; rfl)) ?_
          with_reducible refine (downpourref01_Right.calls k t182 _ _ t183 t203 _ ?side1 ?side2 A39.out).mono ?_
          (case side1 => repeat (first | exact (Kd.V_reads' HO185.out).2.2 | (with_reducible refine Kd.C_alloc ?_ _) | (with_reducible refine Kd.C_drewN ?_ _) | (with_reducible refine Kd.C_drew ?_)))
          (case side2 => exact (Kd.V_reads' HO185.out).2.1)
          rintro e w44 ⟨rfl, hb⟩
          refine ⟨_, rfl, ?_⟩
          have n0_ := Aside0.mk (Kd.V_below (pv HO185) hb)
          have n1_ := Aside0.mk (Kd.V_below (pv HO189) hb)
          have n2_ := Aside0.mk (Kd.R_below (pr HO193) hb)
          have n3_ := Aside0.mk (Kd.R_below (pr HO199) hb)
          have n4_ := bb BK179 hb
          have n5_ := bb BK180 hb
          have n6_ := bb BK195 hb
          have n7_ := bb BK201 hb
          have n8_ := Aside0.mk (below_step (by repeat (first | (with_reducible first | exact HB.out | apply below_alloc | apply pw_below_drewN | apply below_drew1 | refine below_set ?_ GE179.out | refine below_set ?_ GE180.out | refine below_set ?_ GE195.out | refine below_set ?_ GE201.out) | exact HB.out)) hb)
          clear HO185
          clear HO189
          clear HO193
          clear HO199
          clear BK179
          clear BK180
          clear BK195
          clear BK201
          clear HB
          have HO185 := n0_
          have HO189 := n1_
          have HO193 := n2_
          have HO199 := n3_
          have BK179 := n4_
          have BK180 := n5_
          have BK195 := n6_
          have BK201 := n7_
          have HB := n8_
          clear n0_ n1_ n2_ n3_ n4_ n5_ n6_ n7_ n8_
          (try clear hb)
          (try clear hb2)
          (try clear hk)
          (try clear hi)
          refine hK.out _ _ ⟨(blk_cell BK179.out 0).trans rfl, (blk_cell BK179.out 1).trans rfl⟩ (fun hHeld => ?_)
          clear hK K
          refine norm_ (a' := ?_) ?_ ?_
          rotate_left
          · show Act.put _ (some 36) _ = _
            simp only [Act.put, List.setIfInBounds_toArray, List.set_cons_zero, List.set_cons_succ, i64_w, i32_w]
            rfl
          refine pure_ (i := 4) (N := some 37) (v := ?_) (a' := ?_) #[true, true, true, true, true, false, false, false, false, false, false, false, false, false, false, false, false, false, false, false, false, false, false, false] rfl rfl (any_of HT_.out (by kernel_rfl)) (fun _ _ _ h => h) (Or.inl ⟨by rfl, ?_⟩) ?_ ?_
          rotate_left
          · intro w'
            go_simp
            with_reducible rfl
          rotate_left
          · simp only [Act.put, List.setIfInBounds_toArray, List.set_cons_zero, List.set_cons_succ, i64_w, i32_w]
            rfl
          refine pure_ (i := 5) (N := some 38) (v := ?_) (a' := ?_) #[true, true, true, true, true, true, false, false, false, false, false, false, false, false, false, false, false, false, false, false, false, false, false, false] rfl rfl (any_of HT_.out (by kernel_rfl)) (fun _ _ _ h => h) (Or.inl ⟨by rfl, ?_⟩) ?_ ?_
          rotate_left
          · intro w'
            go_simp
            with_reducible rfl
          rotate_left
          · simp only [Act.put, List.setIfInBounds_toArray, List.set_cons_zero, List.set_cons_succ, i64_w, i32_w]
            rfl
          refine pure_ (i := 6) (N := some 39) (v := undef) (a' := ?_) #[true, true, true, true, true, true, true, false, false, false, false, false, false, false, false, false, false, false, false, false, false, false, false, false] rfl rfl (any_of HT_.out (by kernel_rfl)) (fun _ _ _ h => h) (Or.inr ⟨by rfl, rfl⟩) ?_ ?_
          rotate_left
          · simp only [Act.put, List.setIfInBounds_toArray, List.set_cons_zero, List.set_cons_succ, i64_w, i32_w]
            rfl
          refine pure_ (i := 7) (N := some 40) (v := undef) (a' := ?_) #[true, true, true, true, true, true, true, true, false, false, false, false, false, false, false, false, false, false, false, false, false, false, false, false] rfl rfl (any_of HT_.out (by kernel_rfl)) (fun _ _ _ h => h) (Or.inr ⟨by rfl, rfl⟩) ?_ ?_
          rotate_left
          · simp only [Act.put, List.setIfInBounds_toArray, List.set_cons_zero, List.set_cons_succ, i64_w, i32_w]
            rfl
          refine pure_ (i := 8) (N := some 41) (v := undef) (a' := ?_) #[true, true, true, true, true, true, true, true, true, false, false, false, false, false, false, false, false, false, false, false, false, false, false, false] rfl rfl (any_of HT_.out (by kernel_rfl)) (fun _ _ _ h => h) (Or.inr ⟨by rfl, rfl⟩) ?_ ?_
          rotate_left
          · simp only [Act.put, List.setIfInBounds_toArray, List.set_cons_zero, List.set_cons_succ, i64_w, i32_w]
            rfl
          refine pure_ (i := 9) (N := some 42) (v := undef) (a' := ?_) #[true, true, true, true, true, true, true, true, true, true, false, false, false, false, false, false, false, false, false, false, false, false, false, false] rfl rfl (any_of HT_.out (by kernel_rfl)) (fun _ _ _ h => h) (Or.inr ⟨by rfl, rfl⟩) ?_ ?_
          rotate_left
          · simp only [Act.put, List.setIfInBounds_toArray, List.set_cons_zero, List.set_cons_succ, i64_w, i32_w]
            rfl
          refine pure_ (i := 10) (N := some 43) (v := undef) (a' := ?_) #[true, true, true, true, true, true, true, true, true, true, true, false, false, false, false, false, false, false, false, false, false, false, false, false] rfl rfl (any_of HT_.out (by kernel_rfl)) (fun _ _ _ h => h) (Or.inr ⟨by rfl, rfl⟩) ?_ ?_
          rotate_left
          · simp only [Act.put, List.setIfInBounds_toArray, List.set_cons_zero, List.set_cons_succ, i64_w, i32_w]
            rfl
          refine pure_ (i := 11) (N := some 44) (v := undef) (a' := ?_) #[true, true, true, true, true, true, true, true, true, true, true, true, false, false, false, false, false, false, false, false, false, false, false, false] rfl rfl (any_of HT_.out (by kernel_rfl)) (fun _ _ _ h => h) (Or.inr ⟨by rfl, rfl⟩) ?_ ?_
          rotate_left
          · simp only [Act.put, List.setIfInBounds_toArray, List.set_cons_zero, List.set_cons_succ, i64_w, i32_w]
            rfl
          refine pure_ (i := 12) (N := some 45) (v := undef) (a' := ?_) #[true, true, true, true, true, true, true, true, true, true, true, true, true, false, false, false, false, false, false, false, false, false, false, false] rfl rfl (any_of HT_.out (by kernel_rfl)) (fun _ _ _ h => h) (Or.inr ⟨by rfl, rfl⟩) ?_ ?_
          rotate_left
          · simp only [Act.put, List.setIfInBounds_toArray, List.set_cons_zero, List.set_cons_succ, i64_w, i32_w]
            rfl
          refine pure_ (i := 13) (N := some 46) (v := ?_) (a' := ?_) #[true, true, true, true, true, true, true, true, true, true, true, true, true, true, false, false, false, false, false, false, false, false, false, false] rfl rfl (any_of HT_.out (by kernel_rfl)) (fun _ _ _ h => h) (Or.inl ⟨by rfl, ?_⟩) ?_ ?_
          rotate_left
          · intro w'
            go_simp
            with_reducible rfl
          rotate_left
          · simp only [Act.put, List.setIfInBounds_toArray, List.set_cons_zero, List.set_cons_succ, i64_w, i32_w]
            rfl
          refine pure_ (i := 14) (N := some 47) (v := ?_) (a' := ?_) #[true, true, true, true, true, true, true, true, true, true, true, true, true, true, true, false, false, false, false, false, false, false, false, false] rfl rfl (any_of HT_.out (by kernel_rfl)) (fun _ _ _ h => h) (Or.inl ⟨by rfl, ?_⟩) ?_ ?_
          rotate_left
          · intro w'
            go_simp
            with_reducible rfl
          rotate_left
          · simp only [Act.put, List.setIfInBounds_toArray, List.set_cons_zero, List.set_cons_succ, i64_w, i32_w]
            rfl
          refine pure_ (i := 15) (N := some 48) (v := undef) (a' := ?_) #[true, true, true, true, true, true, true, true, true, true, true, true, true, true, true, true, false, false, false, false, false, false, false, false] rfl rfl (any_of HT_.out (by kernel_rfl)) (fun _ _ _ h => h) (Or.inr ⟨by rfl, rfl⟩) ?_ ?_
          rotate_left
          · simp only [Act.put, List.setIfInBounds_toArray, List.set_cons_zero, List.set_cons_succ, i64_w, i32_w]
            rfl
          refine pure_ (i := 16) (N := some 49) (v := undef) (a' := ?_) #[true, true, true, true, true, true, true, true, true, true, true, true, true, true, true, true, true, false, false, false, false, false, false, false] rfl rfl (any_of HT_.out (by kernel_rfl)) (fun _ _ _ h => h) (Or.inr ⟨by rfl, rfl⟩) ?_ ?_
          rotate_left
          · simp only [Act.put, List.setIfInBounds_toArray, List.set_cons_zero, List.set_cons_succ, i64_w, i32_w]
            rfl
          refine pure_ (i := 17) (N := some 50) (v := undef) (a' := ?_) #[true, true, true, true, true, true, true, true, true, true, true, true, true, true, true, true, true, true, false, false, false, false, false, false] rfl rfl (any_of HT_.out (by kernel_rfl)) (fun _ _ _ h => h) (Or.inr ⟨by rfl, rfl⟩) ?_ ?_
          rotate_left
          · simp only [Act.put, List.setIfInBounds_toArray, List.set_cons_zero, List.set_cons_succ, i64_w, i32_w]
            rfl
          refine pure_ (i := 18) (N := some 51) (v := undef) (a' := ?_) #[true, true, true, true, true, true, true, true, true, true, true, true, true, true, true, true, true, true, true, false, false, false, false, false] rfl rfl (any_of HT_.out (by kernel_rfl)) (fun _ _ _ h => h) (Or.inr ⟨by rfl, rfl⟩) ?_ ?_
          rotate_left
          · simp only [Act.put, List.setIfInBounds_toArray, List.set_cons_zero, List.set_cons_succ, i64_w, i32_w]
            rfl
          refine pure_ (i := 19) (N := some 52) (v := ?_) (a' := ?_) #[true, true, true, true, true, true, true, true, true, true, true, true, true, true, true, true, true, true, true, true, false, false, false, false] rfl rfl (any_of HT_.out (by kernel_rfl)) (fun _ _ _ h => h) (Or.inl ⟨by rfl, ?_⟩) ?_ ?_
          rotate_left
          · intro w'
            go_simp
            with_reducible rfl
          rotate_left
          · simp only [Act.put, List.setIfInBounds_toArray, List.set_cons_zero, List.set_cons_succ, i64_w, i32_w]
            rfl
          refine pure_ (i := 20) (N := some 53) (v := ?_) (a' := ?_) #[true, true, true, true, true, true, true, true, true, true, true, true, true, true, true, true, true, true, true, true, true, false, false, false] rfl rfl (any_of HT_.out (by kernel_rfl)) (fun _ _ _ h => h) (Or.inl ⟨by rfl, ?_⟩) ?_ ?_
          rotate_left
          · intro w'
            go_simp
            with_reducible rfl
          rotate_left
          · simp only [Act.put, List.setIfInBounds_toArray, List.set_cons_zero, List.set_cons_succ, i64_w, i32_w]
            rfl
          refine pure_ (i := 21) (N := some 54) (v := undef) (a' := ?_) #[true, true, true, true, true, true, true, true, true, true, true, true, true, true, true, true, true, true, true, true, true, true, false, false] rfl rfl (any_of HT_.out (by kernel_rfl)) (fun _ _ _ h => h) (Or.inr ⟨by rfl, rfl⟩) ?_ ?_
          rotate_left
          · simp only [Act.put, List.setIfInBounds_toArray, List.set_cons_zero, List.set_cons_succ, i64_w, i32_w]
            rfl
          refine pure_ (i := 22) (N := some 55) (v := undef) (a' := ?_) #[true, true, true, true, true, true, true, true, true, true, true, true, true, true, true, true, true, true, true, true, true, true, true, false] rfl rfl (any_of HT_.out (by kernel_rfl)) (fun _ _ _ h => h) (Or.inr ⟨by rfl, rfl⟩) ?_ ?_
          rotate_left
          · simp only [Act.put, List.setIfInBounds_toArray, List.set_cons_zero, List.set_cons_succ, i64_w, i32_w]
            rfl
          refine pure_ (i := 23) (N := some 56) (v := ?_) (a' := ?_) #[true, true, true, true, true, true, true, true, true, true, true, true, true, true, true, true, true, true, true, true, true, true, true, true] rfl rfl (any_of HT_.out (by kernel_rfl)) (fun _ _ _ h => h) (Or.inl ⟨by rfl, ?_⟩) ?_ ?_
          rotate_left
          · intro w'
            go_simp
            with_reducible rfl
          rotate_left
          · simp only [Act.put, List.setIfInBounds_toArray, List.set_cons_zero, List.set_cons_succ, i64_w, i32_w]
            rfl
          refine done_ (done_of HT_.out (by kernel_rfl)) ?_
          try go_wp2
          go_meet
          case rel => exact ⟨_, (true), (by first | rfl | (simp; done) | (simp [*]; done)), H', ⟨by first | omega | exact Nat.le_refl _⟩, ⟨by (with_reducible repeat (first | apply Kd.V_alloc | apply Kd.V_drewN | apply Kd.V_drew)); exact HO185.out⟩, ⟨by (with_reducible repeat (first | apply Kd.V_alloc | apply Kd.V_drewN | apply Kd.V_drew)); exact HO189.out⟩, ⟨by (with_reducible repeat (first | apply Kd.R_alloc | apply Kd.R_drewN | apply Kd.R_drew)); exact HO193.out⟩, ⟨by (with_reducible repeat (first | apply Kd.R_alloc | apply Kd.R_drewN | apply Kd.R_drew)); exact HO199.out⟩, ⟨by (with_reducible repeat (first | refine blk_drewN ?_ _ | refine blk_drew ?_ | refine blk_alloc ?_ _)); exact BK179.out⟩, ⟨by (with_reducible repeat (first | refine blk_drewN ?_ _ | refine blk_drew ?_ | refine blk_alloc ?_ _)); exact BK180.out⟩, ⟨by (with_reducible repeat (first | refine blk_drewN ?_ _ | refine blk_drew ?_ | refine blk_alloc ?_ _)); exact BK195.out⟩, ⟨by (with_reducible repeat (first | refine blk_drewN ?_ _ | refine blk_drew ?_ | refine blk_alloc ?_ _)); exact BK201.out⟩, ⟨by repeat (first | (with_reducible first | exact HB.out | apply below_alloc | apply pw_below_drewN | apply below_drew1 | refine below_set ?_ GE179.out | refine below_set ?_ GE180.out | refine below_set ?_ GE195.out | refine below_set ?_ GE201.out) | exact HB.out)⟩⟩
        · rw [if_neg c40] at H
          have c40b0 : (t202 != t203) = false := by simpa using c40
          (try (have c40b1 : decide (t202 = t203) = true := by simpa using c40))
          (try (have c40b2 : (t202 == t203) = true := by simpa using c40))
          clear c40
          (first | rw [c40b0] | (simp only [i64_w, i32_w]; rw [c40b0]) | skip)
          replace H := Option.bind_eq_some_iff.mp H
          obtain ⟨t204, A450, H⟩ := H
          replace H : ((downpourref01_Same.f k t182 t183 t186 t187).bind fun t205 => (if (t204 != t205) = true then (downpourlaw01_BitrowMakes.j0 k a0 (l1.take ((ji5) : Int).toNat) t194 t200 true t190 t191 t196 t197) else ((bitrow_Like.f k t182 t183 t182 t183).bind fun t206 => (if t206 = true then ((downpourlaw01_alive.f k).bind fun t207 => (downpourlaw01_BitrowMakes.j0 k a0 (l1.take ((ji5) : Int).toNat) t194 t200 (!t207) t190 t191 t196 t197)) else (downpourlaw01_BitrowMakes.j0 k a0 (l1.take ((ji5) : Int).toNat) t194 t200 true t190 t191 t196 t197))))) = some r := H
          have A45 := Aside0.mk A450
          clear A450
          replace H := Option.bind_eq_some_iff.mp H
          obtain ⟨t205, A460, H⟩ := H
          replace H : (if (t204 != t205) = true then (downpourlaw01_BitrowMakes.j0 k a0 (l1.take ((ji5) : Int).toNat) t194 t200 true t190 t191 t196 t197) else ((bitrow_Like.f k t182 t183 t182 t183).bind fun t206 => (if t206 = true then ((downpourlaw01_alive.f k).bind fun t207 => (downpourlaw01_BitrowMakes.j0 k a0 (l1.take ((ji5) : Int).toNat) t194 t200 (!t207) t190 t191 t196 t197)) else (downpourlaw01_BitrowMakes.j0 k a0 (l1.take ((ji5) : Int).toNat) t194 t200 true t190 t191 t196 t197)))) = some r := H
          have A46 := Aside0.mk A460
          clear A460
          by_cases c47 : (t204 != t205) = true
          · rw [if_pos c47] at H
            have c47b0 : (t204 != t205) = true := c47
            (try (have c47b1 : decide (t204 = t205) = false := by simpa using c47))
            (try (have c47b2 : (t204 == t205) = false := by simpa using c47))
            (try (have c47b3 : ¬ (t204 = t205) := by simpa using c47))
            clear c47
            have H' := Aside0.mk H
            clear H
            try go_wp2
            have n0_ : Aside0 (Kd.V (Kd.int .u64) 59 ((w32.setCell ⟨gb201, 0, none⟩ (.int .i64 t196)).setCell ⟨gb201, 1, none⟩ (.slice Ao37 t197.length co37)) w.heap.size (fun k_ => some k_ ≠ (.slice Ao30 t191.length co30 : Value).ownBlock ∧ some k_ ≠ (.slice Ao37 t197.length co37 : Value).ownBlock ∧ k_ ≠ gb179 ∧ k_ ≠ gb180 ∧ k_ ≠ gb195 ∧ k_ ≠ gb201) (.slice Ao20 t183.length co20) t183) := ⟨by (with_reducible repeat (first | apply Kd.V_alloc | apply Kd.V_drewN | apply Kd.V_drew)); exact Kd.V_mono (Kd.V_far (p := ⟨gb201, 1, none⟩) (Kd.V_far (p := ⟨gb201, 0, none⟩) (Kd.V_mono HO185.out (fun k_ hk => (⟨hk, hk.2⟩ : _ ∧ k_ ≠ gb201))) (fun _ hk => hk.2) (.int .i64 t196)) (fun _ hk => hk.2) (.slice Ao37 t197.length co37)) (fun _ hk => ⟨hk.1.1.1.1.2, ⟨hk.1.1.2, ⟨hk.1.1.1.1.1.1, ⟨hk.1.1.1.1.1.2, ⟨hk.1.1.1.2, hk.1.2⟩⟩⟩⟩⟩)⟩
            have n1_ : Aside0 (Kd.V (Kd.int .u64) 59 ((w32.setCell ⟨gb201, 0, none⟩ (.int .i64 t196)).setCell ⟨gb201, 1, none⟩ (.slice Ao37 t197.length co37)) w.heap.size (fun k_ => some k_ ≠ (.slice Ao30 t191.length co30 : Value).ownBlock ∧ some k_ ≠ (.slice Ao37 t197.length co37 : Value).ownBlock ∧ k_ ≠ gb179 ∧ k_ ≠ gb180 ∧ k_ ≠ gb195 ∧ k_ ≠ gb201) (.slice Ao23 t187.length co23) t187) := ⟨by (with_reducible repeat (first | apply Kd.V_alloc | apply Kd.V_drewN | apply Kd.V_drew)); exact Kd.V_mono (Kd.V_far (p := ⟨gb201, 1, none⟩) (Kd.V_far (p := ⟨gb201, 0, none⟩) (Kd.V_mono HO189.out (fun k_ hk => (⟨hk, hk.2⟩ : _ ∧ k_ ≠ gb201))) (fun _ hk => hk.2) (.int .i64 t196)) (fun _ hk => hk.2) (.slice Ao37 t197.length co37)) (fun _ hk => ⟨hk.1.1.1.1.2, ⟨hk.1.1.2, ⟨hk.1.1.1.1.1.1, ⟨hk.1.1.1.1.1.2, ⟨hk.1.1.1.2, hk.1.2⟩⟩⟩⟩⟩)⟩
            have n2_ : Aside0 (Kd.R (Kd.int .u64) 59 ((w32.setCell ⟨gb201, 0, none⟩ (.int .i64 t196)).setCell ⟨gb201, 1, none⟩ (.slice Ao37 t197.length co37)) w.heap.size (fun k_ => some k_ ≠ (.slice Ao37 t197.length co37 : Value).ownBlock) (.slice Ao30 t191.length co30) t191) := ⟨by (with_reducible repeat (first | apply Kd.R_alloc | apply Kd.R_drewN | apply Kd.R_drew)); exact Kd.R_mono (Kd.R_far (p := ⟨gb201, 1, none⟩) (Kd.R_far (p := ⟨gb201, 0, none⟩) (Kd.R_types HO193.out BK201.out (by decide)) (fun _ hk => hk.2) (.int .i64 t196)) (fun _ hk => hk.2) (.slice Ao37 t197.length co37)) (fun _ hk => hk.1.2)⟩
            have n3_ : Aside0 (Kd.R (Kd.int .u64) 59 ((w32.setCell ⟨gb201, 0, none⟩ (.int .i64 t196)).setCell ⟨gb201, 1, none⟩ (.slice Ao37 t197.length co37)) w.heap.size (fun k_ => some k_ ≠ (.slice Ao30 t191.length co30 : Value).ownBlock) (.slice Ao37 t197.length co37) t197) := ⟨by (with_reducible repeat (first | apply Kd.R_alloc | apply Kd.R_drewN | apply Kd.R_drew)); exact Kd.R_mono (Kd.R_far (p := ⟨gb201, 1, none⟩) (Kd.R_far (p := ⟨gb201, 0, none⟩) (Kd.R_types HO199.out BK201.out (by decide)) (fun _ hk => hk.2) (.int .i64 t196)) (fun _ hk => hk.2) (.slice Ao37 t197.length co37)) (fun _ hk => hk.1.2)⟩
            have n4_ : Aside0 (((w32.setCell ⟨gb201, 0, none⟩ (.int .i64 t196)).setCell ⟨gb201, 1, none⟩ (.slice Ao37 t197.length co37)).heap[gb179]? = some (.cells #[.int .i64 t182, .slice Ao20 t183.length co20] 25 (0, 0))) := ⟨by (with_reducible repeat (first | refine blk_drewN ?_ _ | refine blk_drew ?_ | refine blk_alloc ?_ _)); refine blk_far ?_ NB179_201.out _; (with_reducible repeat (first | refine blk_drewN ?_ _ | refine blk_drew ?_ | refine blk_alloc ?_ _)); refine blk_far ?_ NB179_201.out _; (with_reducible repeat (first | refine blk_drewN ?_ _ | refine blk_drew ?_ | refine blk_alloc ?_ _)); exact BK179.out⟩
            have n5_ : Aside0 (((w32.setCell ⟨gb201, 0, none⟩ (.int .i64 t196)).setCell ⟨gb201, 1, none⟩ (.slice Ao37 t197.length co37)).heap[gb180]? = some (.cells #[.int .i64 t186, .slice Ao23 t187.length co23] 25 (0, 0))) := ⟨by (with_reducible repeat (first | refine blk_drewN ?_ _ | refine blk_drew ?_ | refine blk_alloc ?_ _)); refine blk_far ?_ NB180_201.out _; (with_reducible repeat (first | refine blk_drewN ?_ _ | refine blk_drew ?_ | refine blk_alloc ?_ _)); refine blk_far ?_ NB180_201.out _; (with_reducible repeat (first | refine blk_drewN ?_ _ | refine blk_drew ?_ | refine blk_alloc ?_ _)); exact BK180.out⟩
            have n6_ : Aside0 (((w32.setCell ⟨gb201, 0, none⟩ (.int .i64 t196)).setCell ⟨gb201, 1, none⟩ (.slice Ao37 t197.length co37)).heap[gb195]? = some (.cells #[.int .i64 t190, .slice Ao30 t191.length co30] 25 (0, 0))) := ⟨by (with_reducible repeat (first | refine blk_drewN ?_ _ | refine blk_drew ?_ | refine blk_alloc ?_ _)); refine blk_far ?_ NB195_201.out _; (with_reducible repeat (first | refine blk_drewN ?_ _ | refine blk_drew ?_ | refine blk_alloc ?_ _)); refine blk_far ?_ NB195_201.out _; (with_reducible repeat (first | refine blk_drewN ?_ _ | refine blk_drew ?_ | refine blk_alloc ?_ _)); exact BK195.out⟩
            have n7_ : Aside0 (((w32.setCell ⟨gb201, 0, none⟩ (.int .i64 t196)).setCell ⟨gb201, 1, none⟩ (.slice Ao37 t197.length co37)).heap[gb201]? = some (.cells #[.int .i64 t196, .slice Ao37 t197.length co37] 25 (0, 0))) := ⟨by (with_reducible repeat (first | refine blk_drewN ?_ _ | refine blk_drew ?_ | refine blk_alloc ?_ _)); refine blk_put (cs := #[.int .i64 t196, .slice none 0 0]) ?_ 1 _ rfl; (with_reducible repeat (first | refine blk_drewN ?_ _ | refine blk_drew ?_ | refine blk_alloc ?_ _)); refine blk_put (cs := #[.int .i64 0, .slice none 0 0]) ?_ 0 _ rfl; (with_reducible repeat (first | refine blk_drewN ?_ _ | refine blk_drew ?_ | refine blk_alloc ?_ _)); exact BK201.out⟩
            have n8_ : Aside0 (Below w.heap.size w ((w32.setCell ⟨gb201, 0, none⟩ (.int .i64 t196)).setCell ⟨gb201, 1, none⟩ (.slice Ao37 t197.length co37))) := ⟨by repeat (first | (with_reducible first | exact HB.out | apply below_alloc | apply pw_below_drewN | apply below_drew1 | refine below_set ?_ GE179.out | refine below_set ?_ GE180.out | refine below_set ?_ GE195.out | refine below_set ?_ GE201.out) | exact HB.out)⟩
            (try clear HO185)
            (try clear HO189)
            (try clear HO193)
            (try clear HO199)
            (try clear BK179)
            (try clear BK180)
            (try clear BK195)
            (try clear BK201)
            (try clear HB)
            generalize ((w32.setCell ⟨gb201, 0, none⟩ (.int .i64 t196)).setCell ⟨gb201, 1, none⟩ (.slice Ao37 t197.length co37)) = w48 at n0_ n1_ n2_ n3_ n4_ n5_ n6_ n7_ n8_ ⊢
            have HO185 := n0_
            have HO189 := n1_
            have HO193 := n2_
            have HO199 := n3_
            have BK179 := n4_
            have BK180 := n5_
            have BK195 := n6_
            have BK201 := n7_
            have HB := n8_
            clear n0_ n1_ n2_ n3_ n4_ n5_ n6_ n7_ n8_
            have n0_ := Aside0.mk (Kd.V_drew HO185.out)
            have n1_ := Aside0.mk (Kd.V_drew HO189.out)
            have n2_ := Aside0.mk (Kd.R_drew HO193.out)
            have n3_ := Aside0.mk (Kd.R_drew HO199.out)
            have n4_ := Aside0.mk (blk_drew BK179.out)
            have n5_ := Aside0.mk (blk_drew BK180.out)
            have n6_ := Aside0.mk (blk_drew BK195.out)
            have n7_ := Aside0.mk (blk_drew BK201.out)
            have n8_ := Aside0.mk (below_drew1 HB.out)
            clear HO185
            clear HO189
            clear HO193
            clear HO199
            clear BK179
            clear BK180
            clear BK195
            clear BK201
            clear HB
            have HO185 := n0_
            have HO189 := n1_
            have HO193 := n2_
            have HO199 := n3_
            have BK179 := n4_
            have BK180 := n5_
            have BK195 := n6_
            have BK201 := n7_
            have HB := n8_
            clear n0_ n1_ n2_ n3_ n4_ n5_ n6_ n7_ n8_
            refine start_ (n := 24) (S := fun w' => w'.cell? ⟨gb179, 0, none⟩ = some (.int .i64 t182) ∧ w'.cell? ⟨gb179, 1, none⟩ = some (.slice Ao20 t183.length co20) ∧ w'.cell? ⟨gb180, 0, none⟩ = some (.int .i64 t186) ∧ w'.cell? ⟨gb180, 1, none⟩ = some (.slice Ao23 t187.length co23)) (ds := []) #[false, false, false, false, false, false, false, false, false, false, false, false, false, false, false, false, false, false, false, false, false, false, false, false] (by kernel_rfl) rfl rfl ⟨(blk_cell BK179.out 0).trans rfl, (blk_cell BK179.out 1).trans rfl, (blk_cell BK180.out 0).trans rfl, (blk_cell BK180.out 1).trans rfl⟩ (fun hHeld => ?_); refine with_tabW downpourlaw01_BitrowMakes.tab4 downpourlaw01_BitrowMakes.bits4 (fun HT_ HW_ => ?_)
            generalize w48.drew = w49 at HO185 HO189 HO193 HO199 BK179 BK180 BK195 BK201 HB hHeld ⊢
            refine take_ (i := 0) (N := some 33) (v := ?_) (a' := ?_) #[true, false, false, false, false, false, false, false, false, false, false, false, false, false, false, false, false, false, false, false, false, false, false, false] rfl rfl (take_ofW HT_.out HW_.out (by kernel_rfl)) (fun _ _ _ h => h) (Or.inl ⟨by rfl, ?_⟩) hHeld ?_ ?_
            rotate_left
            · rintro w' ⟨s0, s1, s2, s3⟩
              go_simp
              with_reducible rfl
            rotate_left
            · simp only [Act.put, List.setIfInBounds_toArray, List.set_cons_zero, List.set_cons_succ, i64_w, i32_w]
              rfl
            refine take_ (i := 2) (N := some 35) (v := ?_) (a' := ?_) #[true, false, true, false, false, false, false, false, false, false, false, false, false, false, false, false, false, false, false, false, false, false, false, false] rfl rfl (take_ofW HT_.out HW_.out (by kernel_rfl)) (fun _ _ _ h => h) (Or.inl ⟨by rfl, ?_⟩) hHeld ?_ ?_
            rotate_left
            · rintro w' ⟨s0, s1, s2, s3⟩
              go_simp
              with_reducible rfl
            rotate_left
            · simp only [Act.put, List.setIfInBounds_toArray, List.set_cons_zero, List.set_cons_succ, i64_w, i32_w]
              rfl
            refine one_ (i := 1) (N := some 34) #[true, true, true, false, false, false, false, false, false, false, false, false, false, false, false, false, false, false, false, false, false, false, false, false] rfl rfl (one_of HT_.out (by kernel_rfl)) (by decide) (fun K hK => ?_)
            refine goes_ Try.func22 (by kernel_rfl) rfl #[.agg #[.int .i64 t182, .slice Ao20 t183.length co20]] (by rfl) rfl rfl (by (try simp only [List.map_toArray, List.map_cons, List.map_nil]); first | done | rfl | (simp only [List.length_drop, List.length_take]; rfl)) ?_
            with_reducible refine (bitrow_Right.calls t182 _ _ t183 t202 _ ?side1 ?side2 A38.out).mono ?_
            (case side1 => repeat (first | exact (Kd.V_reads' HO185.out).2.2 | (with_reducible refine Kd.C_alloc ?_ _) | (with_reducible refine Kd.C_drewN ?_ _) | (with_reducible refine Kd.C_drew ?_)))
            (case side2 => exact (Kd.V_reads' HO185.out).2.1)
            rintro e w50 ⟨rfl, hb⟩
            refine ⟨_, rfl, ?_⟩
            have n0_ := Aside0.mk (Kd.V_below (pv HO185) hb)
            have n1_ := Aside0.mk (Kd.V_below (pv HO189) hb)
            have n2_ := Aside0.mk (Kd.R_below (pr HO193) hb)
            have n3_ := Aside0.mk (Kd.R_below (pr HO199) hb)
            have n4_ := bb BK179 hb
            have n5_ := bb BK180 hb
            have n6_ := bb BK195 hb
            have n7_ := bb BK201 hb
            have n8_ := Aside0.mk (below_step (by repeat (first | (with_reducible first | exact HB.out | apply below_alloc | apply pw_below_drewN | apply below_drew1 | refine below_set ?_ GE179.out | refine below_set ?_ GE180.out | refine below_set ?_ GE195.out | refine below_set ?_ GE201.out) | exact HB.out)) hb)
            clear HO185
            clear HO189
            clear HO193
            clear HO199
            clear BK179
            clear BK180
            clear BK195
            clear BK201
            clear HB
            have HO185 := n0_
            have HO189 := n1_
            have HO193 := n2_
            have HO199 := n3_
            have BK179 := n4_
            have BK180 := n5_
            have BK195 := n6_
            have BK201 := n7_
            have HB := n8_
            clear n0_ n1_ n2_ n3_ n4_ n5_ n6_ n7_ n8_
            (try clear hb)
            (try clear hb2)
            (try clear hk)
            (try clear hi)
            refine hK.out _ _ ⟨(blk_cell BK179.out 0).trans rfl, (blk_cell BK179.out 1).trans rfl, (blk_cell BK180.out 0).trans rfl, (blk_cell BK180.out 1).trans rfl⟩ (fun hHeld => ?_)
            clear hK K
            refine norm_ (a' := ?_) ?_ ?_
            rotate_left
            · show Act.put _ (some 34) _ = _
              simp only [Act.put, List.setIfInBounds_toArray, List.set_cons_zero, List.set_cons_succ, i64_w, i32_w]
              rfl
            refine one_ (i := 3) (N := some 36) #[true, true, true, true, false, false, false, false, false, false, false, false, false, false, false, false, false, false, false, false, false, false, false, false] rfl rfl (one_of HT_.out (by kernel_rfl)) (by decide) (fun K hK => ?_)
            refine goes_ Try.func23 (by kernel_rfl) rfl #[.agg #[.int .i64 t182, .slice Ao20 t183.length co20]] (by rfl) rfl rfl (by (try simp only [List.map_toArray, List.map_cons, List.map_nil]); first | done | rfl | (simp only [List.length_drop, List.length_take]; rfl)) ?_
            with_reducible refine (downpourref01_Right.calls k t182 _ _ t183 t203 _ ?side1 ?side2 A39.out).mono ?_
            (case side1 => repeat (first | exact (Kd.V_reads' HO185.out).2.2 | (with_reducible refine Kd.C_alloc ?_ _) | (with_reducible refine Kd.C_drewN ?_ _) | (with_reducible refine Kd.C_drew ?_)))
            (case side2 => exact (Kd.V_reads' HO185.out).2.1)
            rintro e w51 ⟨rfl, hb⟩
            refine ⟨_, rfl, ?_⟩
            have n0_ := Aside0.mk (Kd.V_below (pv HO185) hb)
            have n1_ := Aside0.mk (Kd.V_below (pv HO189) hb)
            have n2_ := Aside0.mk (Kd.R_below (pr HO193) hb)
            have n3_ := Aside0.mk (Kd.R_below (pr HO199) hb)
            have n4_ := bb BK179 hb
            have n5_ := bb BK180 hb
            have n6_ := bb BK195 hb
            have n7_ := bb BK201 hb
            have n8_ := Aside0.mk (below_step (by repeat (first | (with_reducible first | exact HB.out | apply below_alloc | apply pw_below_drewN | apply below_drew1 | refine below_set ?_ GE179.out | refine below_set ?_ GE180.out | refine below_set ?_ GE195.out | refine below_set ?_ GE201.out) | exact HB.out)) hb)
            clear HO185
            clear HO189
            clear HO193
            clear HO199
            clear BK179
            clear BK180
            clear BK195
            clear BK201
            clear HB
            have HO185 := n0_
            have HO189 := n1_
            have HO193 := n2_
            have HO199 := n3_
            have BK179 := n4_
            have BK180 := n5_
            have BK195 := n6_
            have BK201 := n7_
            have HB := n8_
            clear n0_ n1_ n2_ n3_ n4_ n5_ n6_ n7_ n8_
            (try clear hb)
            (try clear hb2)
            (try clear hk)
            (try clear hi)
            refine hK.out _ _ ⟨(blk_cell BK179.out 0).trans rfl, (blk_cell BK179.out 1).trans rfl, (blk_cell BK180.out 0).trans rfl, (blk_cell BK180.out 1).trans rfl⟩ (fun hHeld => ?_)
            clear hK K
            refine norm_ (a' := ?_) ?_ ?_
            rotate_left
            · show Act.put _ (some 36) _ = _
              simp only [Act.put, List.setIfInBounds_toArray, List.set_cons_zero, List.set_cons_succ, i64_w, i32_w]
              rfl
            refine pure_ (i := 4) (N := some 37) (v := ?_) (a' := ?_) #[true, true, true, true, true, false, false, false, false, false, false, false, false, false, false, false, false, false, false, false, false, false, false, false] rfl rfl (any_of HT_.out (by kernel_rfl)) (fun _ _ _ h => h) (Or.inl ⟨by rfl, ?_⟩) ?_ ?_
            rotate_left
            · intro w'
              go_simp
              with_reducible rfl
            rotate_left
            · simp only [Act.put, List.setIfInBounds_toArray, List.set_cons_zero, List.set_cons_succ, i64_w, i32_w]
              rfl
            refine pure_ (i := 5) (N := some 38) (v := ?_) (a' := ?_) #[true, true, true, true, true, true, false, false, false, false, false, false, false, false, false, false, false, false, false, false, false, false, false, false] rfl rfl (any_of HT_.out (by kernel_rfl)) (fun _ _ _ h => h) (Or.inl ⟨by rfl, ?_⟩) ?_ ?_
            rotate_left
            · intro w'
              go_simp
              with_reducible rfl
            rotate_left
            · simp only [Act.put, List.setIfInBounds_toArray, List.set_cons_zero, List.set_cons_succ, i64_w, i32_w]
              rfl
            refine take_ (i := 6) (N := some 39) (v := ?_) (a' := ?_) #[true, true, true, true, true, true, true, false, false, false, false, false, false, false, false, false, false, false, false, false, false, false, false, false] rfl rfl (take_ofW HT_.out HW_.out (by kernel_rfl)) (fun _ _ _ h => h) (Or.inl ⟨by rfl, ?_⟩) hHeld ?_ ?_
            rotate_left
            · rintro w' ⟨s0, s1, s2, s3⟩
              go_simp
              with_reducible rfl
            rotate_left
            · simp only [Act.put, List.setIfInBounds_toArray, List.set_cons_zero, List.set_cons_succ, i64_w, i32_w]
              rfl
            refine take_ (i := 7) (N := some 40) (v := ?_) (a' := ?_) #[true, true, true, true, true, true, true, true, false, false, false, false, false, false, false, false, false, false, false, false, false, false, false, false] rfl rfl (take_ofW HT_.out HW_.out (by kernel_rfl)) (fun _ _ _ h => h) (Or.inl ⟨by rfl, ?_⟩) hHeld ?_ ?_
            rotate_left
            · rintro w' ⟨s0, s1, s2, s3⟩
              go_simp
              with_reducible rfl
            rotate_left
            · simp only [Act.put, List.setIfInBounds_toArray, List.set_cons_zero, List.set_cons_succ, i64_w, i32_w]
              rfl
            refine take_ (i := 9) (N := some 42) (v := ?_) (a' := ?_) #[true, true, true, true, true, true, true, true, false, true, false, false, false, false, false, false, false, false, false, false, false, false, false, false] rfl rfl (take_ofW HT_.out HW_.out (by kernel_rfl)) (fun _ _ _ h => h) (Or.inl ⟨by rfl, ?_⟩) hHeld ?_ ?_
            rotate_left
            · rintro w' ⟨s0, s1, s2, s3⟩
              go_simp
              with_reducible rfl
            rotate_left
            · simp only [Act.put, List.setIfInBounds_toArray, List.set_cons_zero, List.set_cons_succ, i64_w, i32_w]
              rfl
            refine take_ (i := 10) (N := some 43) (v := ?_) (a' := ?_) #[true, true, true, true, true, true, true, true, false, true, true, false, false, false, false, false, false, false, false, false, false, false, false, false] rfl rfl (take_ofW HT_.out HW_.out (by kernel_rfl)) (fun _ _ _ h => h) (Or.inl ⟨by rfl, ?_⟩) hHeld ?_ ?_
            rotate_left
            · rintro w' ⟨s0, s1, s2, s3⟩
              go_simp
              with_reducible rfl
            rotate_left
            · simp only [Act.put, List.setIfInBounds_toArray, List.set_cons_zero, List.set_cons_succ, i64_w, i32_w]
              rfl
            refine one_ (i := 8) (N := some 41) #[true, true, true, true, true, true, true, true, true, true, true, false, false, false, false, false, false, false, false, false, false, false, false, false] rfl rfl (one_of HT_.out (by kernel_rfl)) (by decide) (fun K hK => ?_)
            refine goes_ Try.func24 (by kernel_rfl) rfl #[.agg #[.int .i64 t182, .slice Ao20 t183.length co20], .agg #[.int .i64 t186, .slice Ao23 t187.length co23]] (by rfl) rfl rfl (by (try simp only [List.map_toArray, List.map_cons, List.map_nil]); first | done | rfl | (simp only [List.length_drop, List.length_take]; rfl)) ?_
            with_reducible refine (bitrow_Like.calls k t182 _ _ t183 t186 _ _ t187 t204 _ ?side1 ?side2 ?side3 ?side4 A45.out).mono ?_
            (case side1 => repeat (first | exact (Kd.V_reads' HO185.out).2.2 | (with_reducible refine Kd.C_alloc ?_ _) | (with_reducible refine Kd.C_drewN ?_ _) | (with_reducible refine Kd.C_drew ?_)))
            (case side2 => exact (Kd.V_reads' HO185.out).2.1)
            (case side3 => repeat (first | exact (Kd.V_reads' HO189.out).2.2 | (with_reducible refine Kd.C_alloc ?_ _) | (with_reducible refine Kd.C_drewN ?_ _) | (with_reducible refine Kd.C_drew ?_)))
            (case side4 => exact (Kd.V_reads' HO189.out).2.1)
            rintro e w52 ⟨rfl, hb⟩
            refine ⟨_, rfl, ?_⟩
            have n0_ := Aside0.mk (Kd.V_below (pv HO185) hb)
            have n1_ := Aside0.mk (Kd.V_below (pv HO189) hb)
            have n2_ := Aside0.mk (Kd.R_below (pr HO193) hb)
            have n3_ := Aside0.mk (Kd.R_below (pr HO199) hb)
            have n4_ := bb BK179 hb
            have n5_ := bb BK180 hb
            have n6_ := bb BK195 hb
            have n7_ := bb BK201 hb
            have n8_ := Aside0.mk (below_step (by repeat (first | (with_reducible first | exact HB.out | apply below_alloc | apply pw_below_drewN | apply below_drew1 | refine below_set ?_ GE179.out | refine below_set ?_ GE180.out | refine below_set ?_ GE195.out | refine below_set ?_ GE201.out) | exact HB.out)) hb)
            clear HO185
            clear HO189
            clear HO193
            clear HO199
            clear BK179
            clear BK180
            clear BK195
            clear BK201
            clear HB
            have HO185 := n0_
            have HO189 := n1_
            have HO193 := n2_
            have HO199 := n3_
            have BK179 := n4_
            have BK180 := n5_
            have BK195 := n6_
            have BK201 := n7_
            have HB := n8_
            clear n0_ n1_ n2_ n3_ n4_ n5_ n6_ n7_ n8_
            (try clear hb)
            (try clear hb2)
            (try clear hk)
            (try clear hi)
            refine hK.out _ _ ⟨(blk_cell BK179.out 0).trans rfl, (blk_cell BK179.out 1).trans rfl, (blk_cell BK180.out 0).trans rfl, (blk_cell BK180.out 1).trans rfl⟩ (fun hHeld => ?_)
            clear hK K
            refine norm_ (a' := ?_) ?_ ?_
            rotate_left
            · show Act.put _ (some 41) _ = _
              simp only [Act.put, List.setIfInBounds_toArray, List.set_cons_zero, List.set_cons_succ, i64_w, i32_w]
              rfl
            refine one_ (i := 11) (N := some 44) #[true, true, true, true, true, true, true, true, true, true, true, true, false, false, false, false, false, false, false, false, false, false, false, false] rfl rfl (one_of HT_.out (by kernel_rfl)) (by decide) (fun K hK => ?_)
            refine goes_ Try.func25 (by kernel_rfl) rfl #[.agg #[.int .i64 t182, .slice Ao20 t183.length co20], .agg #[.int .i64 t186, .slice Ao23 t187.length co23]] (by rfl) rfl rfl (by (try simp only [List.map_toArray, List.map_cons, List.map_nil]); first | done | rfl | (simp only [List.length_drop, List.length_take]; rfl)) ?_
            with_reducible refine (downpourref01_Same.calls k t182 _ _ t183 t186 _ _ t187 t205 _ ?side1 ?side2 ?side3 ?side4 A46.out).mono ?_
            (case side1 => repeat (first | exact (Kd.V_reads' HO185.out).2.2 | (with_reducible refine Kd.C_alloc ?_ _) | (with_reducible refine Kd.C_drewN ?_ _) | (with_reducible refine Kd.C_drew ?_)))
            (case side2 => exact (Kd.V_reads' HO185.out).2.1)
            (case side3 => repeat (first | exact (Kd.V_reads' HO189.out).2.2 | (with_reducible refine Kd.C_alloc ?_ _) | (with_reducible refine Kd.C_drewN ?_ _) | (with_reducible refine Kd.C_drew ?_)))
            (case side4 => exact (Kd.V_reads' HO189.out).2.1)
            rintro e w53 ⟨rfl, hb⟩
            refine ⟨_, rfl, ?_⟩
            have n0_ := Aside0.mk (Kd.V_below (pv HO185) hb)
            have n1_ := Aside0.mk (Kd.V_below (pv HO189) hb)
            have n2_ := Aside0.mk (Kd.R_below (pr HO193) hb)
            have n3_ := Aside0.mk (Kd.R_below (pr HO199) hb)
            have n4_ := bb BK179 hb
            have n5_ := bb BK180 hb
            have n6_ := bb BK195 hb
            have n7_ := bb BK201 hb
            have n8_ := Aside0.mk (below_step (by repeat (first | (with_reducible first | exact HB.out | apply below_alloc | apply pw_below_drewN | apply below_drew1 | refine below_set ?_ GE179.out | refine below_set ?_ GE180.out | refine below_set ?_ GE195.out | refine below_set ?_ GE201.out) | exact HB.out)) hb)
            clear HO185
            clear HO189
            clear HO193
            clear HO199
            clear BK179
            clear BK180
            clear BK195
            clear BK201
            clear HB
            have HO185 := n0_
            have HO189 := n1_
            have HO193 := n2_
            have HO199 := n3_
            have BK179 := n4_
            have BK180 := n5_
            have BK195 := n6_
            have BK201 := n7_
            have HB := n8_
            clear n0_ n1_ n2_ n3_ n4_ n5_ n6_ n7_ n8_
            (try clear hb)
            (try clear hb2)
            (try clear hk)
            (try clear hi)
            refine hK.out _ _ ⟨(blk_cell BK179.out 0).trans rfl, (blk_cell BK179.out 1).trans rfl, (blk_cell BK180.out 0).trans rfl, (blk_cell BK180.out 1).trans rfl⟩ (fun hHeld => ?_)
            clear hK K
            refine norm_ (a' := ?_) ?_ ?_
            rotate_left
            · show Act.put _ (some 44) _ = _
              simp only [Act.put, List.setIfInBounds_toArray, List.set_cons_zero, List.set_cons_succ, i64_w, i32_w]
              rfl
            refine pure_ (i := 12) (N := some 45) (v := ?_) (a' := ?_) #[true, true, true, true, true, true, true, true, true, true, true, true, true, false, false, false, false, false, false, false, false, false, false, false] rfl rfl (any_of HT_.out (by kernel_rfl)) (fun _ _ _ h => h) (Or.inl ⟨by rfl, ?_⟩) ?_ ?_
            rotate_left
            · intro w'
              go_simp
              with_reducible rfl
            rotate_left
            · simp only [Act.put, List.setIfInBounds_toArray, List.set_cons_zero, List.set_cons_succ, i64_w, i32_w]
              rfl
            refine pure_ (i := 13) (N := some 46) (v := ?_) (a' := ?_) #[true, true, true, true, true, true, true, true, true, true, true, true, true, true, false, false, false, false, false, false, false, false, false, false] rfl rfl (any_of HT_.out (by kernel_rfl)) (fun _ _ _ h => h) (Or.inl ⟨by rfl, ?_⟩) ?_ ?_
            rotate_left
            · intro w'
              go_simp
              with_reducible rfl
            rotate_left
            · simp only [Act.put, List.setIfInBounds_toArray, List.set_cons_zero, List.set_cons_succ, i64_w, i32_w]
              rfl
            refine pure_ (i := 14) (N := some 47) (v := ?_) (a' := ?_) #[true, true, true, true, true, true, true, true, true, true, true, true, true, true, true, false, false, false, false, false, false, false, false, false] rfl rfl (any_of HT_.out (by kernel_rfl)) (fun _ _ _ h => h) (Or.inl ⟨by rfl, ?_⟩) ?_ ?_
            rotate_left
            · intro w'
              go_simp
              with_reducible rfl
            rotate_left
            · simp only [Act.put, List.setIfInBounds_toArray, List.set_cons_zero, List.set_cons_succ, i64_w, i32_w]
              rfl
            refine pure_ (i := 15) (N := some 48) (v := undef) (a' := ?_) #[true, true, true, true, true, true, true, true, true, true, true, true, true, true, true, true, false, false, false, false, false, false, false, false] rfl rfl (any_of HT_.out (by kernel_rfl)) (fun _ _ _ h => h) (Or.inr ⟨by rfl, rfl⟩) ?_ ?_
            rotate_left
            · simp only [Act.put, List.setIfInBounds_toArray, List.set_cons_zero, List.set_cons_succ, i64_w, i32_w]
              rfl
            refine pure_ (i := 16) (N := some 49) (v := undef) (a' := ?_) #[true, true, true, true, true, true, true, true, true, true, true, true, true, true, true, true, true, false, false, false, false, false, false, false] rfl rfl (any_of HT_.out (by kernel_rfl)) (fun _ _ _ h => h) (Or.inr ⟨by rfl, rfl⟩) ?_ ?_
            rotate_left
            · simp only [Act.put, List.setIfInBounds_toArray, List.set_cons_zero, List.set_cons_succ, i64_w, i32_w]
              rfl
            refine pure_ (i := 17) (N := some 50) (v := undef) (a' := ?_) #[true, true, true, true, true, true, true, true, true, true, true, true, true, true, true, true, true, true, false, false, false, false, false, false] rfl rfl (any_of HT_.out (by kernel_rfl)) (fun _ _ _ h => h) (Or.inr ⟨by rfl, rfl⟩) ?_ ?_
            rotate_left
            · simp only [Act.put, List.setIfInBounds_toArray, List.set_cons_zero, List.set_cons_succ, i64_w, i32_w]
              rfl
            refine pure_ (i := 18) (N := some 51) (v := undef) (a' := ?_) #[true, true, true, true, true, true, true, true, true, true, true, true, true, true, true, true, true, true, true, false, false, false, false, false] rfl rfl (any_of HT_.out (by kernel_rfl)) (fun _ _ _ h => h) (Or.inr ⟨by rfl, rfl⟩) ?_ ?_
            rotate_left
            · simp only [Act.put, List.setIfInBounds_toArray, List.set_cons_zero, List.set_cons_succ, i64_w, i32_w]
              rfl
            refine pure_ (i := 19) (N := some 52) (v := ?_) (a' := ?_) #[true, true, true, true, true, true, true, true, true, true, true, true, true, true, true, true, true, true, true, true, false, false, false, false] rfl rfl (any_of HT_.out (by kernel_rfl)) (fun _ _ _ h => h) (Or.inl ⟨by rfl, ?_⟩) ?_ ?_
            rotate_left
            · intro w'
              go_simp
              with_reducible rfl
            rotate_left
            · simp only [Act.put, List.setIfInBounds_toArray, List.set_cons_zero, List.set_cons_succ, i64_w, i32_w]
              rfl
            refine pure_ (i := 20) (N := some 53) (v := ?_) (a' := ?_) #[true, true, true, true, true, true, true, true, true, true, true, true, true, true, true, true, true, true, true, true, true, false, false, false] rfl rfl (any_of HT_.out (by kernel_rfl)) (fun _ _ _ h => h) (Or.inl ⟨by rfl, ?_⟩) ?_ ?_
            rotate_left
            · intro w'
              go_simp
              with_reducible rfl
            rotate_left
            · simp only [Act.put, List.setIfInBounds_toArray, List.set_cons_zero, List.set_cons_succ, i64_w, i32_w]
              rfl
            refine pure_ (i := 21) (N := some 54) (v := undef) (a' := ?_) #[true, true, true, true, true, true, true, true, true, true, true, true, true, true, true, true, true, true, true, true, true, true, false, false] rfl rfl (any_of HT_.out (by kernel_rfl)) (fun _ _ _ h => h) (Or.inr ⟨by rfl, rfl⟩) ?_ ?_
            rotate_left
            · simp only [Act.put, List.setIfInBounds_toArray, List.set_cons_zero, List.set_cons_succ, i64_w, i32_w]
              rfl
            refine pure_ (i := 22) (N := some 55) (v := undef) (a' := ?_) #[true, true, true, true, true, true, true, true, true, true, true, true, true, true, true, true, true, true, true, true, true, true, true, false] rfl rfl (any_of HT_.out (by kernel_rfl)) (fun _ _ _ h => h) (Or.inr ⟨by rfl, rfl⟩) ?_ ?_
            rotate_left
            · simp only [Act.put, List.setIfInBounds_toArray, List.set_cons_zero, List.set_cons_succ, i64_w, i32_w]
              rfl
            refine pure_ (i := 23) (N := some 56) (v := ?_) (a' := ?_) #[true, true, true, true, true, true, true, true, true, true, true, true, true, true, true, true, true, true, true, true, true, true, true, true] rfl rfl (any_of HT_.out (by kernel_rfl)) (fun _ _ _ h => h) (Or.inl ⟨by rfl, ?_⟩) ?_ ?_
            rotate_left
            · intro w'
              go_simp
              with_reducible rfl
            rotate_left
            · simp only [Act.put, List.setIfInBounds_toArray, List.set_cons_zero, List.set_cons_succ, i64_w, i32_w]
              rfl
            refine done_ (done_of HT_.out (by kernel_rfl)) ?_
            try go_wp2
            go_meet
            case rel => exact ⟨_, (true), (by first | rfl | (simp; done) | (simp [*]; done)), H', ⟨by first | omega | exact Nat.le_refl _⟩, ⟨by (with_reducible repeat (first | apply Kd.V_alloc | apply Kd.V_drewN | apply Kd.V_drew)); exact HO185.out⟩, ⟨by (with_reducible repeat (first | apply Kd.V_alloc | apply Kd.V_drewN | apply Kd.V_drew)); exact HO189.out⟩, ⟨by (with_reducible repeat (first | apply Kd.R_alloc | apply Kd.R_drewN | apply Kd.R_drew)); exact HO193.out⟩, ⟨by (with_reducible repeat (first | apply Kd.R_alloc | apply Kd.R_drewN | apply Kd.R_drew)); exact HO199.out⟩, ⟨by (with_reducible repeat (first | refine blk_drewN ?_ _ | refine blk_drew ?_ | refine blk_alloc ?_ _)); exact BK179.out⟩, ⟨by (with_reducible repeat (first | refine blk_drewN ?_ _ | refine blk_drew ?_ | refine blk_alloc ?_ _)); exact BK180.out⟩, ⟨by (with_reducible repeat (first | refine blk_drewN ?_ _ | refine blk_drew ?_ | refine blk_alloc ?_ _)); exact BK195.out⟩, ⟨by (with_reducible repeat (first | refine blk_drewN ?_ _ | refine blk_drew ?_ | refine blk_alloc ?_ _)); exact BK201.out⟩, ⟨by repeat (first | (with_reducible first | exact HB.out | apply below_alloc | apply pw_below_drewN | apply below_drew1 | refine below_set ?_ GE179.out | refine below_set ?_ GE180.out | refine below_set ?_ GE195.out | refine below_set ?_ GE201.out) | exact HB.out)⟩⟩
          · rw [if_neg c47] at H
            have c47b0 : (t204 != t205) = false := by simpa using c47
            (try (have c47b1 : decide (t204 = t205) = true := by simpa using c47))
            (try (have c47b2 : (t204 == t205) = true := by simpa using c47))
            clear c47
            replace H := Option.bind_eq_some_iff.mp H
            obtain ⟨t206, A540, H⟩ := H
            replace H : (if t206 = true then ((downpourlaw01_alive.f k).bind fun t207 => (downpourlaw01_BitrowMakes.j0 k a0 (l1.take ((ji5) : Int).toNat) t194 t200 (!t207) t190 t191 t196 t197)) else (downpourlaw01_BitrowMakes.j0 k a0 (l1.take ((ji5) : Int).toNat) t194 t200 true t190 t191 t196 t197)) = some r := H
            have A54 := Aside0.mk A540
            clear A540
            by_cases c55 : t206 = true
            · subst c55
              have H1 : ((downpourlaw01_alive.f k).bind fun t207 => (downpourlaw01_BitrowMakes.j0 k a0 (l1.take ((ji5) : Int).toNat) t194 t200 (!t207) t190 t191 t196 t197)) = some r := by rw [if_pos rfl] at H; exact H
              clear H
              have H := H1
              clear H1
              replace H := Option.bind_eq_some_iff.mp H
              obtain ⟨t207, A560, H⟩ := H
              replace H : (downpourlaw01_BitrowMakes.j0 k a0 (l1.take ((ji5) : Int).toNat) t194 t200 (!t207) t190 t191 t196 t197) = some r := H
              have A56 := Aside0.mk A560
              clear A560
              have H' := Aside0.mk H
              clear H
              try go_wp2
              have n0_ : Aside0 (Kd.V (Kd.int .u64) 59 ((w32.setCell ⟨gb201, 0, none⟩ (.int .i64 t196)).setCell ⟨gb201, 1, none⟩ (.slice Ao37 t197.length co37)) w.heap.size (fun k_ => some k_ ≠ (.slice Ao30 t191.length co30 : Value).ownBlock ∧ some k_ ≠ (.slice Ao37 t197.length co37 : Value).ownBlock ∧ k_ ≠ gb179 ∧ k_ ≠ gb180 ∧ k_ ≠ gb195 ∧ k_ ≠ gb201) (.slice Ao20 t183.length co20) t183) := ⟨by (with_reducible repeat (first | apply Kd.V_alloc | apply Kd.V_drewN | apply Kd.V_drew)); exact Kd.V_mono (Kd.V_far (p := ⟨gb201, 1, none⟩) (Kd.V_far (p := ⟨gb201, 0, none⟩) (Kd.V_mono HO185.out (fun k_ hk => (⟨hk, hk.2⟩ : _ ∧ k_ ≠ gb201))) (fun _ hk => hk.2) (.int .i64 t196)) (fun _ hk => hk.2) (.slice Ao37 t197.length co37)) (fun _ hk => ⟨hk.1.1.1.1.2, ⟨hk.1.1.2, ⟨hk.1.1.1.1.1.1, ⟨hk.1.1.1.1.1.2, ⟨hk.1.1.1.2, hk.1.2⟩⟩⟩⟩⟩)⟩
              have n1_ : Aside0 (Kd.V (Kd.int .u64) 59 ((w32.setCell ⟨gb201, 0, none⟩ (.int .i64 t196)).setCell ⟨gb201, 1, none⟩ (.slice Ao37 t197.length co37)) w.heap.size (fun k_ => some k_ ≠ (.slice Ao30 t191.length co30 : Value).ownBlock ∧ some k_ ≠ (.slice Ao37 t197.length co37 : Value).ownBlock ∧ k_ ≠ gb179 ∧ k_ ≠ gb180 ∧ k_ ≠ gb195 ∧ k_ ≠ gb201) (.slice Ao23 t187.length co23) t187) := ⟨by (with_reducible repeat (first | apply Kd.V_alloc | apply Kd.V_drewN | apply Kd.V_drew)); exact Kd.V_mono (Kd.V_far (p := ⟨gb201, 1, none⟩) (Kd.V_far (p := ⟨gb201, 0, none⟩) (Kd.V_mono HO189.out (fun k_ hk => (⟨hk, hk.2⟩ : _ ∧ k_ ≠ gb201))) (fun _ hk => hk.2) (.int .i64 t196)) (fun _ hk => hk.2) (.slice Ao37 t197.length co37)) (fun _ hk => ⟨hk.1.1.1.1.2, ⟨hk.1.1.2, ⟨hk.1.1.1.1.1.1, ⟨hk.1.1.1.1.1.2, ⟨hk.1.1.1.2, hk.1.2⟩⟩⟩⟩⟩)⟩
              have n2_ : Aside0 (Kd.R (Kd.int .u64) 59 ((w32.setCell ⟨gb201, 0, none⟩ (.int .i64 t196)).setCell ⟨gb201, 1, none⟩ (.slice Ao37 t197.length co37)) w.heap.size (fun k_ => some k_ ≠ (.slice Ao37 t197.length co37 : Value).ownBlock) (.slice Ao30 t191.length co30) t191) := ⟨by (with_reducible repeat (first | apply Kd.R_alloc | apply Kd.R_drewN | apply Kd.R_drew)); exact Kd.R_mono (Kd.R_far (p := ⟨gb201, 1, none⟩) (Kd.R_far (p := ⟨gb201, 0, none⟩) (Kd.R_types HO193.out BK201.out (by decide)) (fun _ hk => hk.2) (.int .i64 t196)) (fun _ hk => hk.2) (.slice Ao37 t197.length co37)) (fun _ hk => hk.1.2)⟩
              have n3_ : Aside0 (Kd.R (Kd.int .u64) 59 ((w32.setCell ⟨gb201, 0, none⟩ (.int .i64 t196)).setCell ⟨gb201, 1, none⟩ (.slice Ao37 t197.length co37)) w.heap.size (fun k_ => some k_ ≠ (.slice Ao30 t191.length co30 : Value).ownBlock) (.slice Ao37 t197.length co37) t197) := ⟨by (with_reducible repeat (first | apply Kd.R_alloc | apply Kd.R_drewN | apply Kd.R_drew)); exact Kd.R_mono (Kd.R_far (p := ⟨gb201, 1, none⟩) (Kd.R_far (p := ⟨gb201, 0, none⟩) (Kd.R_types HO199.out BK201.out (by decide)) (fun _ hk => hk.2) (.int .i64 t196)) (fun _ hk => hk.2) (.slice Ao37 t197.length co37)) (fun _ hk => hk.1.2)⟩
              have n4_ : Aside0 (((w32.setCell ⟨gb201, 0, none⟩ (.int .i64 t196)).setCell ⟨gb201, 1, none⟩ (.slice Ao37 t197.length co37)).heap[gb179]? = some (.cells #[.int .i64 t182, .slice Ao20 t183.length co20] 25 (0, 0))) := ⟨by (with_reducible repeat (first | refine blk_drewN ?_ _ | refine blk_drew ?_ | refine blk_alloc ?_ _)); refine blk_far ?_ NB179_201.out _; (with_reducible repeat (first | refine blk_drewN ?_ _ | refine blk_drew ?_ | refine blk_alloc ?_ _)); refine blk_far ?_ NB179_201.out _; (with_reducible repeat (first | refine blk_drewN ?_ _ | refine blk_drew ?_ | refine blk_alloc ?_ _)); exact BK179.out⟩
              have n5_ : Aside0 (((w32.setCell ⟨gb201, 0, none⟩ (.int .i64 t196)).setCell ⟨gb201, 1, none⟩ (.slice Ao37 t197.length co37)).heap[gb180]? = some (.cells #[.int .i64 t186, .slice Ao23 t187.length co23] 25 (0, 0))) := ⟨by (with_reducible repeat (first | refine blk_drewN ?_ _ | refine blk_drew ?_ | refine blk_alloc ?_ _)); refine blk_far ?_ NB180_201.out _; (with_reducible repeat (first | refine blk_drewN ?_ _ | refine blk_drew ?_ | refine blk_alloc ?_ _)); refine blk_far ?_ NB180_201.out _; (with_reducible repeat (first | refine blk_drewN ?_ _ | refine blk_drew ?_ | refine blk_alloc ?_ _)); exact BK180.out⟩
              have n6_ : Aside0 (((w32.setCell ⟨gb201, 0, none⟩ (.int .i64 t196)).setCell ⟨gb201, 1, none⟩ (.slice Ao37 t197.length co37)).heap[gb195]? = some (.cells #[.int .i64 t190, .slice Ao30 t191.length co30] 25 (0, 0))) := ⟨by (with_reducible repeat (first | refine blk_drewN ?_ _ | refine blk_drew ?_ | refine blk_alloc ?_ _)); refine blk_far ?_ NB195_201.out _; (with_reducible repeat (first | refine blk_drewN ?_ _ | refine blk_drew ?_ | refine blk_alloc ?_ _)); refine blk_far ?_ NB195_201.out _; (with_reducible repeat (first | refine blk_drewN ?_ _ | refine blk_drew ?_ | refine blk_alloc ?_ _)); exact BK195.out⟩
              have n7_ : Aside0 (((w32.setCell ⟨gb201, 0, none⟩ (.int .i64 t196)).setCell ⟨gb201, 1, none⟩ (.slice Ao37 t197.length co37)).heap[gb201]? = some (.cells #[.int .i64 t196, .slice Ao37 t197.length co37] 25 (0, 0))) := ⟨by (with_reducible repeat (first | refine blk_drewN ?_ _ | refine blk_drew ?_ | refine blk_alloc ?_ _)); refine blk_put (cs := #[.int .i64 t196, .slice none 0 0]) ?_ 1 _ rfl; (with_reducible repeat (first | refine blk_drewN ?_ _ | refine blk_drew ?_ | refine blk_alloc ?_ _)); refine blk_put (cs := #[.int .i64 0, .slice none 0 0]) ?_ 0 _ rfl; (with_reducible repeat (first | refine blk_drewN ?_ _ | refine blk_drew ?_ | refine blk_alloc ?_ _)); exact BK201.out⟩
              have n8_ : Aside0 (Below w.heap.size w ((w32.setCell ⟨gb201, 0, none⟩ (.int .i64 t196)).setCell ⟨gb201, 1, none⟩ (.slice Ao37 t197.length co37))) := ⟨by repeat (first | (with_reducible first | exact HB.out | apply below_alloc | apply pw_below_drewN | apply below_drew1 | refine below_set ?_ GE179.out | refine below_set ?_ GE180.out | refine below_set ?_ GE195.out | refine below_set ?_ GE201.out) | exact HB.out)⟩
              (try clear HO185)
              (try clear HO189)
              (try clear HO193)
              (try clear HO199)
              (try clear BK179)
              (try clear BK180)
              (try clear BK195)
              (try clear BK201)
              (try clear HB)
              generalize ((w32.setCell ⟨gb201, 0, none⟩ (.int .i64 t196)).setCell ⟨gb201, 1, none⟩ (.slice Ao37 t197.length co37)) = w57 at n0_ n1_ n2_ n3_ n4_ n5_ n6_ n7_ n8_ ⊢
              have HO185 := n0_
              have HO189 := n1_
              have HO193 := n2_
              have HO199 := n3_
              have BK179 := n4_
              have BK180 := n5_
              have BK195 := n6_
              have BK201 := n7_
              have HB := n8_
              clear n0_ n1_ n2_ n3_ n4_ n5_ n6_ n7_ n8_
              have n0_ := Aside0.mk (Kd.V_drew HO185.out)
              have n1_ := Aside0.mk (Kd.V_drew HO189.out)
              have n2_ := Aside0.mk (Kd.R_drew HO193.out)
              have n3_ := Aside0.mk (Kd.R_drew HO199.out)
              have n4_ := Aside0.mk (blk_drew BK179.out)
              have n5_ := Aside0.mk (blk_drew BK180.out)
              have n6_ := Aside0.mk (blk_drew BK195.out)
              have n7_ := Aside0.mk (blk_drew BK201.out)
              have n8_ := Aside0.mk (below_drew1 HB.out)
              clear HO185
              clear HO189
              clear HO193
              clear HO199
              clear BK179
              clear BK180
              clear BK195
              clear BK201
              clear HB
              have HO185 := n0_
              have HO189 := n1_
              have HO193 := n2_
              have HO199 := n3_
              have BK179 := n4_
              have BK180 := n5_
              have BK195 := n6_
              have BK201 := n7_
              have HB := n8_
              clear n0_ n1_ n2_ n3_ n4_ n5_ n6_ n7_ n8_
              refine start_ (n := 24) (S := fun w' => w'.cell? ⟨gb179, 0, none⟩ = some (.int .i64 t182) ∧ w'.cell? ⟨gb179, 1, none⟩ = some (.slice Ao20 t183.length co20) ∧ w'.cell? ⟨gb180, 0, none⟩ = some (.int .i64 t186) ∧ w'.cell? ⟨gb180, 1, none⟩ = some (.slice Ao23 t187.length co23)) (ds := []) #[false, false, false, false, false, false, false, false, false, false, false, false, false, false, false, false, false, false, false, false, false, false, false, false] (by kernel_rfl) rfl rfl ⟨(blk_cell BK179.out 0).trans rfl, (blk_cell BK179.out 1).trans rfl, (blk_cell BK180.out 0).trans rfl, (blk_cell BK180.out 1).trans rfl⟩ (fun hHeld => ?_); refine with_tabW downpourlaw01_BitrowMakes.tab4 downpourlaw01_BitrowMakes.bits4 (fun HT_ HW_ => ?_)
              generalize w57.drew = w58 at HO185 HO189 HO193 HO199 BK179 BK180 BK195 BK201 HB hHeld ⊢
              refine take_ (i := 0) (N := some 33) (v := ?_) (a' := ?_) #[true, false, false, false, false, false, false, false, false, false, false, false, false, false, false, false, false, false, false, false, false, false, false, false] rfl rfl (take_ofW HT_.out HW_.out (by kernel_rfl)) (fun _ _ _ h => h) (Or.inl ⟨by rfl, ?_⟩) hHeld ?_ ?_
              rotate_left
              · rintro w' ⟨s0, s1, s2, s3⟩
                go_simp
                with_reducible rfl
              rotate_left
              · simp only [Act.put, List.setIfInBounds_toArray, List.set_cons_zero, List.set_cons_succ, i64_w, i32_w]
                rfl
              refine take_ (i := 2) (N := some 35) (v := ?_) (a' := ?_) #[true, false, true, false, false, false, false, false, false, false, false, false, false, false, false, false, false, false, false, false, false, false, false, false] rfl rfl (take_ofW HT_.out HW_.out (by kernel_rfl)) (fun _ _ _ h => h) (Or.inl ⟨by rfl, ?_⟩) hHeld ?_ ?_
              rotate_left
              · rintro w' ⟨s0, s1, s2, s3⟩
                go_simp
                with_reducible rfl
              rotate_left
              · simp only [Act.put, List.setIfInBounds_toArray, List.set_cons_zero, List.set_cons_succ, i64_w, i32_w]
                rfl
              refine one_ (i := 1) (N := some 34) #[true, true, true, false, false, false, false, false, false, false, false, false, false, false, false, false, false, false, false, false, false, false, false, false] rfl rfl (one_of HT_.out (by kernel_rfl)) (by decide) (fun K hK => ?_)
              refine goes_ Try.func22 (by kernel_rfl) rfl #[.agg #[.int .i64 t182, .slice Ao20 t183.length co20]] (by rfl) rfl rfl (by (try simp only [List.map_toArray, List.map_cons, List.map_nil]); first | done | rfl | (simp only [List.length_drop, List.length_take]; rfl)) ?_
              with_reducible refine (bitrow_Right.calls t182 _ _ t183 t202 _ ?side1 ?side2 A38.out).mono ?_
              (case side1 => repeat (first | exact (Kd.V_reads' HO185.out).2.2 | (with_reducible refine Kd.C_alloc ?_ _) | (with_reducible refine Kd.C_drewN ?_ _) | (with_reducible refine Kd.C_drew ?_)))
              (case side2 => exact (Kd.V_reads' HO185.out).2.1)
              rintro e w59 ⟨rfl, hb⟩
              refine ⟨_, rfl, ?_⟩
              have n0_ := Aside0.mk (Kd.V_below (pv HO185) hb)
              have n1_ := Aside0.mk (Kd.V_below (pv HO189) hb)
              have n2_ := Aside0.mk (Kd.R_below (pr HO193) hb)
              have n3_ := Aside0.mk (Kd.R_below (pr HO199) hb)
              have n4_ := bb BK179 hb
              have n5_ := bb BK180 hb
              have n6_ := bb BK195 hb
              have n7_ := bb BK201 hb
              have n8_ := Aside0.mk (below_step (by repeat (first | (with_reducible first | exact HB.out | apply below_alloc | apply pw_below_drewN | apply below_drew1 | refine below_set ?_ GE179.out | refine below_set ?_ GE180.out | refine below_set ?_ GE195.out | refine below_set ?_ GE201.out) | exact HB.out)) hb)
              clear HO185
              clear HO189
              clear HO193
              clear HO199
              clear BK179
              clear BK180
              clear BK195
              clear BK201
              clear HB
              have HO185 := n0_
              have HO189 := n1_
              have HO193 := n2_
              have HO199 := n3_
              have BK179 := n4_
              have BK180 := n5_
              have BK195 := n6_
              have BK201 := n7_
              have HB := n8_
              clear n0_ n1_ n2_ n3_ n4_ n5_ n6_ n7_ n8_
              (try clear hb)
              (try clear hb2)
              (try clear hk)
              (try clear hi)
              refine hK.out _ _ ⟨(blk_cell BK179.out 0).trans rfl, (blk_cell BK179.out 1).trans rfl, (blk_cell BK180.out 0).trans rfl, (blk_cell BK180.out 1).trans rfl⟩ (fun hHeld => ?_)
              clear hK K
              refine norm_ (a' := ?_) ?_ ?_
              rotate_left
              · show Act.put _ (some 34) _ = _
                simp only [Act.put, List.setIfInBounds_toArray, List.set_cons_zero, List.set_cons_succ, i64_w, i32_w]
                rfl
              refine one_ (i := 3) (N := some 36) #[true, true, true, true, false, false, false, false, false, false, false, false, false, false, false, false, false, false, false, false, false, false, false, false] rfl rfl (one_of HT_.out (by kernel_rfl)) (by decide) (fun K hK => ?_)
              refine goes_ Try.func23 (by kernel_rfl) rfl #[.agg #[.int .i64 t182, .slice Ao20 t183.length co20]] (by rfl) rfl rfl (by (try simp only [List.map_toArray, List.map_cons, List.map_nil]); first | done | rfl | (simp only [List.length_drop, List.length_take]; rfl)) ?_
              with_reducible refine (downpourref01_Right.calls k t182 _ _ t183 t203 _ ?side1 ?side2 A39.out).mono ?_
              (case side1 => repeat (first | exact (Kd.V_reads' HO185.out).2.2 | (with_reducible refine Kd.C_alloc ?_ _) | (with_reducible refine Kd.C_drewN ?_ _) | (with_reducible refine Kd.C_drew ?_)))
              (case side2 => exact (Kd.V_reads' HO185.out).2.1)
              rintro e w60 ⟨rfl, hb⟩
              refine ⟨_, rfl, ?_⟩
              have n0_ := Aside0.mk (Kd.V_below (pv HO185) hb)
              have n1_ := Aside0.mk (Kd.V_below (pv HO189) hb)
              have n2_ := Aside0.mk (Kd.R_below (pr HO193) hb)
              have n3_ := Aside0.mk (Kd.R_below (pr HO199) hb)
              have n4_ := bb BK179 hb
              have n5_ := bb BK180 hb
              have n6_ := bb BK195 hb
              have n7_ := bb BK201 hb
              have n8_ := Aside0.mk (below_step (by repeat (first | (with_reducible first | exact HB.out | apply below_alloc | apply pw_below_drewN | apply below_drew1 | refine below_set ?_ GE179.out | refine below_set ?_ GE180.out | refine below_set ?_ GE195.out | refine below_set ?_ GE201.out) | exact HB.out)) hb)
              clear HO185
              clear HO189
              clear HO193
              clear HO199
              clear BK179
              clear BK180
              clear BK195
              clear BK201
              clear HB
              have HO185 := n0_
              have HO189 := n1_
              have HO193 := n2_
              have HO199 := n3_
              have BK179 := n4_
              have BK180 := n5_
              have BK195 := n6_
              have BK201 := n7_
              have HB := n8_
              clear n0_ n1_ n2_ n3_ n4_ n5_ n6_ n7_ n8_
              (try clear hb)
              (try clear hb2)
              (try clear hk)
              (try clear hi)
              refine hK.out _ _ ⟨(blk_cell BK179.out 0).trans rfl, (blk_cell BK179.out 1).trans rfl, (blk_cell BK180.out 0).trans rfl, (blk_cell BK180.out 1).trans rfl⟩ (fun hHeld => ?_)
              clear hK K
              refine norm_ (a' := ?_) ?_ ?_
              rotate_left
              · show Act.put _ (some 36) _ = _
                simp only [Act.put, List.setIfInBounds_toArray, List.set_cons_zero, List.set_cons_succ, i64_w, i32_w]
                rfl
              refine pure_ (i := 4) (N := some 37) (v := ?_) (a' := ?_) #[true, true, true, true, true, false, false, false, false, false, false, false, false, false, false, false, false, false, false, false, false, false, false, false] rfl rfl (any_of HT_.out (by kernel_rfl)) (fun _ _ _ h => h) (Or.inl ⟨by rfl, ?_⟩) ?_ ?_
              rotate_left
              · intro w'
                go_simp
                with_reducible rfl
              rotate_left
              · simp only [Act.put, List.setIfInBounds_toArray, List.set_cons_zero, List.set_cons_succ, i64_w, i32_w]
                rfl
              refine pure_ (i := 5) (N := some 38) (v := ?_) (a' := ?_) #[true, true, true, true, true, true, false, false, false, false, false, false, false, false, false, false, false, false, false, false, false, false, false, false] rfl rfl (any_of HT_.out (by kernel_rfl)) (fun _ _ _ h => h) (Or.inl ⟨by rfl, ?_⟩) ?_ ?_
              rotate_left
              · intro w'
                go_simp
                with_reducible rfl
              rotate_left
              · simp only [Act.put, List.setIfInBounds_toArray, List.set_cons_zero, List.set_cons_succ, i64_w, i32_w]
                rfl
              refine take_ (i := 6) (N := some 39) (v := ?_) (a' := ?_) #[true, true, true, true, true, true, true, false, false, false, false, false, false, false, false, false, false, false, false, false, false, false, false, false] rfl rfl (take_ofW HT_.out HW_.out (by kernel_rfl)) (fun _ _ _ h => h) (Or.inl ⟨by rfl, ?_⟩) hHeld ?_ ?_
              rotate_left
              · rintro w' ⟨s0, s1, s2, s3⟩
                go_simp
                with_reducible rfl
              rotate_left
              · simp only [Act.put, List.setIfInBounds_toArray, List.set_cons_zero, List.set_cons_succ, i64_w, i32_w]
                rfl
              refine take_ (i := 7) (N := some 40) (v := ?_) (a' := ?_) #[true, true, true, true, true, true, true, true, false, false, false, false, false, false, false, false, false, false, false, false, false, false, false, false] rfl rfl (take_ofW HT_.out HW_.out (by kernel_rfl)) (fun _ _ _ h => h) (Or.inl ⟨by rfl, ?_⟩) hHeld ?_ ?_
              rotate_left
              · rintro w' ⟨s0, s1, s2, s3⟩
                go_simp
                with_reducible rfl
              rotate_left
              · simp only [Act.put, List.setIfInBounds_toArray, List.set_cons_zero, List.set_cons_succ, i64_w, i32_w]
                rfl
              refine take_ (i := 9) (N := some 42) (v := ?_) (a' := ?_) #[true, true, true, true, true, true, true, true, false, true, false, false, false, false, false, false, false, false, false, false, false, false, false, false] rfl rfl (take_ofW HT_.out HW_.out (by kernel_rfl)) (fun _ _ _ h => h) (Or.inl ⟨by rfl, ?_⟩) hHeld ?_ ?_
              rotate_left
              · rintro w' ⟨s0, s1, s2, s3⟩
                go_simp
                with_reducible rfl
              rotate_left
              · simp only [Act.put, List.setIfInBounds_toArray, List.set_cons_zero, List.set_cons_succ, i64_w, i32_w]
                rfl
              refine take_ (i := 10) (N := some 43) (v := ?_) (a' := ?_) #[true, true, true, true, true, true, true, true, false, true, true, false, false, false, false, false, false, false, false, false, false, false, false, false] rfl rfl (take_ofW HT_.out HW_.out (by kernel_rfl)) (fun _ _ _ h => h) (Or.inl ⟨by rfl, ?_⟩) hHeld ?_ ?_
              rotate_left
              · rintro w' ⟨s0, s1, s2, s3⟩
                go_simp
                with_reducible rfl
              rotate_left
              · simp only [Act.put, List.setIfInBounds_toArray, List.set_cons_zero, List.set_cons_succ, i64_w, i32_w]
                rfl
              refine one_ (i := 8) (N := some 41) #[true, true, true, true, true, true, true, true, true, true, true, false, false, false, false, false, false, false, false, false, false, false, false, false] rfl rfl (one_of HT_.out (by kernel_rfl)) (by decide) (fun K hK => ?_)
              refine goes_ Try.func24 (by kernel_rfl) rfl #[.agg #[.int .i64 t182, .slice Ao20 t183.length co20], .agg #[.int .i64 t186, .slice Ao23 t187.length co23]] (by rfl) rfl rfl (by (try simp only [List.map_toArray, List.map_cons, List.map_nil]); first | done | rfl | (simp only [List.length_drop, List.length_take]; rfl)) ?_
              with_reducible refine (bitrow_Like.calls k t182 _ _ t183 t186 _ _ t187 t204 _ ?side1 ?side2 ?side3 ?side4 A45.out).mono ?_
              (case side1 => repeat (first | exact (Kd.V_reads' HO185.out).2.2 | (with_reducible refine Kd.C_alloc ?_ _) | (with_reducible refine Kd.C_drewN ?_ _) | (with_reducible refine Kd.C_drew ?_)))
              (case side2 => exact (Kd.V_reads' HO185.out).2.1)
              (case side3 => repeat (first | exact (Kd.V_reads' HO189.out).2.2 | (with_reducible refine Kd.C_alloc ?_ _) | (with_reducible refine Kd.C_drewN ?_ _) | (with_reducible refine Kd.C_drew ?_)))
              (case side4 => exact (Kd.V_reads' HO189.out).2.1)
              rintro e w61 ⟨rfl, hb⟩
              refine ⟨_, rfl, ?_⟩
              have n0_ := Aside0.mk (Kd.V_below (pv HO185) hb)
              have n1_ := Aside0.mk (Kd.V_below (pv HO189) hb)
              have n2_ := Aside0.mk (Kd.R_below (pr HO193) hb)
              have n3_ := Aside0.mk (Kd.R_below (pr HO199) hb)
              have n4_ := bb BK179 hb
              have n5_ := bb BK180 hb
              have n6_ := bb BK195 hb
              have n7_ := bb BK201 hb
              have n8_ := Aside0.mk (below_step (by repeat (first | (with_reducible first | exact HB.out | apply below_alloc | apply pw_below_drewN | apply below_drew1 | refine below_set ?_ GE179.out | refine below_set ?_ GE180.out | refine below_set ?_ GE195.out | refine below_set ?_ GE201.out) | exact HB.out)) hb)
              clear HO185
              clear HO189
              clear HO193
              clear HO199
              clear BK179
              clear BK180
              clear BK195
              clear BK201
              clear HB
              have HO185 := n0_
              have HO189 := n1_
              have HO193 := n2_
              have HO199 := n3_
              have BK179 := n4_
              have BK180 := n5_
              have BK195 := n6_
              have BK201 := n7_
              have HB := n8_
              clear n0_ n1_ n2_ n3_ n4_ n5_ n6_ n7_ n8_
              (try clear hb)
              (try clear hb2)
              (try clear hk)
              (try clear hi)
              refine hK.out _ _ ⟨(blk_cell BK179.out 0).trans rfl, (blk_cell BK179.out 1).trans rfl, (blk_cell BK180.out 0).trans rfl, (blk_cell BK180.out 1).trans rfl⟩ (fun hHeld => ?_)
              clear hK K
              refine norm_ (a' := ?_) ?_ ?_
              rotate_left
              · show Act.put _ (some 41) _ = _
                simp only [Act.put, List.setIfInBounds_toArray, List.set_cons_zero, List.set_cons_succ, i64_w, i32_w]
                rfl
              refine one_ (i := 11) (N := some 44) #[true, true, true, true, true, true, true, true, true, true, true, true, false, false, false, false, false, false, false, false, false, false, false, false] rfl rfl (one_of HT_.out (by kernel_rfl)) (by decide) (fun K hK => ?_)
              refine goes_ Try.func25 (by kernel_rfl) rfl #[.agg #[.int .i64 t182, .slice Ao20 t183.length co20], .agg #[.int .i64 t186, .slice Ao23 t187.length co23]] (by rfl) rfl rfl (by (try simp only [List.map_toArray, List.map_cons, List.map_nil]); first | done | rfl | (simp only [List.length_drop, List.length_take]; rfl)) ?_
              with_reducible refine (downpourref01_Same.calls k t182 _ _ t183 t186 _ _ t187 t205 _ ?side1 ?side2 ?side3 ?side4 A46.out).mono ?_
              (case side1 => repeat (first | exact (Kd.V_reads' HO185.out).2.2 | (with_reducible refine Kd.C_alloc ?_ _) | (with_reducible refine Kd.C_drewN ?_ _) | (with_reducible refine Kd.C_drew ?_)))
              (case side2 => exact (Kd.V_reads' HO185.out).2.1)
              (case side3 => repeat (first | exact (Kd.V_reads' HO189.out).2.2 | (with_reducible refine Kd.C_alloc ?_ _) | (with_reducible refine Kd.C_drewN ?_ _) | (with_reducible refine Kd.C_drew ?_)))
              (case side4 => exact (Kd.V_reads' HO189.out).2.1)
              rintro e w62 ⟨rfl, hb⟩
              refine ⟨_, rfl, ?_⟩
              have n0_ := Aside0.mk (Kd.V_below (pv HO185) hb)
              have n1_ := Aside0.mk (Kd.V_below (pv HO189) hb)
              have n2_ := Aside0.mk (Kd.R_below (pr HO193) hb)
              have n3_ := Aside0.mk (Kd.R_below (pr HO199) hb)
              have n4_ := bb BK179 hb
              have n5_ := bb BK180 hb
              have n6_ := bb BK195 hb
              have n7_ := bb BK201 hb
              have n8_ := Aside0.mk (below_step (by repeat (first | (with_reducible first | exact HB.out | apply below_alloc | apply pw_below_drewN | apply below_drew1 | refine below_set ?_ GE179.out | refine below_set ?_ GE180.out | refine below_set ?_ GE195.out | refine below_set ?_ GE201.out) | exact HB.out)) hb)
              clear HO185
              clear HO189
              clear HO193
              clear HO199
              clear BK179
              clear BK180
              clear BK195
              clear BK201
              clear HB
              have HO185 := n0_
              have HO189 := n1_
              have HO193 := n2_
              have HO199 := n3_
              have BK179 := n4_
              have BK180 := n5_
              have BK195 := n6_
              have BK201 := n7_
              have HB := n8_
              clear n0_ n1_ n2_ n3_ n4_ n5_ n6_ n7_ n8_
              (try clear hb)
              (try clear hb2)
              (try clear hk)
              (try clear hi)
              refine hK.out _ _ ⟨(blk_cell BK179.out 0).trans rfl, (blk_cell BK179.out 1).trans rfl, (blk_cell BK180.out 0).trans rfl, (blk_cell BK180.out 1).trans rfl⟩ (fun hHeld => ?_)
              clear hK K
              refine norm_ (a' := ?_) ?_ ?_
              rotate_left
              · show Act.put _ (some 44) _ = _
                simp only [Act.put, List.setIfInBounds_toArray, List.set_cons_zero, List.set_cons_succ, i64_w, i32_w]
                rfl
              refine pure_ (i := 12) (N := some 45) (v := ?_) (a' := ?_) #[true, true, true, true, true, true, true, true, true, true, true, true, true, false, false, false, false, false, false, false, false, false, false, false] rfl rfl (any_of HT_.out (by kernel_rfl)) (fun _ _ _ h => h) (Or.inl ⟨by rfl, ?_⟩) ?_ ?_
              rotate_left
              · intro w'
                go_simp
                with_reducible rfl
              rotate_left
              · simp only [Act.put, List.setIfInBounds_toArray, List.set_cons_zero, List.set_cons_succ, i64_w, i32_w]
                rfl
              refine pure_ (i := 13) (N := some 46) (v := ?_) (a' := ?_) #[true, true, true, true, true, true, true, true, true, true, true, true, true, true, false, false, false, false, false, false, false, false, false, false] rfl rfl (any_of HT_.out (by kernel_rfl)) (fun _ _ _ h => h) (Or.inl ⟨by rfl, ?_⟩) ?_ ?_
              rotate_left
              · intro w'
                go_simp
                with_reducible rfl
              rotate_left
              · simp only [Act.put, List.setIfInBounds_toArray, List.set_cons_zero, List.set_cons_succ, i64_w, i32_w]
                rfl
              refine pure_ (i := 14) (N := some 47) (v := ?_) (a' := ?_) #[true, true, true, true, true, true, true, true, true, true, true, true, true, true, true, false, false, false, false, false, false, false, false, false] rfl rfl (any_of HT_.out (by kernel_rfl)) (fun _ _ _ h => h) (Or.inl ⟨by rfl, ?_⟩) ?_ ?_
              rotate_left
              · intro w'
                go_simp
                with_reducible rfl
              rotate_left
              · simp only [Act.put, List.setIfInBounds_toArray, List.set_cons_zero, List.set_cons_succ, i64_w, i32_w]
                rfl
              refine take_ (i := 15) (N := some 48) (v := ?_) (a' := ?_) #[true, true, true, true, true, true, true, true, true, true, true, true, true, true, true, true, false, false, false, false, false, false, false, false] rfl rfl (take_ofW HT_.out HW_.out (by kernel_rfl)) (fun _ _ _ h => h) (Or.inl ⟨by rfl, ?_⟩) hHeld ?_ ?_
              rotate_left
              · rintro w' ⟨s0, s1, s2, s3⟩
                go_simp
                with_reducible rfl
              rotate_left
              · simp only [Act.put, List.setIfInBounds_toArray, List.set_cons_zero, List.set_cons_succ, i64_w, i32_w]
                rfl
              refine take_ (i := 16) (N := some 49) (v := ?_) (a' := ?_) #[true, true, true, true, true, true, true, true, true, true, true, true, true, true, true, true, true, false, false, false, false, false, false, false] rfl rfl (take_ofW HT_.out HW_.out (by kernel_rfl)) (fun _ _ _ h => h) (Or.inl ⟨by rfl, ?_⟩) hHeld ?_ ?_
              rotate_left
              · rintro w' ⟨s0, s1, s2, s3⟩
                go_simp
                with_reducible rfl
              rotate_left
              · simp only [Act.put, List.setIfInBounds_toArray, List.set_cons_zero, List.set_cons_succ, i64_w, i32_w]
                rfl
              refine one_ (i := 17) (N := some 50) #[true, true, true, true, true, true, true, true, true, true, true, true, true, true, true, true, true, true, false, false, false, false, false, false] rfl rfl (one_of HT_.out (by kernel_rfl)) (by decide) (fun K hK => ?_)
              refine goes_ Try.func24 (by kernel_rfl) rfl #[.agg #[.int .i64 t182, .slice Ao20 t183.length co20], .agg #[.int .i64 t182, .slice Ao20 t183.length co20]] (by rfl) rfl rfl (by (try simp only [List.map_toArray, List.map_cons, List.map_nil]); first | done | rfl | (simp only [List.length_drop, List.length_take]; rfl)) ?_
              with_reducible refine (bitrow_Like.calls k t182 _ _ t183 t182 _ _ t183 true _ ?side1 ?side2 ?side3 ?side4 A54.out).mono ?_
              (case side1 => repeat (first | exact (Kd.V_reads' HO185.out).2.2 | (with_reducible refine Kd.C_alloc ?_ _) | (with_reducible refine Kd.C_drewN ?_ _) | (with_reducible refine Kd.C_drew ?_)))
              (case side2 => exact (Kd.V_reads' HO185.out).2.1)
              (case side3 => repeat (first | exact (Kd.V_reads' HO185.out).2.2 | (with_reducible refine Kd.C_alloc ?_ _) | (with_reducible refine Kd.C_drewN ?_ _) | (with_reducible refine Kd.C_drew ?_)))
              (case side4 => exact (Kd.V_reads' HO185.out).2.1)
              rintro e w63 ⟨rfl, hb⟩
              refine ⟨_, rfl, ?_⟩
              have n0_ := Aside0.mk (Kd.V_below (pv HO185) hb)
              have n1_ := Aside0.mk (Kd.V_below (pv HO189) hb)
              have n2_ := Aside0.mk (Kd.R_below (pr HO193) hb)
              have n3_ := Aside0.mk (Kd.R_below (pr HO199) hb)
              have n4_ := bb BK179 hb
              have n5_ := bb BK180 hb
              have n6_ := bb BK195 hb
              have n7_ := bb BK201 hb
              have n8_ := Aside0.mk (below_step (by repeat (first | (with_reducible first | exact HB.out | apply below_alloc | apply pw_below_drewN | apply below_drew1 | refine below_set ?_ GE179.out | refine below_set ?_ GE180.out | refine below_set ?_ GE195.out | refine below_set ?_ GE201.out) | exact HB.out)) hb)
              clear HO185
              clear HO189
              clear HO193
              clear HO199
              clear BK179
              clear BK180
              clear BK195
              clear BK201
              clear HB
              have HO185 := n0_
              have HO189 := n1_
              have HO193 := n2_
              have HO199 := n3_
              have BK179 := n4_
              have BK180 := n5_
              have BK195 := n6_
              have BK201 := n7_
              have HB := n8_
              clear n0_ n1_ n2_ n3_ n4_ n5_ n6_ n7_ n8_
              (try clear hb)
              (try clear hb2)
              (try clear hk)
              (try clear hi)
              refine hK.out _ _ ⟨(blk_cell BK179.out 0).trans rfl, (blk_cell BK179.out 1).trans rfl, (blk_cell BK180.out 0).trans rfl, (blk_cell BK180.out 1).trans rfl⟩ (fun hHeld => ?_)
              clear hK K
              refine norm_ (a' := ?_) ?_ ?_
              rotate_left
              · show Act.put _ (some 50) _ = _
                simp only [Act.put, List.setIfInBounds_toArray, List.set_cons_zero, List.set_cons_succ, i64_w, i32_w]
                rfl
              refine pure_ (i := 18) (N := some 51) (v := ?_) (a' := ?_) #[true, true, true, true, true, true, true, true, true, true, true, true, true, true, true, true, true, true, true, false, false, false, false, false] rfl rfl (any_of HT_.out (by kernel_rfl)) (fun _ _ _ h => h) (Or.inl ⟨by rfl, ?_⟩) ?_ ?_
              rotate_left
              · intro w'
                go_simp
                with_reducible rfl
              rotate_left
              · simp only [Act.put, List.setIfInBounds_toArray, List.set_cons_zero, List.set_cons_succ, i64_w, i32_w]
                rfl
              refine pure_ (i := 19) (N := some 52) (v := ?_) (a' := ?_) #[true, true, true, true, true, true, true, true, true, true, true, true, true, true, true, true, true, true, true, true, false, false, false, false] rfl rfl (any_of HT_.out (by kernel_rfl)) (fun _ _ _ h => h) (Or.inl ⟨by rfl, ?_⟩) ?_ ?_
              rotate_left
              · intro w'
                go_simp
                with_reducible rfl
              rotate_left
              · simp only [Act.put, List.setIfInBounds_toArray, List.set_cons_zero, List.set_cons_succ, i64_w, i32_w]
                rfl
              refine pure_ (i := 20) (N := some 53) (v := ?_) (a' := ?_) #[true, true, true, true, true, true, true, true, true, true, true, true, true, true, true, true, true, true, true, true, true, false, false, false] rfl rfl (any_of HT_.out (by kernel_rfl)) (fun _ _ _ h => h) (Or.inl ⟨by rfl, ?_⟩) ?_ ?_
              rotate_left
              · intro w'
                go_simp
                with_reducible rfl
              rotate_left
              · simp only [Act.put, List.setIfInBounds_toArray, List.set_cons_zero, List.set_cons_succ, i64_w, i32_w]
                rfl
              refine one_ (i := 21) (N := some 54) #[true, true, true, true, true, true, true, true, true, true, true, true, true, true, true, true, true, true, true, true, true, true, false, false] rfl rfl (one_of HT_.out (by kernel_rfl)) (by decide) (fun K hK => ?_)
              refine goes_ Try.func26 (by kernel_rfl) rfl #[] (by rfl) rfl rfl (by (try simp only [List.map_toArray, List.map_cons, List.map_nil]); first | done | rfl | (simp only [List.length_drop, List.length_take]; rfl)) ?_
              with_reducible refine (downpourlaw01_alive.calls k  t207 _ A56.out).mono ?_
              rintro e w64 ⟨rfl, hb⟩
              refine ⟨_, rfl, ?_⟩
              have n0_ := Aside0.mk (Kd.V_below (pv HO185) hb)
              have n1_ := Aside0.mk (Kd.V_below (pv HO189) hb)
              have n2_ := Aside0.mk (Kd.R_below (pr HO193) hb)
              have n3_ := Aside0.mk (Kd.R_below (pr HO199) hb)
              have n4_ := bb BK179 hb
              have n5_ := bb BK180 hb
              have n6_ := bb BK195 hb
              have n7_ := bb BK201 hb
              have n8_ := Aside0.mk (below_step (by repeat (first | (with_reducible first | exact HB.out | apply below_alloc | apply pw_below_drewN | apply below_drew1 | refine below_set ?_ GE179.out | refine below_set ?_ GE180.out | refine below_set ?_ GE195.out | refine below_set ?_ GE201.out) | exact HB.out)) hb)
              clear HO185
              clear HO189
              clear HO193
              clear HO199
              clear BK179
              clear BK180
              clear BK195
              clear BK201
              clear HB
              have HO185 := n0_
              have HO189 := n1_
              have HO193 := n2_
              have HO199 := n3_
              have BK179 := n4_
              have BK180 := n5_
              have BK195 := n6_
              have BK201 := n7_
              have HB := n8_
              clear n0_ n1_ n2_ n3_ n4_ n5_ n6_ n7_ n8_
              (try clear hb)
              (try clear hb2)
              (try clear hk)
              (try clear hi)
              refine hK.out _ _ ⟨(blk_cell BK179.out 0).trans rfl, (blk_cell BK179.out 1).trans rfl, (blk_cell BK180.out 0).trans rfl, (blk_cell BK180.out 1).trans rfl⟩ (fun hHeld => ?_)
              clear hK K
              refine norm_ (a' := ?_) ?_ ?_
              rotate_left
              · show Act.put _ (some 54) _ = _
                simp only [Act.put, List.setIfInBounds_toArray, List.set_cons_zero, List.set_cons_succ, i64_w, i32_w]
                rfl
              refine pure_ (i := 22) (N := some 55) (v := ?_) (a' := ?_) #[true, true, true, true, true, true, true, true, true, true, true, true, true, true, true, true, true, true, true, true, true, true, true, false] rfl rfl (any_of HT_.out (by kernel_rfl)) (fun _ _ _ h => h) (Or.inl ⟨by rfl, ?_⟩) ?_ ?_
              rotate_left
              · intro w'
                go_simp
                with_reducible rfl
              rotate_left
              · simp only [Act.put, List.setIfInBounds_toArray, List.set_cons_zero, List.set_cons_succ, i64_w, i32_w]
                rfl
              refine pure_ (i := 23) (N := some 56) (v := ?_) (a' := ?_) #[true, true, true, true, true, true, true, true, true, true, true, true, true, true, true, true, true, true, true, true, true, true, true, true] rfl rfl (any_of HT_.out (by kernel_rfl)) (fun _ _ _ h => h) (Or.inl ⟨by rfl, ?_⟩) ?_ ?_
              rotate_left
              · intro w'
                go_simp
                with_reducible rfl
              rotate_left
              · simp only [Act.put, List.setIfInBounds_toArray, List.set_cons_zero, List.set_cons_succ, i64_w, i32_w]
                rfl
              refine done_ (done_of HT_.out (by kernel_rfl)) ?_
              try go_wp2
              go_meet
              case rel => exact ⟨_, (!t207), (by first | rfl | (simp; done) | (simp [*]; done)), H', ⟨by first | omega | exact Nat.le_refl _⟩, ⟨by (with_reducible repeat (first | apply Kd.V_alloc | apply Kd.V_drewN | apply Kd.V_drew)); exact HO185.out⟩, ⟨by (with_reducible repeat (first | apply Kd.V_alloc | apply Kd.V_drewN | apply Kd.V_drew)); exact HO189.out⟩, ⟨by (with_reducible repeat (first | apply Kd.R_alloc | apply Kd.R_drewN | apply Kd.R_drew)); exact HO193.out⟩, ⟨by (with_reducible repeat (first | apply Kd.R_alloc | apply Kd.R_drewN | apply Kd.R_drew)); exact HO199.out⟩, ⟨by (with_reducible repeat (first | refine blk_drewN ?_ _ | refine blk_drew ?_ | refine blk_alloc ?_ _)); exact BK179.out⟩, ⟨by (with_reducible repeat (first | refine blk_drewN ?_ _ | refine blk_drew ?_ | refine blk_alloc ?_ _)); exact BK180.out⟩, ⟨by (with_reducible repeat (first | refine blk_drewN ?_ _ | refine blk_drew ?_ | refine blk_alloc ?_ _)); exact BK195.out⟩, ⟨by (with_reducible repeat (first | refine blk_drewN ?_ _ | refine blk_drew ?_ | refine blk_alloc ?_ _)); exact BK201.out⟩, ⟨by repeat (first | (with_reducible first | exact HB.out | apply below_alloc | apply pw_below_drewN | apply below_drew1 | refine below_set ?_ GE179.out | refine below_set ?_ GE180.out | refine below_set ?_ GE195.out | refine below_set ?_ GE201.out) | exact HB.out)⟩⟩
            · replace c55 := Bool.eq_false_iff.mpr c55
              subst c55
              have H1 : (downpourlaw01_BitrowMakes.j0 k a0 (l1.take ((ji5) : Int).toNat) t194 t200 true t190 t191 t196 t197) = some r := by rw [if_neg (show ¬ (false = true) by decide)] at H; exact H
              clear H
              have H := H1
              clear H1
              have H' := Aside0.mk H
              clear H
              try go_wp2
              have n0_ : Aside0 (Kd.V (Kd.int .u64) 59 ((w32.setCell ⟨gb201, 0, none⟩ (.int .i64 t196)).setCell ⟨gb201, 1, none⟩ (.slice Ao37 t197.length co37)) w.heap.size (fun k_ => some k_ ≠ (.slice Ao30 t191.length co30 : Value).ownBlock ∧ some k_ ≠ (.slice Ao37 t197.length co37 : Value).ownBlock ∧ k_ ≠ gb179 ∧ k_ ≠ gb180 ∧ k_ ≠ gb195 ∧ k_ ≠ gb201) (.slice Ao20 t183.length co20) t183) := ⟨by (with_reducible repeat (first | apply Kd.V_alloc | apply Kd.V_drewN | apply Kd.V_drew)); exact Kd.V_mono (Kd.V_far (p := ⟨gb201, 1, none⟩) (Kd.V_far (p := ⟨gb201, 0, none⟩) (Kd.V_mono HO185.out (fun k_ hk => (⟨hk, hk.2⟩ : _ ∧ k_ ≠ gb201))) (fun _ hk => hk.2) (.int .i64 t196)) (fun _ hk => hk.2) (.slice Ao37 t197.length co37)) (fun _ hk => ⟨hk.1.1.1.1.2, ⟨hk.1.1.2, ⟨hk.1.1.1.1.1.1, ⟨hk.1.1.1.1.1.2, ⟨hk.1.1.1.2, hk.1.2⟩⟩⟩⟩⟩)⟩
              have n1_ : Aside0 (Kd.V (Kd.int .u64) 59 ((w32.setCell ⟨gb201, 0, none⟩ (.int .i64 t196)).setCell ⟨gb201, 1, none⟩ (.slice Ao37 t197.length co37)) w.heap.size (fun k_ => some k_ ≠ (.slice Ao30 t191.length co30 : Value).ownBlock ∧ some k_ ≠ (.slice Ao37 t197.length co37 : Value).ownBlock ∧ k_ ≠ gb179 ∧ k_ ≠ gb180 ∧ k_ ≠ gb195 ∧ k_ ≠ gb201) (.slice Ao23 t187.length co23) t187) := ⟨by (with_reducible repeat (first | apply Kd.V_alloc | apply Kd.V_drewN | apply Kd.V_drew)); exact Kd.V_mono (Kd.V_far (p := ⟨gb201, 1, none⟩) (Kd.V_far (p := ⟨gb201, 0, none⟩) (Kd.V_mono HO189.out (fun k_ hk => (⟨hk, hk.2⟩ : _ ∧ k_ ≠ gb201))) (fun _ hk => hk.2) (.int .i64 t196)) (fun _ hk => hk.2) (.slice Ao37 t197.length co37)) (fun _ hk => ⟨hk.1.1.1.1.2, ⟨hk.1.1.2, ⟨hk.1.1.1.1.1.1, ⟨hk.1.1.1.1.1.2, ⟨hk.1.1.1.2, hk.1.2⟩⟩⟩⟩⟩)⟩
              have n2_ : Aside0 (Kd.R (Kd.int .u64) 59 ((w32.setCell ⟨gb201, 0, none⟩ (.int .i64 t196)).setCell ⟨gb201, 1, none⟩ (.slice Ao37 t197.length co37)) w.heap.size (fun k_ => some k_ ≠ (.slice Ao37 t197.length co37 : Value).ownBlock) (.slice Ao30 t191.length co30) t191) := ⟨by (with_reducible repeat (first | apply Kd.R_alloc | apply Kd.R_drewN | apply Kd.R_drew)); exact Kd.R_mono (Kd.R_far (p := ⟨gb201, 1, none⟩) (Kd.R_far (p := ⟨gb201, 0, none⟩) (Kd.R_types HO193.out BK201.out (by decide)) (fun _ hk => hk.2) (.int .i64 t196)) (fun _ hk => hk.2) (.slice Ao37 t197.length co37)) (fun _ hk => hk.1.2)⟩
              have n3_ : Aside0 (Kd.R (Kd.int .u64) 59 ((w32.setCell ⟨gb201, 0, none⟩ (.int .i64 t196)).setCell ⟨gb201, 1, none⟩ (.slice Ao37 t197.length co37)) w.heap.size (fun k_ => some k_ ≠ (.slice Ao30 t191.length co30 : Value).ownBlock) (.slice Ao37 t197.length co37) t197) := ⟨by (with_reducible repeat (first | apply Kd.R_alloc | apply Kd.R_drewN | apply Kd.R_drew)); exact Kd.R_mono (Kd.R_far (p := ⟨gb201, 1, none⟩) (Kd.R_far (p := ⟨gb201, 0, none⟩) (Kd.R_types HO199.out BK201.out (by decide)) (fun _ hk => hk.2) (.int .i64 t196)) (fun _ hk => hk.2) (.slice Ao37 t197.length co37)) (fun _ hk => hk.1.2)⟩
              have n4_ : Aside0 (((w32.setCell ⟨gb201, 0, none⟩ (.int .i64 t196)).setCell ⟨gb201, 1, none⟩ (.slice Ao37 t197.length co37)).heap[gb179]? = some (.cells #[.int .i64 t182, .slice Ao20 t183.length co20] 25 (0, 0))) := ⟨by (with_reducible repeat (first | refine blk_drewN ?_ _ | refine blk_drew ?_ | refine blk_alloc ?_ _)); refine blk_far ?_ NB179_201.out _; (with_reducible repeat (first | refine blk_drewN ?_ _ | refine blk_drew ?_ | refine blk_alloc ?_ _)); refine blk_far ?_ NB179_201.out _; (with_reducible repeat (first | refine blk_drewN ?_ _ | refine blk_drew ?_ | refine blk_alloc ?_ _)); exact BK179.out⟩
              have n5_ : Aside0 (((w32.setCell ⟨gb201, 0, none⟩ (.int .i64 t196)).setCell ⟨gb201, 1, none⟩ (.slice Ao37 t197.length co37)).heap[gb180]? = some (.cells #[.int .i64 t186, .slice Ao23 t187.length co23] 25 (0, 0))) := ⟨by (with_reducible repeat (first | refine blk_drewN ?_ _ | refine blk_drew ?_ | refine blk_alloc ?_ _)); refine blk_far ?_ NB180_201.out _; (with_reducible repeat (first | refine blk_drewN ?_ _ | refine blk_drew ?_ | refine blk_alloc ?_ _)); refine blk_far ?_ NB180_201.out _; (with_reducible repeat (first | refine blk_drewN ?_ _ | refine blk_drew ?_ | refine blk_alloc ?_ _)); exact BK180.out⟩
              have n6_ : Aside0 (((w32.setCell ⟨gb201, 0, none⟩ (.int .i64 t196)).setCell ⟨gb201, 1, none⟩ (.slice Ao37 t197.length co37)).heap[gb195]? = some (.cells #[.int .i64 t190, .slice Ao30 t191.length co30] 25 (0, 0))) := ⟨by (with_reducible repeat (first | refine blk_drewN ?_ _ | refine blk_drew ?_ | refine blk_alloc ?_ _)); refine blk_far ?_ NB195_201.out _; (with_reducible repeat (first | refine blk_drewN ?_ _ | refine blk_drew ?_ | refine blk_alloc ?_ _)); refine blk_far ?_ NB195_201.out _; (with_reducible repeat (first | refine blk_drewN ?_ _ | refine blk_drew ?_ | refine blk_alloc ?_ _)); exact BK195.out⟩
              have n7_ : Aside0 (((w32.setCell ⟨gb201, 0, none⟩ (.int .i64 t196)).setCell ⟨gb201, 1, none⟩ (.slice Ao37 t197.length co37)).heap[gb201]? = some (.cells #[.int .i64 t196, .slice Ao37 t197.length co37] 25 (0, 0))) := ⟨by (with_reducible repeat (first | refine blk_drewN ?_ _ | refine blk_drew ?_ | refine blk_alloc ?_ _)); refine blk_put (cs := #[.int .i64 t196, .slice none 0 0]) ?_ 1 _ rfl; (with_reducible repeat (first | refine blk_drewN ?_ _ | refine blk_drew ?_ | refine blk_alloc ?_ _)); refine blk_put (cs := #[.int .i64 0, .slice none 0 0]) ?_ 0 _ rfl; (with_reducible repeat (first | refine blk_drewN ?_ _ | refine blk_drew ?_ | refine blk_alloc ?_ _)); exact BK201.out⟩
              have n8_ : Aside0 (Below w.heap.size w ((w32.setCell ⟨gb201, 0, none⟩ (.int .i64 t196)).setCell ⟨gb201, 1, none⟩ (.slice Ao37 t197.length co37))) := ⟨by repeat (first | (with_reducible first | exact HB.out | apply below_alloc | apply pw_below_drewN | apply below_drew1 | refine below_set ?_ GE179.out | refine below_set ?_ GE180.out | refine below_set ?_ GE195.out | refine below_set ?_ GE201.out) | exact HB.out)⟩
              (try clear HO185)
              (try clear HO189)
              (try clear HO193)
              (try clear HO199)
              (try clear BK179)
              (try clear BK180)
              (try clear BK195)
              (try clear BK201)
              (try clear HB)
              generalize ((w32.setCell ⟨gb201, 0, none⟩ (.int .i64 t196)).setCell ⟨gb201, 1, none⟩ (.slice Ao37 t197.length co37)) = w65 at n0_ n1_ n2_ n3_ n4_ n5_ n6_ n7_ n8_ ⊢
              have HO185 := n0_
              have HO189 := n1_
              have HO193 := n2_
              have HO199 := n3_
              have BK179 := n4_
              have BK180 := n5_
              have BK195 := n6_
              have BK201 := n7_
              have HB := n8_
              clear n0_ n1_ n2_ n3_ n4_ n5_ n6_ n7_ n8_
              have n0_ := Aside0.mk (Kd.V_drew HO185.out)
              have n1_ := Aside0.mk (Kd.V_drew HO189.out)
              have n2_ := Aside0.mk (Kd.R_drew HO193.out)
              have n3_ := Aside0.mk (Kd.R_drew HO199.out)
              have n4_ := Aside0.mk (blk_drew BK179.out)
              have n5_ := Aside0.mk (blk_drew BK180.out)
              have n6_ := Aside0.mk (blk_drew BK195.out)
              have n7_ := Aside0.mk (blk_drew BK201.out)
              have n8_ := Aside0.mk (below_drew1 HB.out)
              clear HO185
              clear HO189
              clear HO193
              clear HO199
              clear BK179
              clear BK180
              clear BK195
              clear BK201
              clear HB
              have HO185 := n0_
              have HO189 := n1_
              have HO193 := n2_
              have HO199 := n3_
              have BK179 := n4_
              have BK180 := n5_
              have BK195 := n6_
              have BK201 := n7_
              have HB := n8_
              clear n0_ n1_ n2_ n3_ n4_ n5_ n6_ n7_ n8_
              refine start_ (n := 24) (S := fun w' => w'.cell? ⟨gb179, 0, none⟩ = some (.int .i64 t182) ∧ w'.cell? ⟨gb179, 1, none⟩ = some (.slice Ao20 t183.length co20) ∧ w'.cell? ⟨gb180, 0, none⟩ = some (.int .i64 t186) ∧ w'.cell? ⟨gb180, 1, none⟩ = some (.slice Ao23 t187.length co23)) (ds := []) #[false, false, false, false, false, false, false, false, false, false, false, false, false, false, false, false, false, false, false, false, false, false, false, false] (by kernel_rfl) rfl rfl ⟨(blk_cell BK179.out 0).trans rfl, (blk_cell BK179.out 1).trans rfl, (blk_cell BK180.out 0).trans rfl, (blk_cell BK180.out 1).trans rfl⟩ (fun hHeld => ?_); refine with_tabW downpourlaw01_BitrowMakes.tab4 downpourlaw01_BitrowMakes.bits4 (fun HT_ HW_ => ?_)
              generalize w65.drew = w66 at HO185 HO189 HO193 HO199 BK179 BK180 BK195 BK201 HB hHeld ⊢
              refine take_ (i := 0) (N := some 33) (v := ?_) (a' := ?_) #[true, false, false, false, false, false, false, false, false, false, false, false, false, false, false, false, false, false, false, false, false, false, false, false] rfl rfl (take_ofW HT_.out HW_.out (by kernel_rfl)) (fun _ _ _ h => h) (Or.inl ⟨by rfl, ?_⟩) hHeld ?_ ?_
              rotate_left
              · rintro w' ⟨s0, s1, s2, s3⟩
                go_simp
                with_reducible rfl
              rotate_left
              · simp only [Act.put, List.setIfInBounds_toArray, List.set_cons_zero, List.set_cons_succ, i64_w, i32_w]
                rfl
              refine take_ (i := 2) (N := some 35) (v := ?_) (a' := ?_) #[true, false, true, false, false, false, false, false, false, false, false, false, false, false, false, false, false, false, false, false, false, false, false, false] rfl rfl (take_ofW HT_.out HW_.out (by kernel_rfl)) (fun _ _ _ h => h) (Or.inl ⟨by rfl, ?_⟩) hHeld ?_ ?_
              rotate_left
              · rintro w' ⟨s0, s1, s2, s3⟩
                go_simp
                with_reducible rfl
              rotate_left
              · simp only [Act.put, List.setIfInBounds_toArray, List.set_cons_zero, List.set_cons_succ, i64_w, i32_w]
                rfl
              refine one_ (i := 1) (N := some 34) #[true, true, true, false, false, false, false, false, false, false, false, false, false, false, false, false, false, false, false, false, false, false, false, false] rfl rfl (one_of HT_.out (by kernel_rfl)) (by decide) (fun K hK => ?_)
              refine goes_ Try.func22 (by kernel_rfl) rfl #[.agg #[.int .i64 t182, .slice Ao20 t183.length co20]] (by rfl) rfl rfl (by (try simp only [List.map_toArray, List.map_cons, List.map_nil]); first | done | rfl | (simp only [List.length_drop, List.length_take]; rfl)) ?_
              with_reducible refine (bitrow_Right.calls t182 _ _ t183 t202 _ ?side1 ?side2 A38.out).mono ?_
              (case side1 => repeat (first | exact (Kd.V_reads' HO185.out).2.2 | (with_reducible refine Kd.C_alloc ?_ _) | (with_reducible refine Kd.C_drewN ?_ _) | (with_reducible refine Kd.C_drew ?_)))
              (case side2 => exact (Kd.V_reads' HO185.out).2.1)
              rintro e w67 ⟨rfl, hb⟩
              refine ⟨_, rfl, ?_⟩
              have n0_ := Aside0.mk (Kd.V_below (pv HO185) hb)
              have n1_ := Aside0.mk (Kd.V_below (pv HO189) hb)
              have n2_ := Aside0.mk (Kd.R_below (pr HO193) hb)
              have n3_ := Aside0.mk (Kd.R_below (pr HO199) hb)
              have n4_ := bb BK179 hb
              have n5_ := bb BK180 hb
              have n6_ := bb BK195 hb
              have n7_ := bb BK201 hb
              have n8_ := Aside0.mk (below_step (by repeat (first | (with_reducible first | exact HB.out | apply below_alloc | apply pw_below_drewN | apply below_drew1 | refine below_set ?_ GE179.out | refine below_set ?_ GE180.out | refine below_set ?_ GE195.out | refine below_set ?_ GE201.out) | exact HB.out)) hb)
              clear HO185
              clear HO189
              clear HO193
              clear HO199
              clear BK179
              clear BK180
              clear BK195
              clear BK201
              clear HB
              have HO185 := n0_
              have HO189 := n1_
              have HO193 := n2_
              have HO199 := n3_
              have BK179 := n4_
              have BK180 := n5_
              have BK195 := n6_
              have BK201 := n7_
              have HB := n8_
              clear n0_ n1_ n2_ n3_ n4_ n5_ n6_ n7_ n8_
              (try clear hb)
              (try clear hb2)
              (try clear hk)
              (try clear hi)
              refine hK.out _ _ ⟨(blk_cell BK179.out 0).trans rfl, (blk_cell BK179.out 1).trans rfl, (blk_cell BK180.out 0).trans rfl, (blk_cell BK180.out 1).trans rfl⟩ (fun hHeld => ?_)
              clear hK K
              refine norm_ (a' := ?_) ?_ ?_
              rotate_left
              · show Act.put _ (some 34) _ = _
                simp only [Act.put, List.setIfInBounds_toArray, List.set_cons_zero, List.set_cons_succ, i64_w, i32_w]
                rfl
              refine one_ (i := 3) (N := some 36) #[true, true, true, true, false, false, false, false, false, false, false, false, false, false, false, false, false, false, false, false, false, false, false, false] rfl rfl (one_of HT_.out (by kernel_rfl)) (by decide) (fun K hK => ?_)
              refine goes_ Try.func23 (by kernel_rfl) rfl #[.agg #[.int .i64 t182, .slice Ao20 t183.length co20]] (by rfl) rfl rfl (by (try simp only [List.map_toArray, List.map_cons, List.map_nil]); first | done | rfl | (simp only [List.length_drop, List.length_take]; rfl)) ?_
              with_reducible refine (downpourref01_Right.calls k t182 _ _ t183 t203 _ ?side1 ?side2 A39.out).mono ?_
              (case side1 => repeat (first | exact (Kd.V_reads' HO185.out).2.2 | (with_reducible refine Kd.C_alloc ?_ _) | (with_reducible refine Kd.C_drewN ?_ _) | (with_reducible refine Kd.C_drew ?_)))
              (case side2 => exact (Kd.V_reads' HO185.out).2.1)
              rintro e w68 ⟨rfl, hb⟩
              refine ⟨_, rfl, ?_⟩
              have n0_ := Aside0.mk (Kd.V_below (pv HO185) hb)
              have n1_ := Aside0.mk (Kd.V_below (pv HO189) hb)
              have n2_ := Aside0.mk (Kd.R_below (pr HO193) hb)
              have n3_ := Aside0.mk (Kd.R_below (pr HO199) hb)
              have n4_ := bb BK179 hb
              have n5_ := bb BK180 hb
              have n6_ := bb BK195 hb
              have n7_ := bb BK201 hb
              have n8_ := Aside0.mk (below_step (by repeat (first | (with_reducible first | exact HB.out | apply below_alloc | apply pw_below_drewN | apply below_drew1 | refine below_set ?_ GE179.out | refine below_set ?_ GE180.out | refine below_set ?_ GE195.out | refine below_set ?_ GE201.out) | exact HB.out)) hb)
              clear HO185
              clear HO189
              clear HO193
              clear HO199
              clear BK179
              clear BK180
              clear BK195
              clear BK201
              clear HB
              have HO185 := n0_
              have HO189 := n1_
              have HO193 := n2_
              have HO199 := n3_
              have BK179 := n4_
              have BK180 := n5_
              have BK195 := n6_
              have BK201 := n7_
              have HB := n8_
              clear n0_ n1_ n2_ n3_ n4_ n5_ n6_ n7_ n8_
              (try clear hb)
              (try clear hb2)
              (try clear hk)
              (try clear hi)
              refine hK.out _ _ ⟨(blk_cell BK179.out 0).trans rfl, (blk_cell BK179.out 1).trans rfl, (blk_cell BK180.out 0).trans rfl, (blk_cell BK180.out 1).trans rfl⟩ (fun hHeld => ?_)
              clear hK K
              refine norm_ (a' := ?_) ?_ ?_
              rotate_left
              · show Act.put _ (some 36) _ = _
                simp only [Act.put, List.setIfInBounds_toArray, List.set_cons_zero, List.set_cons_succ, i64_w, i32_w]
                rfl
              refine pure_ (i := 4) (N := some 37) (v := ?_) (a' := ?_) #[true, true, true, true, true, false, false, false, false, false, false, false, false, false, false, false, false, false, false, false, false, false, false, false] rfl rfl (any_of HT_.out (by kernel_rfl)) (fun _ _ _ h => h) (Or.inl ⟨by rfl, ?_⟩) ?_ ?_
              rotate_left
              · intro w'
                go_simp
                with_reducible rfl
              rotate_left
              · simp only [Act.put, List.setIfInBounds_toArray, List.set_cons_zero, List.set_cons_succ, i64_w, i32_w]
                rfl
              refine pure_ (i := 5) (N := some 38) (v := ?_) (a' := ?_) #[true, true, true, true, true, true, false, false, false, false, false, false, false, false, false, false, false, false, false, false, false, false, false, false] rfl rfl (any_of HT_.out (by kernel_rfl)) (fun _ _ _ h => h) (Or.inl ⟨by rfl, ?_⟩) ?_ ?_
              rotate_left
              · intro w'
                go_simp
                with_reducible rfl
              rotate_left
              · simp only [Act.put, List.setIfInBounds_toArray, List.set_cons_zero, List.set_cons_succ, i64_w, i32_w]
                rfl
              refine take_ (i := 6) (N := some 39) (v := ?_) (a' := ?_) #[true, true, true, true, true, true, true, false, false, false, false, false, false, false, false, false, false, false, false, false, false, false, false, false] rfl rfl (take_ofW HT_.out HW_.out (by kernel_rfl)) (fun _ _ _ h => h) (Or.inl ⟨by rfl, ?_⟩) hHeld ?_ ?_
              rotate_left
              · rintro w' ⟨s0, s1, s2, s3⟩
                go_simp
                with_reducible rfl
              rotate_left
              · simp only [Act.put, List.setIfInBounds_toArray, List.set_cons_zero, List.set_cons_succ, i64_w, i32_w]
                rfl
              refine take_ (i := 7) (N := some 40) (v := ?_) (a' := ?_) #[true, true, true, true, true, true, true, true, false, false, false, false, false, false, false, false, false, false, false, false, false, false, false, false] rfl rfl (take_ofW HT_.out HW_.out (by kernel_rfl)) (fun _ _ _ h => h) (Or.inl ⟨by rfl, ?_⟩) hHeld ?_ ?_
              rotate_left
              · rintro w' ⟨s0, s1, s2, s3⟩
                go_simp
                with_reducible rfl
              rotate_left
              · simp only [Act.put, List.setIfInBounds_toArray, List.set_cons_zero, List.set_cons_succ, i64_w, i32_w]
                rfl
              refine take_ (i := 9) (N := some 42) (v := ?_) (a' := ?_) #[true, true, true, true, true, true, true, true, false, true, false, false, false, false, false, false, false, false, false, false, false, false, false, false] rfl rfl (take_ofW HT_.out HW_.out (by kernel_rfl)) (fun _ _ _ h => h) (Or.inl ⟨by rfl, ?_⟩) hHeld ?_ ?_
              rotate_left
              · rintro w' ⟨s0, s1, s2, s3⟩
                go_simp
                with_reducible rfl
              rotate_left
              · simp only [Act.put, List.setIfInBounds_toArray, List.set_cons_zero, List.set_cons_succ, i64_w, i32_w]
                rfl
              refine take_ (i := 10) (N := some 43) (v := ?_) (a' := ?_) #[true, true, true, true, true, true, true, true, false, true, true, false, false, false, false, false, false, false, false, false, false, false, false, false] rfl rfl (take_ofW HT_.out HW_.out (by kernel_rfl)) (fun _ _ _ h => h) (Or.inl ⟨by rfl, ?_⟩) hHeld ?_ ?_
              rotate_left
              · rintro w' ⟨s0, s1, s2, s3⟩
                go_simp
                with_reducible rfl
              rotate_left
              · simp only [Act.put, List.setIfInBounds_toArray, List.set_cons_zero, List.set_cons_succ, i64_w, i32_w]
                rfl
              refine one_ (i := 8) (N := some 41) #[true, true, true, true, true, true, true, true, true, true, true, false, false, false, false, false, false, false, false, false, false, false, false, false] rfl rfl (one_of HT_.out (by kernel_rfl)) (by decide) (fun K hK => ?_)
              refine goes_ Try.func24 (by kernel_rfl) rfl #[.agg #[.int .i64 t182, .slice Ao20 t183.length co20], .agg #[.int .i64 t186, .slice Ao23 t187.length co23]] (by rfl) rfl rfl (by (try simp only [List.map_toArray, List.map_cons, List.map_nil]); first | done | rfl | (simp only [List.length_drop, List.length_take]; rfl)) ?_
              with_reducible refine (bitrow_Like.calls k t182 _ _ t183 t186 _ _ t187 t204 _ ?side1 ?side2 ?side3 ?side4 A45.out).mono ?_
              (case side1 => repeat (first | exact (Kd.V_reads' HO185.out).2.2 | (with_reducible refine Kd.C_alloc ?_ _) | (with_reducible refine Kd.C_drewN ?_ _) | (with_reducible refine Kd.C_drew ?_)))
              (case side2 => exact (Kd.V_reads' HO185.out).2.1)
              (case side3 => repeat (first | exact (Kd.V_reads' HO189.out).2.2 | (with_reducible refine Kd.C_alloc ?_ _) | (with_reducible refine Kd.C_drewN ?_ _) | (with_reducible refine Kd.C_drew ?_)))
              (case side4 => exact (Kd.V_reads' HO189.out).2.1)
              rintro e w69 ⟨rfl, hb⟩
              refine ⟨_, rfl, ?_⟩
              have n0_ := Aside0.mk (Kd.V_below (pv HO185) hb)
              have n1_ := Aside0.mk (Kd.V_below (pv HO189) hb)
              have n2_ := Aside0.mk (Kd.R_below (pr HO193) hb)
              have n3_ := Aside0.mk (Kd.R_below (pr HO199) hb)
              have n4_ := bb BK179 hb
              have n5_ := bb BK180 hb
              have n6_ := bb BK195 hb
              have n7_ := bb BK201 hb
              have n8_ := Aside0.mk (below_step (by repeat (first | (with_reducible first | exact HB.out | apply below_alloc | apply pw_below_drewN | apply below_drew1 | refine below_set ?_ GE179.out | refine below_set ?_ GE180.out | refine below_set ?_ GE195.out | refine below_set ?_ GE201.out) | exact HB.out)) hb)
              clear HO185
              clear HO189
              clear HO193
              clear HO199
              clear BK179
              clear BK180
              clear BK195
              clear BK201
              clear HB
              have HO185 := n0_
              have HO189 := n1_
              have HO193 := n2_
              have HO199 := n3_
              have BK179 := n4_
              have BK180 := n5_
              have BK195 := n6_
              have BK201 := n7_
              have HB := n8_
              clear n0_ n1_ n2_ n3_ n4_ n5_ n6_ n7_ n8_
              (try clear hb)
              (try clear hb2)
              (try clear hk)
              (try clear hi)
              refine hK.out _ _ ⟨(blk_cell BK179.out 0).trans rfl, (blk_cell BK179.out 1).trans rfl, (blk_cell BK180.out 0).trans rfl, (blk_cell BK180.out 1).trans rfl⟩ (fun hHeld => ?_)
              clear hK K
              refine norm_ (a' := ?_) ?_ ?_
              rotate_left
              · show Act.put _ (some 41) _ = _
                simp only [Act.put, List.setIfInBounds_toArray, List.set_cons_zero, List.set_cons_succ, i64_w, i32_w]
                rfl
              refine one_ (i := 11) (N := some 44) #[true, true, true, true, true, true, true, true, true, true, true, true, false, false, false, false, false, false, false, false, false, false, false, false] rfl rfl (one_of HT_.out (by kernel_rfl)) (by decide) (fun K hK => ?_)
              refine goes_ Try.func25 (by kernel_rfl) rfl #[.agg #[.int .i64 t182, .slice Ao20 t183.length co20], .agg #[.int .i64 t186, .slice Ao23 t187.length co23]] (by rfl) rfl rfl (by (try simp only [List.map_toArray, List.map_cons, List.map_nil]); first | done | rfl | (simp only [List.length_drop, List.length_take]; rfl)) ?_
              with_reducible refine (downpourref01_Same.calls k t182 _ _ t183 t186 _ _ t187 t205 _ ?side1 ?side2 ?side3 ?side4 A46.out).mono ?_
              (case side1 => repeat (first | exact (Kd.V_reads' HO185.out).2.2 | (with_reducible refine Kd.C_alloc ?_ _) | (with_reducible refine Kd.C_drewN ?_ _) | (with_reducible refine Kd.C_drew ?_)))
              (case side2 => exact (Kd.V_reads' HO185.out).2.1)
              (case side3 => repeat (first | exact (Kd.V_reads' HO189.out).2.2 | (with_reducible refine Kd.C_alloc ?_ _) | (with_reducible refine Kd.C_drewN ?_ _) | (with_reducible refine Kd.C_drew ?_)))
              (case side4 => exact (Kd.V_reads' HO189.out).2.1)
              rintro e w70 ⟨rfl, hb⟩
              refine ⟨_, rfl, ?_⟩
              have n0_ := Aside0.mk (Kd.V_below (pv HO185) hb)
              have n1_ := Aside0.mk (Kd.V_below (pv HO189) hb)
              have n2_ := Aside0.mk (Kd.R_below (pr HO193) hb)
              have n3_ := Aside0.mk (Kd.R_below (pr HO199) hb)
              have n4_ := bb BK179 hb
              have n5_ := bb BK180 hb
              have n6_ := bb BK195 hb
              have n7_ := bb BK201 hb
              have n8_ := Aside0.mk (below_step (by repeat (first | (with_reducible first | exact HB.out | apply below_alloc | apply pw_below_drewN | apply below_drew1 | refine below_set ?_ GE179.out | refine below_set ?_ GE180.out | refine below_set ?_ GE195.out | refine below_set ?_ GE201.out) | exact HB.out)) hb)
              clear HO185
              clear HO189
              clear HO193
              clear HO199
              clear BK179
              clear BK180
              clear BK195
              clear BK201
              clear HB
              have HO185 := n0_
              have HO189 := n1_
              have HO193 := n2_
              have HO199 := n3_
              have BK179 := n4_
              have BK180 := n5_
              have BK195 := n6_
              have BK201 := n7_
              have HB := n8_
              clear n0_ n1_ n2_ n3_ n4_ n5_ n6_ n7_ n8_
              (try clear hb)
              (try clear hb2)
              (try clear hk)
              (try clear hi)
              refine hK.out _ _ ⟨(blk_cell BK179.out 0).trans rfl, (blk_cell BK179.out 1).trans rfl, (blk_cell BK180.out 0).trans rfl, (blk_cell BK180.out 1).trans rfl⟩ (fun hHeld => ?_)
              clear hK K
              refine norm_ (a' := ?_) ?_ ?_
              rotate_left
              · show Act.put _ (some 44) _ = _
                simp only [Act.put, List.setIfInBounds_toArray, List.set_cons_zero, List.set_cons_succ, i64_w, i32_w]
                rfl
              refine pure_ (i := 12) (N := some 45) (v := ?_) (a' := ?_) #[true, true, true, true, true, true, true, true, true, true, true, true, true, false, false, false, false, false, false, false, false, false, false, false] rfl rfl (any_of HT_.out (by kernel_rfl)) (fun _ _ _ h => h) (Or.inl ⟨by rfl, ?_⟩) ?_ ?_
              rotate_left
              · intro w'
                go_simp
                with_reducible rfl
              rotate_left
              · simp only [Act.put, List.setIfInBounds_toArray, List.set_cons_zero, List.set_cons_succ, i64_w, i32_w]
                rfl
              refine pure_ (i := 13) (N := some 46) (v := ?_) (a' := ?_) #[true, true, true, true, true, true, true, true, true, true, true, true, true, true, false, false, false, false, false, false, false, false, false, false] rfl rfl (any_of HT_.out (by kernel_rfl)) (fun _ _ _ h => h) (Or.inl ⟨by rfl, ?_⟩) ?_ ?_
              rotate_left
              · intro w'
                go_simp
                with_reducible rfl
              rotate_left
              · simp only [Act.put, List.setIfInBounds_toArray, List.set_cons_zero, List.set_cons_succ, i64_w, i32_w]
                rfl
              refine pure_ (i := 14) (N := some 47) (v := ?_) (a' := ?_) #[true, true, true, true, true, true, true, true, true, true, true, true, true, true, true, false, false, false, false, false, false, false, false, false] rfl rfl (any_of HT_.out (by kernel_rfl)) (fun _ _ _ h => h) (Or.inl ⟨by rfl, ?_⟩) ?_ ?_
              rotate_left
              · intro w'
                go_simp
                with_reducible rfl
              rotate_left
              · simp only [Act.put, List.setIfInBounds_toArray, List.set_cons_zero, List.set_cons_succ, i64_w, i32_w]
                rfl
              refine take_ (i := 15) (N := some 48) (v := ?_) (a' := ?_) #[true, true, true, true, true, true, true, true, true, true, true, true, true, true, true, true, false, false, false, false, false, false, false, false] rfl rfl (take_ofW HT_.out HW_.out (by kernel_rfl)) (fun _ _ _ h => h) (Or.inl ⟨by rfl, ?_⟩) hHeld ?_ ?_
              rotate_left
              · rintro w' ⟨s0, s1, s2, s3⟩
                go_simp
                with_reducible rfl
              rotate_left
              · simp only [Act.put, List.setIfInBounds_toArray, List.set_cons_zero, List.set_cons_succ, i64_w, i32_w]
                rfl
              refine take_ (i := 16) (N := some 49) (v := ?_) (a' := ?_) #[true, true, true, true, true, true, true, true, true, true, true, true, true, true, true, true, true, false, false, false, false, false, false, false] rfl rfl (take_ofW HT_.out HW_.out (by kernel_rfl)) (fun _ _ _ h => h) (Or.inl ⟨by rfl, ?_⟩) hHeld ?_ ?_
              rotate_left
              · rintro w' ⟨s0, s1, s2, s3⟩
                go_simp
                with_reducible rfl
              rotate_left
              · simp only [Act.put, List.setIfInBounds_toArray, List.set_cons_zero, List.set_cons_succ, i64_w, i32_w]
                rfl
              refine one_ (i := 17) (N := some 50) #[true, true, true, true, true, true, true, true, true, true, true, true, true, true, true, true, true, true, false, false, false, false, false, false] rfl rfl (one_of HT_.out (by kernel_rfl)) (by decide) (fun K hK => ?_)
              refine goes_ Try.func24 (by kernel_rfl) rfl #[.agg #[.int .i64 t182, .slice Ao20 t183.length co20], .agg #[.int .i64 t182, .slice Ao20 t183.length co20]] (by rfl) rfl rfl (by (try simp only [List.map_toArray, List.map_cons, List.map_nil]); first | done | rfl | (simp only [List.length_drop, List.length_take]; rfl)) ?_
              with_reducible refine (bitrow_Like.calls k t182 _ _ t183 t182 _ _ t183 false _ ?side1 ?side2 ?side3 ?side4 A54.out).mono ?_
              (case side1 => repeat (first | exact (Kd.V_reads' HO185.out).2.2 | (with_reducible refine Kd.C_alloc ?_ _) | (with_reducible refine Kd.C_drewN ?_ _) | (with_reducible refine Kd.C_drew ?_)))
              (case side2 => exact (Kd.V_reads' HO185.out).2.1)
              (case side3 => repeat (first | exact (Kd.V_reads' HO185.out).2.2 | (with_reducible refine Kd.C_alloc ?_ _) | (with_reducible refine Kd.C_drewN ?_ _) | (with_reducible refine Kd.C_drew ?_)))
              (case side4 => exact (Kd.V_reads' HO185.out).2.1)
              rintro e w71 ⟨rfl, hb⟩
              refine ⟨_, rfl, ?_⟩
              have n0_ := Aside0.mk (Kd.V_below (pv HO185) hb)
              have n1_ := Aside0.mk (Kd.V_below (pv HO189) hb)
              have n2_ := Aside0.mk (Kd.R_below (pr HO193) hb)
              have n3_ := Aside0.mk (Kd.R_below (pr HO199) hb)
              have n4_ := bb BK179 hb
              have n5_ := bb BK180 hb
              have n6_ := bb BK195 hb
              have n7_ := bb BK201 hb
              have n8_ := Aside0.mk (below_step (by repeat (first | (with_reducible first | exact HB.out | apply below_alloc | apply pw_below_drewN | apply below_drew1 | refine below_set ?_ GE179.out | refine below_set ?_ GE180.out | refine below_set ?_ GE195.out | refine below_set ?_ GE201.out) | exact HB.out)) hb)
              clear HO185
              clear HO189
              clear HO193
              clear HO199
              clear BK179
              clear BK180
              clear BK195
              clear BK201
              clear HB
              have HO185 := n0_
              have HO189 := n1_
              have HO193 := n2_
              have HO199 := n3_
              have BK179 := n4_
              have BK180 := n5_
              have BK195 := n6_
              have BK201 := n7_
              have HB := n8_
              clear n0_ n1_ n2_ n3_ n4_ n5_ n6_ n7_ n8_
              (try clear hb)
              (try clear hb2)
              (try clear hk)
              (try clear hi)
              refine hK.out _ _ ⟨(blk_cell BK179.out 0).trans rfl, (blk_cell BK179.out 1).trans rfl, (blk_cell BK180.out 0).trans rfl, (blk_cell BK180.out 1).trans rfl⟩ (fun hHeld => ?_)
              clear hK K
              refine norm_ (a' := ?_) ?_ ?_
              rotate_left
              · show Act.put _ (some 50) _ = _
                simp only [Act.put, List.setIfInBounds_toArray, List.set_cons_zero, List.set_cons_succ, i64_w, i32_w]
                rfl
              refine pure_ (i := 18) (N := some 51) (v := ?_) (a' := ?_) #[true, true, true, true, true, true, true, true, true, true, true, true, true, true, true, true, true, true, true, false, false, false, false, false] rfl rfl (any_of HT_.out (by kernel_rfl)) (fun _ _ _ h => h) (Or.inl ⟨by rfl, ?_⟩) ?_ ?_
              rotate_left
              · intro w'
                go_simp
                with_reducible rfl
              rotate_left
              · simp only [Act.put, List.setIfInBounds_toArray, List.set_cons_zero, List.set_cons_succ, i64_w, i32_w]
                rfl
              refine pure_ (i := 19) (N := some 52) (v := ?_) (a' := ?_) #[true, true, true, true, true, true, true, true, true, true, true, true, true, true, true, true, true, true, true, true, false, false, false, false] rfl rfl (any_of HT_.out (by kernel_rfl)) (fun _ _ _ h => h) (Or.inl ⟨by rfl, ?_⟩) ?_ ?_
              rotate_left
              · intro w'
                go_simp
                with_reducible rfl
              rotate_left
              · simp only [Act.put, List.setIfInBounds_toArray, List.set_cons_zero, List.set_cons_succ, i64_w, i32_w]
                rfl
              refine pure_ (i := 20) (N := some 53) (v := ?_) (a' := ?_) #[true, true, true, true, true, true, true, true, true, true, true, true, true, true, true, true, true, true, true, true, true, false, false, false] rfl rfl (any_of HT_.out (by kernel_rfl)) (fun _ _ _ h => h) (Or.inl ⟨by rfl, ?_⟩) ?_ ?_
              rotate_left
              · intro w'
                go_simp
                with_reducible rfl
              rotate_left
              · simp only [Act.put, List.setIfInBounds_toArray, List.set_cons_zero, List.set_cons_succ, i64_w, i32_w]
                rfl
              refine pure_ (i := 21) (N := some 54) (v := undef) (a' := ?_) #[true, true, true, true, true, true, true, true, true, true, true, true, true, true, true, true, true, true, true, true, true, true, false, false] rfl rfl (any_of HT_.out (by kernel_rfl)) (fun _ _ _ h => h) (Or.inr ⟨by rfl, rfl⟩) ?_ ?_
              rotate_left
              · simp only [Act.put, List.setIfInBounds_toArray, List.set_cons_zero, List.set_cons_succ, i64_w, i32_w]
                rfl
              refine pure_ (i := 22) (N := some 55) (v := undef) (a' := ?_) #[true, true, true, true, true, true, true, true, true, true, true, true, true, true, true, true, true, true, true, true, true, true, true, false] rfl rfl (any_of HT_.out (by kernel_rfl)) (fun _ _ _ h => h) (Or.inr ⟨by rfl, rfl⟩) ?_ ?_
              rotate_left
              · simp only [Act.put, List.setIfInBounds_toArray, List.set_cons_zero, List.set_cons_succ, i64_w, i32_w]
                rfl
              refine pure_ (i := 23) (N := some 56) (v := ?_) (a' := ?_) #[true, true, true, true, true, true, true, true, true, true, true, true, true, true, true, true, true, true, true, true, true, true, true, true] rfl rfl (any_of HT_.out (by kernel_rfl)) (fun _ _ _ h => h) (Or.inl ⟨by rfl, ?_⟩) ?_ ?_
              rotate_left
              · intro w'
                go_simp
                with_reducible rfl
              rotate_left
              · simp only [Act.put, List.setIfInBounds_toArray, List.set_cons_zero, List.set_cons_succ, i64_w, i32_w]
                rfl
              refine done_ (done_of HT_.out (by kernel_rfl)) ?_
              try go_wp2
              go_meet
              case rel => exact ⟨_, (true), (by first | rfl | (simp; done) | (simp [*]; done)), H', ⟨by first | omega | exact Nat.le_refl _⟩, ⟨by (with_reducible repeat (first | apply Kd.V_alloc | apply Kd.V_drewN | apply Kd.V_drew)); exact HO185.out⟩, ⟨by (with_reducible repeat (first | apply Kd.V_alloc | apply Kd.V_drewN | apply Kd.V_drew)); exact HO189.out⟩, ⟨by (with_reducible repeat (first | apply Kd.R_alloc | apply Kd.R_drewN | apply Kd.R_drew)); exact HO193.out⟩, ⟨by (with_reducible repeat (first | apply Kd.R_alloc | apply Kd.R_drewN | apply Kd.R_drew)); exact HO199.out⟩, ⟨by (with_reducible repeat (first | refine blk_drewN ?_ _ | refine blk_drew ?_ | refine blk_alloc ?_ _)); exact BK179.out⟩, ⟨by (with_reducible repeat (first | refine blk_drewN ?_ _ | refine blk_drew ?_ | refine blk_alloc ?_ _)); exact BK180.out⟩, ⟨by (with_reducible repeat (first | refine blk_drewN ?_ _ | refine blk_drew ?_ | refine blk_alloc ?_ _)); exact BK195.out⟩, ⟨by (with_reducible repeat (first | refine blk_drewN ?_ _ | refine blk_drew ?_ | refine blk_alloc ?_ _)); exact BK201.out⟩, ⟨by repeat (first | (with_reducible first | exact HB.out | apply below_alloc | apply pw_below_drewN | apply below_drew1 | refine below_set ?_ GE179.out | refine below_set ?_ GE180.out | refine below_set ?_ GE195.out | refine below_set ?_ GE201.out) | exact HB.out)⟩⟩
      case rest =>
        clear HC12
        try clear c2
        try clear p2
        try clear c5
        try clear c22
        try clear c23
        try clear c24
        try clear c25
        try clear c26
        try clear c55
        obtain ⟨kq, x56_11, rfl, HA, HJ11, HO_180001, HO_181001, HO_196001, HO_202001, BK179, BK180, BK195, BK201, HB⟩ := hcut
        cases kq with
        | zero => exact absurd HA.out (by simp [downpourlaw01_BitrowMakes.j0])
        | succ kj11 =>
          have H := HA.out
          clear HA
          simp only [downpourlaw01_BitrowMakes.j0] at H
          by_cases c72 : x56_11 = true
          · subst c72
            have H1 : (none) = some r := by rw [if_pos rfl] at H; exact H
            clear H
            have H := H1
            clear H1
            exact absurd H (by simp)
          · replace c72 := Bool.eq_false_iff.mpr c72
            subst c72
            have H1 : (if a0 < 0 then (downpourlaw01_BitrowMakes.j1 kj11 a0 (l1.take ((ji5) : Int).toNat) t194 t200 true t190 t191 t196 t197) else (downpourlaw01_BitrowMakes.j1 kj11 a0 (l1.take ((ji5) : Int).toNat) t194 t200 (decide (a0 > 512)) t190 t191 t196 t197)) = some r := by rw [if_neg (show ¬ (false = true) by decide)] at H; exact H
            clear H
            have H := H1
            clear H1
            have HC73 := Aside0.mk H
            clear H
            go_upto_region 6 with (fail)
            go_cut [62] (fun v62 wc => ∃ (kq : Nat) (x62_72 : Bool), v62 = .bool x62_72 ∧ Aside0 (downpourlaw01_BitrowMakes.j1 kq a0 (l1.take ((ji5) : Int).toNat) t194 t200 x62_72 t190 t191 t196 t197 = some r) ∧ Aside0 (kq ≤ kj11) ∧ Aside0 (Kd.V (Kd.int .u64) 59 wc w.heap.size (fun k_ => some k_ ≠ ((.slice Ao30 t191.length co30) : Value).ownBlock ∧ some k_ ≠ ((.slice Ao37 t197.length co37) : Value).ownBlock ∧ k_ ≠ gb179 ∧ k_ ≠ gb180 ∧ k_ ≠ gb195 ∧ k_ ≠ gb201) (.slice Ao20 t183.length co20) t183) ∧ Aside0 (Kd.V (Kd.int .u64) 59 wc w.heap.size (fun k_ => some k_ ≠ ((.slice Ao30 t191.length co30) : Value).ownBlock ∧ some k_ ≠ ((.slice Ao37 t197.length co37) : Value).ownBlock ∧ k_ ≠ gb179 ∧ k_ ≠ gb180 ∧ k_ ≠ gb195 ∧ k_ ≠ gb201) (.slice Ao23 t187.length co23) t187) ∧ Aside0 (Kd.R (Kd.int .u64) 59 wc w.heap.size (fun k_ => some k_ ≠ ((.slice Ao37 t197.length co37) : Value).ownBlock) (.slice Ao30 t191.length co30) t191) ∧ Aside0 (Kd.R (Kd.int .u64) 59 wc w.heap.size (fun k_ => some k_ ≠ ((.slice Ao30 t191.length co30) : Value).ownBlock) (.slice Ao37 t197.length co37) t197) ∧ Aside0 (wc.heap[gb179]? = some (.cells #[.int .i64 t182, (.slice Ao20 t183.length co20)] 25 (0, 0))) ∧ Aside0 (wc.heap[gb180]? = some (.cells #[.int .i64 t186, (.slice Ao23 t187.length co23)] 25 (0, 0))) ∧ Aside0 (wc.heap[gb195]? = some (.cells #[.int .i64 t190, (.slice Ao30 t191.length co30)] 25 (0, 0))) ∧ Aside0 (wc.heap[gb201]? = some (.cells #[.int .i64 t196, (.slice Ao37 t197.length co37)] 25 (0, 0))) ∧ Aside0 (Below w.heap.size w wc))
            case first =>
              have H := HC73.out
              clear HC73
              by_cases c74 : a0 < 0
              · rw [if_pos c74] at H
                have c74b0 : decide (a0 < 0) = true := decide_eq_true c74
                clear c74
                (first | rw [c74b0] | (simp only [i64_w, i32_w]; rw [c74b0]) | skip)
                have H' := Aside0.mk H
                clear H
                go_wp2
                go_meet
                case rel => exact ⟨_, (true), (by first | rfl | (simp; done) | (simp [*]; done)), H', ⟨by have := HJ11.out; first | omega | exact Nat.le_refl _⟩, ⟨by (with_reducible repeat (first | apply Kd.V_alloc | apply Kd.V_drewN | apply Kd.V_drew)); exact HO_180001.out⟩, ⟨by (with_reducible repeat (first | apply Kd.V_alloc | apply Kd.V_drewN | apply Kd.V_drew)); exact HO_181001.out⟩, ⟨by (with_reducible repeat (first | apply Kd.R_alloc | apply Kd.R_drewN | apply Kd.R_drew)); exact HO_196001.out⟩, ⟨by (with_reducible repeat (first | apply Kd.R_alloc | apply Kd.R_drewN | apply Kd.R_drew)); exact HO_202001.out⟩, ⟨by (with_reducible repeat (first | refine blk_drewN ?_ _ | refine blk_drew ?_ | refine blk_alloc ?_ _)); exact BK179.out⟩, ⟨by (with_reducible repeat (first | refine blk_drewN ?_ _ | refine blk_drew ?_ | refine blk_alloc ?_ _)); exact BK180.out⟩, ⟨by (with_reducible repeat (first | refine blk_drewN ?_ _ | refine blk_drew ?_ | refine blk_alloc ?_ _)); exact BK195.out⟩, ⟨by (with_reducible repeat (first | refine blk_drewN ?_ _ | refine blk_drew ?_ | refine blk_alloc ?_ _)); exact BK201.out⟩, ⟨by repeat (first | (with_reducible first | exact HB.out | apply below_alloc | apply pw_below_drewN | apply below_drew1 | refine below_set ?_ GE179.out | refine below_set ?_ GE180.out | refine below_set ?_ GE195.out | refine below_set ?_ GE201.out) | exact HB.out)⟩⟩
              · rw [if_neg c74] at H
                have c74b0 : decide (a0 < 0) = false := decide_eq_false c74
                clear c74
                (first | rw [c74b0] | (simp only [i64_w, i32_w]; rw [c74b0]) | skip)
                have H' := Aside0.mk H
                clear H
                go_wp2
                go_meet
                case rel => exact ⟨_, (decide (a0 > 512)), (by first | rfl | (simp; done) | (simp [*]; done)), H', ⟨by have := HJ11.out; first | omega | exact Nat.le_refl _⟩, ⟨by (with_reducible repeat (first | apply Kd.V_alloc | apply Kd.V_drewN | apply Kd.V_drew)); exact HO_180001.out⟩, ⟨by (with_reducible repeat (first | apply Kd.V_alloc | apply Kd.V_drewN | apply Kd.V_drew)); exact HO_181001.out⟩, ⟨by (with_reducible repeat (first | apply Kd.R_alloc | apply Kd.R_drewN | apply Kd.R_drew)); exact HO_196001.out⟩, ⟨by (with_reducible repeat (first | apply Kd.R_alloc | apply Kd.R_drewN | apply Kd.R_drew)); exact HO_202001.out⟩, ⟨by (with_reducible repeat (first | refine blk_drewN ?_ _ | refine blk_drew ?_ | refine blk_alloc ?_ _)); exact BK179.out⟩, ⟨by (with_reducible repeat (first | refine blk_drewN ?_ _ | refine blk_drew ?_ | refine blk_alloc ?_ _)); exact BK180.out⟩, ⟨by (with_reducible repeat (first | refine blk_drewN ?_ _ | refine blk_drew ?_ | refine blk_alloc ?_ _)); exact BK195.out⟩, ⟨by (with_reducible repeat (first | refine blk_drewN ?_ _ | refine blk_drew ?_ | refine blk_alloc ?_ _)); exact BK201.out⟩, ⟨by repeat (first | (with_reducible first | exact HB.out | apply below_alloc | apply pw_below_drewN | apply below_drew1 | refine below_set ?_ GE179.out | refine below_set ?_ GE180.out | refine below_set ?_ GE195.out | refine below_set ?_ GE201.out) | exact HB.out)⟩⟩
            case rest =>
              clear HC73
              try clear c2
              try clear p2
              try clear c5
              try clear c7
              try clear c22
              try clear c23
              try clear c24
              try clear c25
              try clear c26
              try clear c55
              try clear c72
              try clear c74
              try clear c74b0
              try clear p2
              obtain ⟨kq, x62_72, rfl, HA, HJ72, HO_180001, HO_181001, HO_196001, HO_202001, BK179, BK180, BK195, BK201, HB⟩ := hcut
              cases kq with
              | zero => exact absurd HA.out (by simp [downpourlaw01_BitrowMakes.j1])
              | succ kj72 =>
                have H := HA.out
                clear HA
                simp only [downpourlaw01_BitrowMakes.j1] at H
                by_cases c75 : x62_72 = true
                · subst c75
                  have H1 : (if t194 = 2 then (if t200 = 2 then ((downpourref01_Same.f kj72 t190 t191 0 ([] : List Int)).bind fun t208 => (if t208 = true then ((downpourref01_Same.f kj72 t196 t197 0 ([] : List Int)).bind fun t209 => (some t209)) else (none))) else (none)) else (none)) = some r := by rw [if_pos rfl] at H; exact H
                  clear H
                  have H := H1
                  clear H1
                  by_cases c76 : t194 = 2
                  · rw [if_pos c76] at H
                    have c76b0 : (t194 == 2) = true := beq_iff_eq.mpr c76
                    have c76b1 : (t194 != 2) = false := bne_eq_false_iff_eq.mpr c76
                    clear c76
                    by_cases c77 : t200 = 2
                    · rw [if_pos c77] at H
                      have c77b0 : (t200 == 2) = true := beq_iff_eq.mpr c77
                      have c77b1 : (t200 != 2) = false := bne_eq_false_iff_eq.mpr c77
                      clear c77
                      replace H := Option.bind_eq_some_iff.mp H
                      obtain ⟨t208, A780, H⟩ := H
                      replace H : (if t208 = true then ((downpourref01_Same.f kj72 t196 t197 0 ([] : List Int)).bind fun t209 => (some t209)) else (none)) = some r := H
                      have A78 := Aside0.mk A780
                      clear A780
                      by_cases c79 : t208 = true
                      · subst c79
                        have H1 : ((downpourref01_Same.f kj72 t196 t197 0 ([] : List Int)).bind fun t209 => (some t209)) = some r := by rw [if_pos rfl] at H; exact H
                        clear H
                        have H := H1
                        clear H1
                        replace H := Option.bind_eq_some_iff.mp H
                        obtain ⟨t209, A800, H⟩ := H
                        replace H : (some t209) = some r := H
                        have A80 := Aside0.mk A800
                        clear A800
                        obtain rfl := Option.some.inj H
                        have hnb81 := NB195_179.out
                        have hnc81 := NB179_195.out
                        have hnb82 := NB195_180.out
                        have hnc82 := NB180_195.out
                        have hnb83 := NB195_201.out
                        have hnc83 := NB201_195.out
                        have hcz84_0 : wc.cell? ⟨gb195, 0, none⟩ = some (.int .i64 t190) := (blk_cell BK195.out 0).trans rfl
                        have hcz84_1 : wc.cell? ⟨gb195, 1, none⟩ = some (.slice Ao30 t191.length co30) := (blk_cell BK195.out 1).trans rfl
                        have hfz84_0 := blk_frozen BK195.out 0
                        have hfz84_1 := blk_frozen BK195.out 1
                        go_wp2_with (first | (go_at_call 25; (refine calls_of_args (args' := #[.agg #[.int .i64 t190, .slice Ao30 t191.length co30], .agg #[.int .i64 0, .slice none ([] : List Int).length 0]]) (by rfl) ?_; with_reducible refine (downpourref01_Same.calls kj72 t190 _ _ t191 0 _ _ ([] : List Int) true _ ?side1 ?side2 ?side3 ?side4 A78.out).mono ?_); (case side1 => repeat (first | exact (Kd.R_reads' HO_196001.out).2.2 | (with_reducible refine Kd.C_alloc ?_ _) | (with_reducible refine Kd.C_drewN ?_ _) | (with_reducible refine Kd.C_drew ?_))); (case side2 => exact (Kd.R_reads' HO_196001.out).2.1); (case side3 => exact Kd.C_nil _ _); (case side4 => exact Nat.le_refl _); rintro e w85 ⟨rfl, hb⟩; have n0_ := Aside0.mk (Kd.V_below (pv HO_180001) hb); have n1_ := Aside0.mk (Kd.V_below (pv HO_181001) hb); have n2_ := Aside0.mk (Kd.R_below (pr HO_196001) hb); have n3_ := Aside0.mk (Kd.R_below (pr HO_202001) hb); have n4_ := bb BK179 hb; have n5_ := bb BK180 hb; have n6_ := bb BK195 hb; have n7_ := bb BK201 hb; have n8_ := Aside0.mk (below_step (by repeat (first | (with_reducible first | exact HB.out | apply below_alloc | apply pw_below_drewN | apply below_drew1 | refine below_set ?_ GE179.out | refine below_set ?_ GE180.out | refine below_set ?_ GE195.out | refine below_set ?_ GE201.out) | exact HB.out)) hb); clear HO_180001 HO_181001 HO_196001 HO_202001 BK179 BK180 BK195 BK201 HB; have HO_180001 := n0_; have HO_181001 := n1_; have HO_196001 := n2_; have HO_202001 := n3_; have BK179 := n4_; have BK180 := n5_; have BK195 := n6_; have BK201 := n7_; have HB := n8_; clear n0_ n1_ n2_ n3_ n4_ n5_ n6_ n7_ n8_; (try clear hb); (try clear hb2); (try clear hk); (try clear hi); have hnb86 := NB201_179.out; have hnc86 := NB179_201.out; have hnb87 := NB201_180.out; have hnc87 := NB180_201.out; have hcz88_0 : w85.cell? ⟨gb201, 0, none⟩ = some (.int .i64 t196) := (blk_cell BK201.out 0).trans rfl; have hcz88_1 : w85.cell? ⟨gb201, 1, none⟩ = some (.slice Ao37 t197.length co37) := (blk_cell BK201.out 1).trans rfl; have hfz88_0 := blk_frozen BK201.out 0; have hfz88_1 := blk_frozen BK201.out 1) | (go_at_call 25; (refine calls_of_args (args' := #[.agg #[.int .i64 t196, .slice Ao37 t197.length co37], .agg #[.int .i64 0, .slice none ([] : List Int).length 0]]) (by rfl) ?_; with_reducible refine (downpourref01_Same.calls kj72 t196 _ _ t197 0 _ _ ([] : List Int) t209 _ ?side1 ?side2 ?side3 ?side4 A80.out).mono ?_); (case side1 => repeat (first | exact (Kd.R_reads' HO_202001.out).2.2 | (with_reducible refine Kd.C_alloc ?_ _) | (with_reducible refine Kd.C_drewN ?_ _) | (with_reducible refine Kd.C_drew ?_))); (case side2 => exact (Kd.R_reads' HO_202001.out).2.1); (case side3 => exact Kd.C_nil _ _); (case side4 => exact Nat.le_refl _); rintro e w89 ⟨rfl, hb⟩; have n0_ := Aside0.mk (Kd.V_below (pv HO_180001) hb); have n1_ := Aside0.mk (Kd.V_below (pv HO_181001) hb); have n2_ := Aside0.mk (Kd.R_below (pr HO_196001) hb); have n3_ := Aside0.mk (Kd.R_below (pr HO_202001) hb); have n4_ := bb BK179 hb; have n5_ := bb BK180 hb; have n6_ := bb BK195 hb; have n7_ := bb BK201 hb; have n8_ := Aside0.mk (below_step (by repeat (first | (with_reducible first | exact HB.out | apply below_alloc | apply pw_below_drewN | apply below_drew1 | refine below_set ?_ GE179.out | refine below_set ?_ GE180.out | refine below_set ?_ GE195.out | refine below_set ?_ GE201.out) | exact HB.out)) hb); clear HO_180001 HO_181001 HO_196001 HO_202001 BK179 BK180 BK195 BK201 HB; have HO_180001 := n0_; have HO_181001 := n1_; have HO_196001 := n2_; have HO_202001 := n3_; have BK179 := n4_; have BK180 := n5_; have BK195 := n6_; have BK201 := n7_; have HB := n8_; clear n0_ n1_ n2_ n3_ n4_ n5_ n6_ n7_ n8_; (try clear hb); (try clear hb2); (try clear hk); (try clear hi)))
                        go_ret
                        exact ⟨by first | rfl | (simp [errW_none, errW_some] <;> rfl) | (simp only [← hji5]; first | rfl | (simp [errW_none, errW_some] <;> rfl)) | (simp [*, errW_none, errW_some] <;> rfl), by repeat (first | (with_reducible first | exact HB.out | apply below_alloc | apply pw_below_drewN | apply below_drew1 | refine below_set ?_ GE179.out | refine below_set ?_ GE180.out | refine below_set ?_ GE195.out | refine below_set ?_ GE201.out) | exact HB.out)⟩
                      · replace c79 := Bool.eq_false_iff.mpr c79
                        subst c79
                        have H1 : (none) = some r := by rw [if_neg (show ¬ (false = true) by decide)] at H; exact H
                        clear H
                        have H := H1
                        clear H1
                        exact absurd H (by simp)
                    · rw [if_neg c77] at H
                      exact absurd H (by simp)
                  · rw [if_neg c76] at H
                    exact absurd H (by simp)
                · replace c75 := Bool.eq_false_iff.mpr c75
                  subst c75
                  have H1 : (if t194 = 0 then ((downpourref01_Of.f kj72 a0 ([] : List Int)).bind fun bt210 => ((downpourref01_Same.f kj72 t190 t191 bt210.1 bt210.2).bind fun t214 => (downpourlaw01_BitrowMakes.j2 kj72 a0 (l1.take ((ji5) : Int).toNat) t200 (!t214) t196 t197))) else (downpourlaw01_BitrowMakes.j2 kj72 a0 (l1.take ((ji5) : Int).toNat) t200 true t196 t197)) = some r := by rw [if_neg (show ¬ (false = true) by decide)] at H; exact H
                  clear H
                  have H := H1
                  clear H1
                  have HC90 := Aside0.mk H
                  clear H
                  go_upto_region 8 with (fail)
                  go_cut [87] (fun v87 wc => ∃ (kq : Nat) (x87_89 : Bool), v87 = .bool x87_89 ∧ Aside0 (downpourlaw01_BitrowMakes.j2 kq a0 (l1.take ((ji5) : Int).toNat) t200 x87_89 t196 t197 = some r) ∧ Aside0 (kq ≤ kj72) ∧ Aside0 (Kd.V (Kd.int .u64) 59 wc w.heap.size (fun k_ => some k_ ≠ ((.slice Ao30 t191.length co30) : Value).ownBlock ∧ some k_ ≠ ((.slice Ao37 t197.length co37) : Value).ownBlock ∧ k_ ≠ gb179 ∧ k_ ≠ gb180 ∧ k_ ≠ gb195 ∧ k_ ≠ gb201) (.slice Ao20 t183.length co20) t183) ∧ Aside0 (Kd.V (Kd.int .u64) 59 wc w.heap.size (fun k_ => some k_ ≠ ((.slice Ao30 t191.length co30) : Value).ownBlock ∧ some k_ ≠ ((.slice Ao37 t197.length co37) : Value).ownBlock ∧ k_ ≠ gb179 ∧ k_ ≠ gb180 ∧ k_ ≠ gb195 ∧ k_ ≠ gb201) (.slice Ao23 t187.length co23) t187) ∧ Aside0 (Kd.R (Kd.int .u64) 59 wc w.heap.size (fun k_ => some k_ ≠ ((.slice Ao37 t197.length co37) : Value).ownBlock) (.slice Ao30 t191.length co30) t191) ∧ Aside0 (Kd.R (Kd.int .u64) 59 wc w.heap.size (fun k_ => some k_ ≠ ((.slice Ao30 t191.length co30) : Value).ownBlock) (.slice Ao37 t197.length co37) t197) ∧ Aside0 (wc.heap[gb179]? = some (.cells #[.int .i64 t182, (.slice Ao20 t183.length co20)] 25 (0, 0))) ∧ Aside0 (wc.heap[gb180]? = some (.cells #[.int .i64 t186, (.slice Ao23 t187.length co23)] 25 (0, 0))) ∧ Aside0 (wc.heap[gb195]? = some (.cells #[.int .i64 t190, (.slice Ao30 t191.length co30)] 25 (0, 0))) ∧ Aside0 (wc.heap[gb201]? = some (.cells #[.int .i64 t196, (.slice Ao37 t197.length co37)] 25 (0, 0))) ∧ Aside0 (Below w.heap.size w wc))
                  case first =>
                    have H := HC90.out
                    clear HC90
                    by_cases c91 : t194 = 0
                    · rw [if_pos c91] at H
                      have c91b0 : (t194 == 0) = true := beq_iff_eq.mpr c91
                      have c91b1 : (t194 != 0) = false := bne_eq_false_iff_eq.mpr c91
                      clear c91
                      (first | rw [c91b0] | (simp only [i64_w, i32_w]; rw [c91b0]) | skip)
                      replace H := Option.bind_eq_some_iff.mp H
                      obtain ⟨⟨t210, t211⟩, A920, H⟩ := H
                      replace H : ((downpourref01_Same.f kj72 t190 t191 t210 t211).bind fun t214 => (downpourlaw01_BitrowMakes.j2 kj72 a0 (l1.take ((ji5) : Int).toNat) t200 (!t214) t196 t197)) = some r := H
                      have A92 := Aside0.mk A920
                      clear A920
                      replace H := Option.bind_eq_some_iff.mp H
                      obtain ⟨t214, A930, H⟩ := H
                      replace H : (downpourlaw01_BitrowMakes.j2 kj72 a0 (l1.take ((ji5) : Int).toNat) t200 (!t214) t196 t197) = some r := H
                      have A93 := Aside0.mk A930
                      clear A930
                      have H' := Aside0.mk H
                      clear H
                      try go_wp2
                      have n0_ := Aside0.mk (Kd.V_drew HO_180001.out)
                      have n1_ := Aside0.mk (Kd.V_drew HO_181001.out)
                      have n2_ := Aside0.mk (Kd.R_drew HO_196001.out)
                      have n3_ := Aside0.mk (Kd.R_drew HO_202001.out)
                      have n4_ := Aside0.mk (blk_drew BK179.out)
                      have n5_ := Aside0.mk (blk_drew BK180.out)
                      have n6_ := Aside0.mk (blk_drew BK195.out)
                      have n7_ := Aside0.mk (blk_drew BK201.out)
                      have n8_ := Aside0.mk (below_drew1 HB.out)
                      clear HO_180001
                      clear HO_181001
                      clear HO_196001
                      clear HO_202001
                      clear BK179
                      clear BK180
                      clear BK195
                      clear BK201
                      clear HB
                      have HO_180001 := n0_
                      have HO_181001 := n1_
                      have HO_196001 := n2_
                      have HO_202001 := n3_
                      have BK179 := n4_
                      have BK180 := n5_
                      have BK195 := n6_
                      have BK201 := n7_
                      have HB := n8_
                      clear n0_ n1_ n2_ n3_ n4_ n5_ n6_ n7_ n8_
                      refine start_ (n := 9) (S := fun w' => w'.cell? ⟨gb195, 0, none⟩ = some (.int .i64 t190) ∧ w'.cell? ⟨gb195, 1, none⟩ = some (.slice Ao30 t191.length co30)) (ds := []) #[false, false, false, false, false, false, false, false, false] (by kernel_rfl) rfl rfl ⟨(blk_cell BK195.out 0).trans rfl, (blk_cell BK195.out 1).trans rfl⟩ (fun hHeld => ?_); refine with_tabW downpourlaw01_BitrowMakes.tab8 downpourlaw01_BitrowMakes.bits8 (fun HT_ HW_ => ?_)
                      generalize wc.drew = w94 at HO_180001 HO_181001 HO_196001 HO_202001 BK179 BK180 BK195 BK201 HB hHeld ⊢
                      refine pure_ (i := 0) (N := some 79) (v := ?_) (a' := ?_) #[true, false, false, false, false, false, false, false, false] rfl rfl (any_of HT_.out (by kernel_rfl)) (fun _ _ _ h => h) (Or.inl ⟨by rfl, ?_⟩) ?_ ?_
                      rotate_left
                      · intro w'
                        go_simp
                        with_reducible rfl
                      rotate_left
                      · simp only [Act.put, List.setIfInBounds_toArray, List.set_cons_zero, List.set_cons_succ, i64_w, i32_w]
                        rfl
                      refine pure_ (i := 1) (N := some 80) (v := ?_) (a' := ?_) #[true, true, false, false, false, false, false, false, false] rfl rfl (any_of HT_.out (by kernel_rfl)) (fun _ _ _ h => h) (Or.inl ⟨by rfl, ?_⟩) ?_ ?_
                      rotate_left
                      · intro w'
                        go_simp
                        with_reducible rfl
                      rotate_left
                      · simp only [Act.put, List.setIfInBounds_toArray, List.set_cons_zero, List.set_cons_succ, i64_w, i32_w]
                        rfl
                      refine pure_ (i := 2) (N := some 81) (v := ?_) (a' := ?_) #[true, true, true, false, false, false, false, false, false] rfl rfl (any_of HT_.out (by kernel_rfl)) (fun _ _ _ h => h) (Or.inl ⟨by rfl, ?_⟩) ?_ ?_
                      rotate_left
                      · intro w'
                        go_simp
                        with_reducible rfl
                      rotate_left
                      · simp only [Act.put, List.setIfInBounds_toArray, List.set_cons_zero, List.set_cons_succ, i64_w, i32_w]
                        rfl
                      refine pure_ (i := 4) (N := some 83) (v := ?_) (a' := ?_) #[true, true, true, false, true, false, false, false, false] rfl rfl (any_of HT_.out (by kernel_rfl)) (fun _ _ _ h => h) (Or.inl ⟨by rfl, ?_⟩) ?_ ?_
                      rotate_left
                      · intro w'
                        go_simp
                        with_reducible rfl
                      rotate_left
                      · simp only [Act.put, List.setIfInBounds_toArray, List.set_cons_zero, List.set_cons_succ, i64_w, i32_w]
                        rfl
                      refine take_ (i := 3) (N := some 82) (v := ?_) (a' := ?_) #[true, true, true, true, true, false, false, false, false] rfl rfl (take_ofW HT_.out HW_.out (by kernel_rfl)) (fun _ _ _ h => h) (Or.inl ⟨by rfl, ?_⟩) hHeld ?_ ?_
                      rotate_left
                      · rintro w' ⟨s0, s1⟩
                        go_simp
                        with_reducible rfl
                      rotate_left
                      · simp only [Act.put, List.setIfInBounds_toArray, List.set_cons_zero, List.set_cons_succ, i64_w, i32_w]
                        rfl
                      refine one_ (i := 5) (N := some 84) #[true, true, true, true, true, true, false, false, false] rfl rfl (one_of HT_.out (by kernel_rfl)) (by decide) (fun K hK => ?_)
                      refine goes_ Try.func27 (by kernel_rfl) rfl #[.int .i64 a0, .slice none 0 0] (by rfl) rfl rfl (by (try simp only [List.map_toArray, List.map_cons, List.map_nil]); first | done | rfl | (simp only [List.length_drop, List.length_take]; rfl)) ?_
                      refine calls_of_args (args' := #[.int .i64 a0, .slice none ([] : List Int).length 0]) (by rfl) ?_; with_reducible refine (downpourref01_Of.calls kj72 a0 _ _ ([] : List Int) t210 t211 _ ?side1 ?side2 A92.out).mono ?_
                      (case side1 => exact Kd.C_nil _ _)
                      (case side2 => exact Nat.le_refl _)
                      rintro e w95 ⟨v212, rfl, ho0, hb⟩
                      refine ⟨_, rfl, ?_⟩
                      have n0_ := Aside0.mk (Kd.V_elder' (pv HO_180001) (Kd.R_base ho0) hb)
                      have n1_ := Aside0.mk (Kd.V_elder' (pv HO_181001) (Kd.R_base ho0) hb)
                      have n2_ := Aside0.mk (Kd.R_elder' (pr HO_196001) (Kd.R_base ho0) hb)
                      have n3_ := Aside0.mk (Kd.R_elder' (pr HO_202001) (Kd.R_base ho0) hb)
                      have n4_ := Aside0.mk (Kd.R_lower (Kd.R_new' (Kd.R_new' ho0 (Kd.R_lt (pr HO_196001))) (Kd.R_lt (pr HO_202001))) (below_size (by repeat (first | (with_reducible first | exact HB.out | apply below_alloc | apply pw_below_drewN | apply below_drew1 | refine below_set ?_ GE179.out | refine below_set ?_ GE180.out | refine below_set ?_ GE195.out | refine below_set ?_ GE201.out) | exact HB.out))))
                      have n5_ := bb BK179 hb
                      have n6_ := bb BK180 hb
                      have n7_ := bb BK195 hb
                      have n8_ := bb BK201 hb
                      have n9_ := Aside0.mk (below_step (by repeat (first | (with_reducible first | exact HB.out | apply below_alloc | apply pw_below_drewN | apply below_drew1 | refine below_set ?_ GE179.out | refine below_set ?_ GE180.out | refine below_set ?_ GE195.out | refine below_set ?_ GE201.out) | exact HB.out)) hb)
                      clear HO_180001
                      clear HO_181001
                      clear HO_196001
                      clear HO_202001
                      clear BK179
                      clear BK180
                      clear BK195
                      clear BK201
                      clear HB
                      have HO_180001 := n0_
                      have HO_181001 := n1_
                      have HO_196001 := n2_
                      have HO_202001 := n3_
                      have HO213 := n4_
                      have BK179 := n5_
                      have BK180 := n6_
                      have BK195 := n7_
                      have BK201 := n8_
                      have HB := n9_
                      clear n0_ n1_ n2_ n3_ n4_ n5_ n6_ n7_ n8_ n9_
                      (try clear hb)
                      (try clear hb2)
                      (try clear hk)
                      (try clear hi)
                      (try clear ho0)
                      obtain ⟨Ao96, co96, eo96⟩ := Kd.R_slice HO213.out
                      (first | subst eo96 | (injection eo96 with f1_ f2_ f3_; have f4_ := f1_.symm; have f5_ := f3_.symm; clear f1_ f2_ f3_; subst f4_; subst f5_))
                      refine hK.out _ _ ⟨(blk_cell BK195.out 0).trans rfl, (blk_cell BK195.out 1).trans rfl⟩ (fun hHeld => ?_)
                      clear hK K
                      refine norm_ (a' := ?_) ?_ ?_
                      rotate_left
                      · show Act.put _ (some 84) _ = _
                        simp only [Act.put, List.setIfInBounds_toArray, List.set_cons_zero, List.set_cons_succ, i64_w, i32_w]
                        rfl
                      refine one_ (i := 6) (N := some 85) #[true, true, true, true, true, true, true, false, false] rfl rfl (one_of HT_.out (by kernel_rfl)) (by decide) (fun K hK => ?_)
                      refine goes_ Try.func25 (by kernel_rfl) rfl #[.agg #[.int .i64 t190, .slice Ao30 t191.length co30], .agg #[.int .i64 t210, .slice Ao96 t211.length co96]] (by rfl) rfl rfl (by (try simp only [List.map_toArray, List.map_cons, List.map_nil]); first | done | rfl | (simp only [List.length_drop, List.length_take]; rfl)) ?_
                      with_reducible refine (downpourref01_Same.calls kj72 t190 _ _ t191 t210 _ _ t211 t214 _ ?side1 ?side2 ?side3 ?side4 A93.out).mono ?_
                      (case side1 => repeat (first | exact (Kd.R_reads' HO_196001.out).2.2 | (with_reducible refine Kd.C_alloc ?_ _) | (with_reducible refine Kd.C_drewN ?_ _) | (with_reducible refine Kd.C_drew ?_)))
                      (case side2 => exact (Kd.R_reads' HO_196001.out).2.1)
                      (case side3 => repeat (first | exact (Kd.R_reads' HO213.out).2.2 | (with_reducible refine Kd.C_alloc ?_ _) | (with_reducible refine Kd.C_drewN ?_ _) | (with_reducible refine Kd.C_drew ?_)))
                      (case side4 => exact (Kd.R_reads' HO213.out).2.1)
                      rintro e w97 ⟨rfl, hb⟩
                      refine ⟨_, rfl, ?_⟩
                      have n0_ := Aside0.mk (Kd.V_below (pv HO_180001) hb)
                      have n1_ := Aside0.mk (Kd.V_below (pv HO_181001) hb)
                      have n2_ := Aside0.mk (Kd.R_below (pr HO_196001) hb)
                      have n3_ := Aside0.mk (Kd.R_below (pr HO_202001) hb)
                      have n4_ := Aside0.mk (Kd.R_below (pr HO213) hb)
                      have n5_ := bb BK179 hb
                      have n6_ := bb BK180 hb
                      have n7_ := bb BK195 hb
                      have n8_ := bb BK201 hb
                      have n9_ := Aside0.mk (below_step (by repeat (first | (with_reducible first | exact HB.out | apply below_alloc | apply pw_below_drewN | apply below_drew1 | refine below_set ?_ GE179.out | refine below_set ?_ GE180.out | refine below_set ?_ GE195.out | refine below_set ?_ GE201.out) | exact HB.out)) hb)
                      clear HO_180001
                      clear HO_181001
                      clear HO_196001
                      clear HO_202001
                      clear HO213
                      clear BK179
                      clear BK180
                      clear BK195
                      clear BK201
                      clear HB
                      have HO_180001 := n0_
                      have HO_181001 := n1_
                      have HO_196001 := n2_
                      have HO_202001 := n3_
                      have HO213 := n4_
                      have BK179 := n5_
                      have BK180 := n6_
                      have BK195 := n7_
                      have BK201 := n8_
                      have HB := n9_
                      clear n0_ n1_ n2_ n3_ n4_ n5_ n6_ n7_ n8_ n9_
                      (try clear hb)
                      (try clear hb2)
                      (try clear hk)
                      (try clear hi)
                      refine hK.out _ _ ⟨(blk_cell BK195.out 0).trans rfl, (blk_cell BK195.out 1).trans rfl⟩ (fun hHeld => ?_)
                      clear hK K
                      refine norm_ (a' := ?_) ?_ ?_
                      rotate_left
                      · show Act.put _ (some 85) _ = _
                        simp only [Act.put, List.setIfInBounds_toArray, List.set_cons_zero, List.set_cons_succ, i64_w, i32_w]
                        rfl
                      refine pure_ (i := 7) (N := some 86) (v := ?_) (a' := ?_) #[true, true, true, true, true, true, true, true, false] rfl rfl (any_of HT_.out (by kernel_rfl)) (fun _ _ _ h => h) (Or.inl ⟨by rfl, ?_⟩) ?_ ?_
                      rotate_left
                      · intro w'
                        go_simp
                        with_reducible rfl
                      rotate_left
                      · simp only [Act.put, List.setIfInBounds_toArray, List.set_cons_zero, List.set_cons_succ, i64_w, i32_w]
                        rfl
                      refine pure_ (i := 8) (N := some 87) (v := ?_) (a' := ?_) #[true, true, true, true, true, true, true, true, true] rfl rfl (any_of HT_.out (by kernel_rfl)) (fun _ _ _ h => h) (Or.inl ⟨by rfl, ?_⟩) ?_ ?_
                      rotate_left
                      · intro w'
                        go_simp
                        with_reducible rfl
                      rotate_left
                      · simp only [Act.put, List.setIfInBounds_toArray, List.set_cons_zero, List.set_cons_succ, i64_w, i32_w]
                        rfl
                      refine done_ (done_of HT_.out (by kernel_rfl)) ?_
                      try go_wp2
                      go_meet
                      case rel => exact ⟨_, (!t214), (by first | rfl | (simp; done) | (simp [*]; done)), H', ⟨by have := HJ11.out; have := HJ72.out; first | omega | exact Nat.le_refl _⟩, ⟨by (with_reducible repeat (first | apply Kd.V_alloc | apply Kd.V_drewN | apply Kd.V_drew)); exact Kd.V_mono HO_180001.out (fun _ hk => ⟨hk.1.1, ⟨hk.1.2.1, ⟨hk.1.2.2.1, ⟨hk.1.2.2.2.1, ⟨hk.1.2.2.2.2.1, hk.1.2.2.2.2.2⟩⟩⟩⟩⟩)⟩, ⟨by (with_reducible repeat (first | apply Kd.V_alloc | apply Kd.V_drewN | apply Kd.V_drew)); exact Kd.V_mono HO_181001.out (fun _ hk => ⟨hk.1.1, ⟨hk.1.2.1, ⟨hk.1.2.2.1, ⟨hk.1.2.2.2.1, ⟨hk.1.2.2.2.2.1, hk.1.2.2.2.2.2⟩⟩⟩⟩⟩)⟩, ⟨by (with_reducible repeat (first | apply Kd.R_alloc | apply Kd.R_drewN | apply Kd.R_drew)); exact Kd.R_mono HO_196001.out (fun _ hk => hk.1)⟩, ⟨by (with_reducible repeat (first | apply Kd.R_alloc | apply Kd.R_drewN | apply Kd.R_drew)); exact Kd.R_mono HO_202001.out (fun _ hk => hk.1)⟩, ⟨by (with_reducible repeat (first | refine blk_drewN ?_ _ | refine blk_drew ?_ | refine blk_alloc ?_ _)); exact BK179.out⟩, ⟨by (with_reducible repeat (first | refine blk_drewN ?_ _ | refine blk_drew ?_ | refine blk_alloc ?_ _)); exact BK180.out⟩, ⟨by (with_reducible repeat (first | refine blk_drewN ?_ _ | refine blk_drew ?_ | refine blk_alloc ?_ _)); exact BK195.out⟩, ⟨by (with_reducible repeat (first | refine blk_drewN ?_ _ | refine blk_drew ?_ | refine blk_alloc ?_ _)); exact BK201.out⟩, ⟨by repeat (first | (with_reducible first | exact HB.out | apply below_alloc | apply pw_below_drewN | apply below_drew1 | refine below_set ?_ GE179.out | refine below_set ?_ GE180.out | refine below_set ?_ GE195.out | refine below_set ?_ GE201.out) | exact HB.out)⟩⟩
                    · rw [if_neg c91] at H
                      have c91b0 : (t194 == 0) = false := beq_eq_false_iff_ne.mpr c91
                      have c91b1 : (t194 != 0) = true := bne_iff_ne.mpr c91
                      (first | rw [c91b0] | (simp only [i64_w, i32_w]; rw [c91b0]) | skip)
                      have H' := Aside0.mk H
                      clear H
                      try go_wp2
                      have n0_ := Aside0.mk (Kd.V_drew HO_180001.out)
                      have n1_ := Aside0.mk (Kd.V_drew HO_181001.out)
                      have n2_ := Aside0.mk (Kd.R_drew HO_196001.out)
                      have n3_ := Aside0.mk (Kd.R_drew HO_202001.out)
                      have n4_ := Aside0.mk (blk_drew BK179.out)
                      have n5_ := Aside0.mk (blk_drew BK180.out)
                      have n6_ := Aside0.mk (blk_drew BK195.out)
                      have n7_ := Aside0.mk (blk_drew BK201.out)
                      have n8_ := Aside0.mk (below_drew1 HB.out)
                      clear HO_180001
                      clear HO_181001
                      clear HO_196001
                      clear HO_202001
                      clear BK179
                      clear BK180
                      clear BK195
                      clear BK201
                      clear HB
                      have HO_180001 := n0_
                      have HO_181001 := n1_
                      have HO_196001 := n2_
                      have HO_202001 := n3_
                      have BK179 := n4_
                      have BK180 := n5_
                      have BK195 := n6_
                      have BK201 := n7_
                      have HB := n8_
                      clear n0_ n1_ n2_ n3_ n4_ n5_ n6_ n7_ n8_
                      refine start_ (n := 9) (S := fun w' => True) (ds := []) #[false, false, false, false, false, false, false, false, false] (by kernel_rfl) rfl rfl trivial (fun hHeld => ?_); refine with_tabW downpourlaw01_BitrowMakes.tab8 downpourlaw01_BitrowMakes.bits8 (fun HT_ HW_ => ?_)
                      generalize wc.drew = w98 at HO_180001 HO_181001 HO_196001 HO_202001 BK179 BK180 BK195 BK201 HB hHeld ⊢
                      refine pure_ (i := 0) (N := some 79) (v := ?_) (a' := ?_) #[true, false, false, false, false, false, false, false, false] rfl rfl (any_of HT_.out (by kernel_rfl)) (fun _ _ _ h => h) (Or.inl ⟨by rfl, ?_⟩) ?_ ?_
                      rotate_left
                      · intro w'
                        go_simp
                        with_reducible rfl
                      rotate_left
                      · simp only [Act.put, List.setIfInBounds_toArray, List.set_cons_zero, List.set_cons_succ, i64_w, i32_w]
                        rfl
                      refine pure_ (i := 1) (N := some 80) (v := ?_) (a' := ?_) #[true, true, false, false, false, false, false, false, false] rfl rfl (any_of HT_.out (by kernel_rfl)) (fun _ _ _ h => h) (Or.inl ⟨by rfl, ?_⟩) ?_ ?_
                      rotate_left
                      · intro w'
                        go_simp
                        with_reducible rfl
                      rotate_left
                      · simp only [Act.put, List.setIfInBounds_toArray, List.set_cons_zero, List.set_cons_succ, i64_w, i32_w]
                        rfl
                      refine pure_ (i := 2) (N := some 81) (v := ?_) (a' := ?_) #[true, true, true, false, false, false, false, false, false] rfl rfl (any_of HT_.out (by kernel_rfl)) (fun _ _ _ h => h) (Or.inl ⟨by rfl, ?_⟩) ?_ ?_
                      rotate_left
                      · intro w'
                        go_simp
                        with_reducible rfl
                      rotate_left
                      · simp only [Act.put, List.setIfInBounds_toArray, List.set_cons_zero, List.set_cons_succ, i64_w, i32_w]
                        rfl
                      refine pure_ (i := 3) (N := some 82) (v := undef) (a' := ?_) #[true, true, true, true, false, false, false, false, false] rfl rfl (any_of HT_.out (by kernel_rfl)) (fun _ _ _ h => h) (Or.inr ⟨by rfl, rfl⟩) ?_ ?_
                      rotate_left
                      · simp only [Act.put, List.setIfInBounds_toArray, List.set_cons_zero, List.set_cons_succ, i64_w, i32_w]
                        rfl
                      refine pure_ (i := 4) (N := some 83) (v := undef) (a' := ?_) #[true, true, true, true, true, false, false, false, false] rfl rfl (any_of HT_.out (by kernel_rfl)) (fun _ _ _ h => h) (Or.inr ⟨by rfl, rfl⟩) ?_ ?_
                      rotate_left
                      · simp only [Act.put, List.setIfInBounds_toArray, List.set_cons_zero, List.set_cons_succ, i64_w, i32_w]
                        rfl
                      refine pure_ (i := 5) (N := some 84) (v := undef) (a' := ?_) #[true, true, true, true, true, true, false, false, false] rfl rfl (any_of HT_.out (by kernel_rfl)) (fun _ _ _ h => h) (Or.inr ⟨by rfl, rfl⟩) ?_ ?_
                      rotate_left
                      · simp only [Act.put, List.setIfInBounds_toArray, List.set_cons_zero, List.set_cons_succ, i64_w, i32_w]
                        rfl
                      refine pure_ (i := 6) (N := some 85) (v := undef) (a' := ?_) #[true, true, true, true, true, true, true, false, false] rfl rfl (any_of HT_.out (by kernel_rfl)) (fun _ _ _ h => h) (Or.inr ⟨by rfl, rfl⟩) ?_ ?_
                      rotate_left
                      · simp only [Act.put, List.setIfInBounds_toArray, List.set_cons_zero, List.set_cons_succ, i64_w, i32_w]
                        rfl
                      refine pure_ (i := 7) (N := some 86) (v := undef) (a' := ?_) #[true, true, true, true, true, true, true, true, false] rfl rfl (any_of HT_.out (by kernel_rfl)) (fun _ _ _ h => h) (Or.inr ⟨by rfl, rfl⟩) ?_ ?_
                      rotate_left
                      · simp only [Act.put, List.setIfInBounds_toArray, List.set_cons_zero, List.set_cons_succ, i64_w, i32_w]
                        rfl
                      refine pure_ (i := 8) (N := some 87) (v := ?_) (a' := ?_) #[true, true, true, true, true, true, true, true, true] rfl rfl (any_of HT_.out (by kernel_rfl)) (fun _ _ _ h => h) (Or.inl ⟨by rfl, ?_⟩) ?_ ?_
                      rotate_left
                      · intro w'
                        go_simp
                        with_reducible rfl
                      rotate_left
                      · simp only [Act.put, List.setIfInBounds_toArray, List.set_cons_zero, List.set_cons_succ, i64_w, i32_w]
                        rfl
                      refine done_ (done_of HT_.out (by kernel_rfl)) ?_
                      try go_wp2
                      go_meet
                      case rel => exact ⟨_, (true), (by first | rfl | (simp; done) | (simp [*]; done)), H', ⟨by have := HJ11.out; have := HJ72.out; first | omega | exact Nat.le_refl _⟩, ⟨by (with_reducible repeat (first | apply Kd.V_alloc | apply Kd.V_drewN | apply Kd.V_drew)); exact HO_180001.out⟩, ⟨by (with_reducible repeat (first | apply Kd.V_alloc | apply Kd.V_drewN | apply Kd.V_drew)); exact HO_181001.out⟩, ⟨by (with_reducible repeat (first | apply Kd.R_alloc | apply Kd.R_drewN | apply Kd.R_drew)); exact HO_196001.out⟩, ⟨by (with_reducible repeat (first | apply Kd.R_alloc | apply Kd.R_drewN | apply Kd.R_drew)); exact HO_202001.out⟩, ⟨by (with_reducible repeat (first | refine blk_drewN ?_ _ | refine blk_drew ?_ | refine blk_alloc ?_ _)); exact BK179.out⟩, ⟨by (with_reducible repeat (first | refine blk_drewN ?_ _ | refine blk_drew ?_ | refine blk_alloc ?_ _)); exact BK180.out⟩, ⟨by (with_reducible repeat (first | refine blk_drewN ?_ _ | refine blk_drew ?_ | refine blk_alloc ?_ _)); exact BK195.out⟩, ⟨by (with_reducible repeat (first | refine blk_drewN ?_ _ | refine blk_drew ?_ | refine blk_alloc ?_ _)); exact BK201.out⟩, ⟨by repeat (first | (with_reducible first | exact HB.out | apply below_alloc | apply pw_below_drewN | apply below_drew1 | refine below_set ?_ GE179.out | refine below_set ?_ GE180.out | refine below_set ?_ GE195.out | refine below_set ?_ GE201.out) | exact HB.out)⟩⟩
                  case rest =>
                    clear HC90
                    try clear c2
                    try clear p2
                    try clear c5
                    try clear c7
                    try clear c8
                    try clear c9
                    try clear c22
                    try clear c23
                    try clear c24
                    try clear c25
                    try clear c26
                    try clear c27
                    try clear c55
                    try clear c72
                    try clear c74
                    try clear c74b0
                    try clear c75
                    try clear c76
                    try clear c76b0
                    try clear c76b1
                    try clear c77
                    try clear c77b0
                    try clear c77b1
                    try clear c79
                    try clear c81
                    try clear c82
                    try clear c83
                    try clear c86
                    try clear c87
                    try clear c91
                    try clear c91b0
                    try clear c91b1
                    try clear hcz84_0
                    try clear hcz84_1
                    try clear hcz88_0
                    try clear hcz88_1
                    try clear hfz84_0
                    try clear hfz84_1
                    try clear hfz88_0
                    try clear hfz88_1
                    try clear p2
                    obtain ⟨kq, x87_89, rfl, HA, HJ89, HO_180001, HO_181001, HO_196001, HO_202001, BK179, BK180, BK195, BK201, HB⟩ := hcut
                    cases kq with
                    | zero => exact absurd HA.out (by simp [downpourlaw01_BitrowMakes.j2])
                    | succ kj89 =>
                      have H := HA.out
                      clear HA
                      simp only [downpourlaw01_BitrowMakes.j2] at H
                      by_cases c99 : x87_89 = true
                      · subst c99
                        have H1 : (none) = some r := by rw [if_pos rfl] at H; exact H
                        clear H
                        have H := H1
                        clear H1
                        exact absurd H (by simp)
                      · replace c99 := Bool.eq_false_iff.mpr c99
                        subst c99
                        have H1 : ((downpourref01_There.f kj89 a0 (l1.take ((ji5) : Int).toNat)).bind fun t215 => (if t215 = true then (if t200 = 0 then ((downpourref01_Of.f kj89 a0 (l1.take ((ji5) : Int).toNat)).bind fun bt216 => ((downpourref01_Same.f kj89 t196 t197 bt216.1 bt216.2).bind fun t220 => (some t220))) else (none)) else (if t200 = 3 then ((downpourref01_Same.f kj89 t196 t197 0 ([] : List Int)).bind fun t221 => (some t221)) else (none)))) = some r := by rw [if_neg (show ¬ (false = true) by decide)] at H; exact H
                        clear H
                        have H := H1
                        clear H1
                        replace H := Option.bind_eq_some_iff.mp H
                        obtain ⟨t215, A1000, H⟩ := H
                        replace H : (if t215 = true then (if t200 = 0 then ((downpourref01_Of.f kj89 a0 (l1.take ((ji5) : Int).toNat)).bind fun bt216 => ((downpourref01_Same.f kj89 t196 t197 bt216.1 bt216.2).bind fun t220 => (some t220))) else (none)) else (if t200 = 3 then ((downpourref01_Same.f kj89 t196 t197 0 ([] : List Int)).bind fun t221 => (some t221)) else (none))) = some r := H
                        have A100 := Aside0.mk A1000
                        clear A1000
                        by_cases c101 : t215 = true
                        · subst c101
                          have H1 : (if t200 = 0 then ((downpourref01_Of.f kj89 a0 (l1.take ((ji5) : Int).toNat)).bind fun bt216 => ((downpourref01_Same.f kj89 t196 t197 bt216.1 bt216.2).bind fun t220 => (some t220))) else (none)) = some r := by rw [if_pos rfl] at H; exact H
                          clear H
                          have H := H1
                          clear H1
                          by_cases c102 : t200 = 0
                          · rw [if_pos c102] at H
                            have c102b0 : (t200 == 0) = true := beq_iff_eq.mpr c102
                            have c102b1 : (t200 != 0) = false := bne_eq_false_iff_eq.mpr c102
                            clear c102
                            replace H := Option.bind_eq_some_iff.mp H
                            obtain ⟨⟨t216, t217⟩, A1030, H⟩ := H
                            replace H : ((downpourref01_Same.f kj89 t196 t197 t216 t217).bind fun t220 => (some t220)) = some r := H
                            have A103 := Aside0.mk A1030
                            clear A1030
                            replace H := Option.bind_eq_some_iff.mp H
                            obtain ⟨t220, A1040, H⟩ := H
                            replace H : (some t220) = some r := H
                            have A104 := Aside0.mk A1040
                            clear A1040
                            obtain rfl := Option.some.inj H
                            try go_wp2_with (first | ((with_reducible refine gate_callee (f := 28) rfl ?_); refine goesL_ (some 90) rfl rfl Try.func28 (by kernel_rfl) rfl #[.int .i64 a0, .slice A1 (l1.take ((ji5) : Int).toNat).length c1] rfl (by (try simp only [List.map_toArray, List.map_cons, List.map_nil]); first | done | (rw [show (l1.take ((ji5) : Int).toNat).length = (ji5).toNat from (by rw [List.length_take]; have h_ : ((ji5) : Int) ≤ (l1.length : Int) := of_decide_eq_true (by first | (with_reducible assumption) | assumption); omega)] <;> rfl) | (simp only [hji5]; rfl) | rfl | (simp only [List.length_drop, List.length_take]; rfl)) ?_; (with_reducible refine (downpourref01_There.calls kj89 a0 _ _ (l1.take ((ji5) : Int).toNat) true _ ?side1 ?side2 A100.out).mono ?_); (case side1 => repeat (first | exact (Kd.C_below HR181.out HB.out) | (with_reducible refine Kd.C_alloc ?_ _) | (with_reducible refine Kd.C_drewN ?_ _) | (with_reducible refine Kd.C_drew ?_))); (case side2 => exact HC181.out); rintro e w' ⟨rfl, ⟨nd, rfl⟩⟩; refine ⟨_, rfl, ?_⟩))
                            (try (rw [drewN_self wc]; generalize hq_ : World.drewN wc _ = wc; have n0_ : Aside0 (Kd.V (Kd.int .u64) 59 wc w.heap.size (fun k_ => some k_ ≠ (.slice Ao30 t191.length co30 : Value).ownBlock ∧ some k_ ≠ (.slice Ao37 t197.length co37 : Value).ownBlock ∧ k_ ≠ gb179 ∧ k_ ≠ gb180 ∧ k_ ≠ gb195 ∧ k_ ≠ gb201) (.slice Ao20 t183.length co20) t183) := ⟨by rw [← hq_]; exact (pv HO_180001)⟩; have n1_ : Aside0 (Kd.V (Kd.int .u64) 59 wc w.heap.size (fun k_ => some k_ ≠ (.slice Ao30 t191.length co30 : Value).ownBlock ∧ some k_ ≠ (.slice Ao37 t197.length co37 : Value).ownBlock ∧ k_ ≠ gb179 ∧ k_ ≠ gb180 ∧ k_ ≠ gb195 ∧ k_ ≠ gb201) (.slice Ao23 t187.length co23) t187) := ⟨by rw [← hq_]; exact (pv HO_181001)⟩; have n2_ : Aside0 (Kd.R (Kd.int .u64) 59 wc w.heap.size (fun k_ => some k_ ≠ (.slice Ao37 t197.length co37 : Value).ownBlock) (.slice Ao30 t191.length co30) t191) := ⟨by rw [← hq_]; exact (pr HO_196001)⟩; have n3_ : Aside0 (Kd.R (Kd.int .u64) 59 wc w.heap.size (fun k_ => some k_ ≠ (.slice Ao30 t191.length co30 : Value).ownBlock) (.slice Ao37 t197.length co37) t197) := ⟨by rw [← hq_]; exact (pr HO_202001)⟩; have n4_ : Aside0 (wc.heap[gb179]? = some (.cells #[.int .i64 t182, .slice Ao20 t183.length co20] 25 (0, 0))) := ⟨by rw [← hq_]; exact (pk BK179)⟩; have n5_ : Aside0 (wc.heap[gb180]? = some (.cells #[.int .i64 t186, .slice Ao23 t187.length co23] 25 (0, 0))) := ⟨by rw [← hq_]; exact (pk BK180)⟩; have n6_ : Aside0 (wc.heap[gb195]? = some (.cells #[.int .i64 t190, .slice Ao30 t191.length co30] 25 (0, 0))) := ⟨by rw [← hq_]; exact (pk BK195)⟩; have n7_ : Aside0 (wc.heap[gb201]? = some (.cells #[.int .i64 t196, .slice Ao37 t197.length co37] 25 (0, 0))) := ⟨by rw [← hq_]; exact (pk BK201)⟩; have n8_ : Aside0 (Below w.heap.size w wc) := ⟨by rw [← hq_]; exact (by repeat (first | (with_reducible first | exact HB.out | apply below_alloc | apply pw_below_drewN | apply below_drew1 | refine below_set ?_ GE179.out | refine below_set ?_ GE180.out | refine below_set ?_ GE195.out | refine below_set ?_ GE201.out) | exact HB.out))⟩; clear HO_180001 HO_181001 HO_196001 HO_202001 BK179 BK180 BK195 BK201 HB hq_; have HO_180001 := n0_; have HO_181001 := n1_; have HO_196001 := n2_; have HO_202001 := n3_; have BK179 := n4_; have BK180 := n5_; have BK195 := n6_; have BK201 := n7_; have HB := n8_; clear n0_ n1_ n2_ n3_ n4_ n5_ n6_ n7_ n8_))
                            have n0_ := Aside0.mk (Kd.V_drew HO_180001.out)
                            have n1_ := Aside0.mk (Kd.V_drew HO_181001.out)
                            have n2_ := Aside0.mk (Kd.R_drew HO_196001.out)
                            have n3_ := Aside0.mk (Kd.R_drew HO_202001.out)
                            have n4_ := Aside0.mk (blk_drew BK179.out)
                            have n5_ := Aside0.mk (blk_drew BK180.out)
                            have n6_ := Aside0.mk (blk_drew BK195.out)
                            have n7_ := Aside0.mk (blk_drew BK201.out)
                            have n8_ := Aside0.mk (below_drew1 HB.out)
                            clear HO_180001
                            clear HO_181001
                            clear HO_196001
                            clear HO_202001
                            clear BK179
                            clear BK180
                            clear BK195
                            clear BK201
                            clear HB
                            have HO_180001 := n0_
                            have HO_181001 := n1_
                            have HO_196001 := n2_
                            have HO_202001 := n3_
                            have BK179 := n4_
                            have BK180 := n5_
                            have BK195 := n6_
                            have BK201 := n7_
                            have HB := n8_
                            clear n0_ n1_ n2_ n3_ n4_ n5_ n6_ n7_ n8_
                            refine start_ (n := 10) (S := fun w' => w'.cell? ⟨gb201, 0, none⟩ = some (.int .i64 t196) ∧ w'.cell? ⟨gb201, 1, none⟩ = some (.slice Ao37 t197.length co37)) (ds := []) #[false, false, false, false, false, false, false, false, false, false] (by kernel_rfl) rfl rfl ⟨(blk_cell BK201.out 0).trans rfl, (blk_cell BK201.out 1).trans rfl⟩ (fun hHeld => ?_); refine with_tabW downpourlaw01_BitrowMakes.tab12 downpourlaw01_BitrowMakes.bits12 (fun HT_ HW_ => ?_)
                            generalize wc.drew = w105 at HO_180001 HO_181001 HO_196001 HO_202001 BK179 BK180 BK195 BK201 HB hHeld ⊢
                            refine pure_ (i := 0) (N := some 99) (v := ?_) (a' := ?_) #[true, false, false, false, false, false, false, false, false, false] rfl rfl (any_of HT_.out (by kernel_rfl)) (fun _ _ _ h => h) (Or.inl ⟨by rfl, ?_⟩) ?_ ?_
                            rotate_left
                            · intro w'
                              go_simp
                              with_reducible rfl
                            rotate_left
                            · simp only [Act.put, List.setIfInBounds_toArray, List.set_cons_zero, List.set_cons_succ, i64_w, i32_w]
                              rfl
                            refine pure_ (i := 1) (N := some 100) (v := ?_) (a' := ?_) #[true, true, false, false, false, false, false, false, false, false] rfl rfl (any_of HT_.out (by kernel_rfl)) (fun _ _ _ h => h) (Or.inl ⟨by rfl, ?_⟩) ?_ ?_
                            rotate_left
                            · intro w'
                              go_simp
                              with_reducible rfl
                            rotate_left
                            · simp only [Act.put, List.setIfInBounds_toArray, List.set_cons_zero, List.set_cons_succ, i64_w, i32_w]
                              rfl
                            refine pure_ (i := 2) (N := some 101) (v := ?_) (a' := ?_) #[true, true, true, false, false, false, false, false, false, false] rfl rfl (any_of HT_.out (by kernel_rfl)) (fun _ _ _ h => h) (Or.inl ⟨by rfl, ?_⟩) ?_ ?_
                            rotate_left
                            · intro w'
                              go_simp
                              with_reducible rfl
                            rotate_left
                            · simp only [Act.put, List.setIfInBounds_toArray, List.set_cons_zero, List.set_cons_succ, i64_w, i32_w]
                              rfl
                            refine pure_ (i := 4) (N := some 103) (v := ?_) (a' := ?_) #[true, true, true, false, true, false, false, false, false, false] rfl rfl (any_of HT_.out (by kernel_rfl)) (fun _ _ _ h => h) (Or.inl ⟨by rfl, ?_⟩) ?_ ?_
                            rotate_left
                            · intro w'
                              go_simp
                              with_reducible rfl
                            rotate_left
                            · simp only [Act.put, List.setIfInBounds_toArray, List.set_cons_zero, List.set_cons_succ, i64_w, i32_w]
                              rfl
                            refine pure_ (i := 5) (N := some 104) (v := ?_) (a' := ?_) #[true, true, true, false, true, true, false, false, false, false] rfl rfl (any_of HT_.out (by kernel_rfl)) (fun _ _ _ h => h) (Or.inl ⟨by rfl, ?_⟩) ?_ ?_
                            rotate_left
                            · intro w'
                              go_simp
                              with_reducible rfl
                            rotate_left
                            · simp only [Act.put, List.setIfInBounds_toArray, List.set_cons_zero, List.set_cons_succ, i64_w, i32_w]
                              rfl
                            refine take_ (i := 3) (N := some 102) (v := ?_) (a' := ?_) #[true, true, true, true, true, true, false, false, false, false] rfl rfl (take_ofW HT_.out HW_.out (by kernel_rfl)) (fun _ _ _ h => h) (Or.inl ⟨by rfl, ?_⟩) hHeld ?_ ?_
                            rotate_left
                            · rintro w' ⟨s0, s1⟩
                              go_simp
                              with_reducible rfl
                            rotate_left
                            · simp only [Act.put, List.setIfInBounds_toArray, List.set_cons_zero, List.set_cons_succ, i64_w, i32_w]
                              rfl
                            refine one_ (i := 6) (N := some 105) #[true, true, true, true, true, true, true, false, false, false] rfl rfl (one_of HT_.out (by kernel_rfl)) (by decide) (fun K hK => ?_)
                            refine goes_ Try.func27 (by kernel_rfl) rfl #[.int .i64 a0, .slice A1 (l1.take ((ji5) : Int).toNat).length c1] (by rfl) rfl rfl (by (try simp only [List.map_toArray, List.map_cons, List.map_nil]); first | done | (rw [show (l1.take ((ji5) : Int).toNat).length = (ji5).toNat from (by rw [List.length_take]; have h_ : ((ji5) : Int) ≤ (l1.length : Int) := of_decide_eq_true (by first | (with_reducible assumption) | assumption); omega)] <;> rfl) | (simp only [hji5]; rfl) | rfl | (simp only [List.length_drop, List.length_take]; rfl)) ?_
                            with_reducible refine (downpourref01_Of.calls kj89 a0 _ _ (l1.take ((ji5) : Int).toNat) t216 t217 _ ?side1 ?side2 A103.out).mono ?_
                            (case side1 => repeat (first | exact (Kd.C_below HR181.out HB.out) | (with_reducible refine Kd.C_alloc ?_ _) | (with_reducible refine Kd.C_drewN ?_ _) | (with_reducible refine Kd.C_drew ?_)))
                            (case side2 => exact HC181.out)
                            rintro e w106 ⟨v218, rfl, ho0, hb⟩
                            refine ⟨_, rfl, ?_⟩
                            have n0_ := Aside0.mk (Kd.V_elder' (pv HO_180001) (Kd.R_base ho0) hb)
                            have n1_ := Aside0.mk (Kd.V_elder' (pv HO_181001) (Kd.R_base ho0) hb)
                            have n2_ := Aside0.mk (Kd.R_elder' (pr HO_196001) (Kd.R_base ho0) hb)
                            have n3_ := Aside0.mk (Kd.R_elder' (pr HO_202001) (Kd.R_base ho0) hb)
                            have n4_ := Aside0.mk (Kd.R_lower (Kd.R_new' (Kd.R_new' ho0 (Kd.R_lt (pr HO_196001))) (Kd.R_lt (pr HO_202001))) (below_size (by repeat (first | (with_reducible first | exact HB.out | apply below_alloc | apply pw_below_drewN | apply below_drew1 | refine below_set ?_ GE179.out | refine below_set ?_ GE180.out | refine below_set ?_ GE195.out | refine below_set ?_ GE201.out) | exact HB.out))))
                            have n5_ := bb BK179 hb
                            have n6_ := bb BK180 hb
                            have n7_ := bb BK195 hb
                            have n8_ := bb BK201 hb
                            have n9_ := Aside0.mk (below_step (by repeat (first | (with_reducible first | exact HB.out | apply below_alloc | apply pw_below_drewN | apply below_drew1 | refine below_set ?_ GE179.out | refine below_set ?_ GE180.out | refine below_set ?_ GE195.out | refine below_set ?_ GE201.out) | exact HB.out)) hb)
                            clear HO_180001
                            clear HO_181001
                            clear HO_196001
                            clear HO_202001
                            clear BK179
                            clear BK180
                            clear BK195
                            clear BK201
                            clear HB
                            have HO_180001 := n0_
                            have HO_181001 := n1_
                            have HO_196001 := n2_
                            have HO_202001 := n3_
                            have HO219 := n4_
                            have BK179 := n5_
                            have BK180 := n6_
                            have BK195 := n7_
                            have BK201 := n8_
                            have HB := n9_
                            clear n0_ n1_ n2_ n3_ n4_ n5_ n6_ n7_ n8_ n9_
                            (try clear hb)
                            (try clear hb2)
                            (try clear hk)
                            (try clear hi)
                            (try clear ho0)
                            obtain ⟨Ao107, co107, eo107⟩ := Kd.R_slice HO219.out
                            (first | subst eo107 | (injection eo107 with f1_ f2_ f3_; have f4_ := f1_.symm; have f5_ := f3_.symm; clear f1_ f2_ f3_; subst f4_; subst f5_))
                            refine hK.out _ _ ⟨(blk_cell BK201.out 0).trans rfl, (blk_cell BK201.out 1).trans rfl⟩ (fun hHeld => ?_)
                            clear hK K
                            refine norm_ (a' := ?_) ?_ ?_
                            rotate_left
                            · show Act.put _ (some 105) _ = _
                              simp only [Act.put, List.setIfInBounds_toArray, List.set_cons_zero, List.set_cons_succ, i64_w, i32_w]
                              rfl
                            refine one_ (i := 7) (N := some 106) #[true, true, true, true, true, true, true, true, false, false] rfl rfl (one_of HT_.out (by kernel_rfl)) (by decide) (fun K hK => ?_)
                            refine goes_ Try.func25 (by kernel_rfl) rfl #[.agg #[.int .i64 t196, .slice Ao37 t197.length co37], .agg #[.int .i64 t216, .slice Ao107 t217.length co107]] (by rfl) rfl rfl (by (try simp only [List.map_toArray, List.map_cons, List.map_nil]); first | done | rfl | (simp only [List.length_drop, List.length_take]; rfl)) ?_
                            with_reducible refine (downpourref01_Same.calls kj89 t196 _ _ t197 t216 _ _ t217 t220 _ ?side1 ?side2 ?side3 ?side4 A104.out).mono ?_
                            (case side1 => repeat (first | exact (Kd.R_reads' HO_202001.out).2.2 | (with_reducible refine Kd.C_alloc ?_ _) | (with_reducible refine Kd.C_drewN ?_ _) | (with_reducible refine Kd.C_drew ?_)))
                            (case side2 => exact (Kd.R_reads' HO_202001.out).2.1)
                            (case side3 => repeat (first | exact (Kd.R_reads' HO219.out).2.2 | (with_reducible refine Kd.C_alloc ?_ _) | (with_reducible refine Kd.C_drewN ?_ _) | (with_reducible refine Kd.C_drew ?_)))
                            (case side4 => exact (Kd.R_reads' HO219.out).2.1)
                            rintro e w108 ⟨rfl, hb⟩
                            refine ⟨_, rfl, ?_⟩
                            have n0_ := Aside0.mk (Kd.V_below (pv HO_180001) hb)
                            have n1_ := Aside0.mk (Kd.V_below (pv HO_181001) hb)
                            have n2_ := Aside0.mk (Kd.R_below (pr HO_196001) hb)
                            have n3_ := Aside0.mk (Kd.R_below (pr HO_202001) hb)
                            have n4_ := Aside0.mk (Kd.R_below (pr HO219) hb)
                            have n5_ := bb BK179 hb
                            have n6_ := bb BK180 hb
                            have n7_ := bb BK195 hb
                            have n8_ := bb BK201 hb
                            have n9_ := Aside0.mk (below_step (by repeat (first | (with_reducible first | exact HB.out | apply below_alloc | apply pw_below_drewN | apply below_drew1 | refine below_set ?_ GE179.out | refine below_set ?_ GE180.out | refine below_set ?_ GE195.out | refine below_set ?_ GE201.out) | exact HB.out)) hb)
                            clear HO_180001
                            clear HO_181001
                            clear HO_196001
                            clear HO_202001
                            clear HO219
                            clear BK179
                            clear BK180
                            clear BK195
                            clear BK201
                            clear HB
                            have HO_180001 := n0_
                            have HO_181001 := n1_
                            have HO_196001 := n2_
                            have HO_202001 := n3_
                            have HO219 := n4_
                            have BK179 := n5_
                            have BK180 := n6_
                            have BK195 := n7_
                            have BK201 := n8_
                            have HB := n9_
                            clear n0_ n1_ n2_ n3_ n4_ n5_ n6_ n7_ n8_ n9_
                            (try clear hb)
                            (try clear hb2)
                            (try clear hk)
                            (try clear hi)
                            refine hK.out _ _ ⟨(blk_cell BK201.out 0).trans rfl, (blk_cell BK201.out 1).trans rfl⟩ (fun hHeld => ?_)
                            clear hK K
                            refine norm_ (a' := ?_) ?_ ?_
                            rotate_left
                            · show Act.put _ (some 106) _ = _
                              simp only [Act.put, List.setIfInBounds_toArray, List.set_cons_zero, List.set_cons_succ, i64_w, i32_w]
                              rfl
                            refine pure_ (i := 8) (N := some 107) (v := ?_) (a' := ?_) #[true, true, true, true, true, true, true, true, true, false] rfl rfl (any_of HT_.out (by kernel_rfl)) (fun _ _ _ h => h) (Or.inl ⟨by rfl, ?_⟩) ?_ ?_
                            rotate_left
                            · intro w'
                              go_simp
                              with_reducible rfl
                            rotate_left
                            · simp only [Act.put, List.setIfInBounds_toArray, List.set_cons_zero, List.set_cons_succ, i64_w, i32_w]
                              rfl
                            refine pure_ (i := 9) (N := some 8) (v := ?_) (a' := ?_) #[true, true, true, true, true, true, true, true, true, true] rfl rfl (any_of HT_.out (by kernel_rfl)) (fun _ _ _ h => h) (Or.inl ⟨by rfl, ?_⟩) ?_ ?_
                            rotate_left
                            · intro w'
                              go_simp
                              with_reducible rfl
                            rotate_left
                            · simp only [Act.put, List.setIfInBounds_toArray, List.set_cons_zero, List.set_cons_succ, i64_w, i32_w]
                              rfl
                            refine done_ (done_of HT_.out (by kernel_rfl)) ?_
                            try go_wp2
                            go_ret
                            exact ⟨by first | rfl | (simp [errW_none, errW_some] <;> rfl) | (simp only [← hji5]; first | rfl | (simp [errW_none, errW_some] <;> rfl)) | (simp [*, errW_none, errW_some] <;> rfl), by repeat (first | (with_reducible first | exact HB.out | apply below_alloc | apply pw_below_drewN | apply below_drew1 | refine below_set ?_ GE179.out | refine below_set ?_ GE180.out | refine below_set ?_ GE195.out | refine below_set ?_ GE201.out) | exact HB.out)⟩
                          · rw [if_neg c102] at H
                            exact absurd H (by simp)
                        · replace c101 := Bool.eq_false_iff.mpr c101
                          subst c101
                          have H1 : (if t200 = 3 then ((downpourref01_Same.f kj89 t196 t197 0 ([] : List Int)).bind fun t221 => (some t221)) else (none)) = some r := by rw [if_neg (show ¬ (false = true) by decide)] at H; exact H
                          clear H
                          have H := H1
                          clear H1
                          by_cases c109 : t200 = 3
                          · rw [if_pos c109] at H
                            have c109b0 : (t200 == 3) = true := beq_iff_eq.mpr c109
                            have c109b1 : (t200 != 3) = false := bne_eq_false_iff_eq.mpr c109
                            clear c109
                            replace H := Option.bind_eq_some_iff.mp H
                            obtain ⟨t221, A1100, H⟩ := H
                            replace H : (some t221) = some r := H
                            have A110 := Aside0.mk A1100
                            clear A1100
                            obtain rfl := Option.some.inj H
                            go_wp2_with (first | ((with_reducible refine gate_callee (f := 28) rfl ?_); refine goesL_ (some 90) rfl rfl Try.func28 (by kernel_rfl) rfl #[.int .i64 a0, .slice A1 (l1.take ((ji5) : Int).toNat).length c1] rfl (by (try simp only [List.map_toArray, List.map_cons, List.map_nil]); first | done | (rw [show (l1.take ((ji5) : Int).toNat).length = (ji5).toNat from (by rw [List.length_take]; have h_ : ((ji5) : Int) ≤ (l1.length : Int) := of_decide_eq_true (by first | (with_reducible assumption) | assumption); omega)] <;> rfl) | (simp only [hji5]; rfl) | rfl | (simp only [List.length_drop, List.length_take]; rfl)) ?_; (with_reducible refine (downpourref01_There.calls kj89 a0 _ _ (l1.take ((ji5) : Int).toNat) false _ ?side1 ?side2 A100.out).mono ?_); (case side1 => repeat (first | exact (Kd.C_below HR181.out HB.out) | (with_reducible refine Kd.C_alloc ?_ _) | (with_reducible refine Kd.C_drewN ?_ _) | (with_reducible refine Kd.C_drew ?_))); (case side2 => exact HC181.out); rintro e w' ⟨rfl, ⟨nd, rfl⟩⟩; refine ⟨_, rfl, ?_⟩; have hnb111 := NB201_179.out; have hnc111 := NB179_201.out; have hnb112 := NB201_180.out; have hnc112 := NB180_201.out; have hnb113 := NB201_195.out; have hnc113 := NB195_201.out; have hcz114_0 : wc.cell? ⟨gb201, 0, none⟩ = some (.int .i64 t196) := (blk_cell BK201.out 0).trans rfl; have hcz114_1 : wc.cell? ⟨gb201, 1, none⟩ = some (.slice Ao37 t197.length co37) := (blk_cell BK201.out 1).trans rfl; have hfz114_0 := blk_frozen BK201.out 0; have hfz114_1 := blk_frozen BK201.out 1) | (go_at_call 25; (refine calls_of_args (args' := #[.agg #[.int .i64 t196, .slice Ao37 t197.length co37], .agg #[.int .i64 0, .slice none ([] : List Int).length 0]]) (by rfl) ?_; with_reducible refine (downpourref01_Same.calls kj89 t196 _ _ t197 0 _ _ ([] : List Int) t221 _ ?side1 ?side2 ?side3 ?side4 A110.out).mono ?_); (case side1 => repeat (first | exact (Kd.R_reads' HO_202001.out).2.2 | (with_reducible refine Kd.C_alloc ?_ _) | (with_reducible refine Kd.C_drewN ?_ _) | (with_reducible refine Kd.C_drew ?_))); (case side2 => exact (Kd.R_reads' HO_202001.out).2.1); (case side3 => exact Kd.C_nil _ _); (case side4 => exact Nat.le_refl _); rintro e w115 ⟨rfl, hb⟩; have n0_ := Aside0.mk (Kd.V_below (pv HO_180001) hb); have n1_ := Aside0.mk (Kd.V_below (pv HO_181001) hb); have n2_ := Aside0.mk (Kd.R_below (pr HO_196001) hb); have n3_ := Aside0.mk (Kd.R_below (pr HO_202001) hb); have n4_ := bb BK179 hb; have n5_ := bb BK180 hb; have n6_ := bb BK195 hb; have n7_ := bb BK201 hb; have n8_ := Aside0.mk (below_step (by repeat (first | (with_reducible first | exact HB.out | apply below_alloc | apply pw_below_drewN | apply below_drew1 | refine below_set ?_ GE179.out | refine below_set ?_ GE180.out | refine below_set ?_ GE195.out | refine below_set ?_ GE201.out) | exact HB.out)) hb); clear HO_180001 HO_181001 HO_196001 HO_202001 BK179 BK180 BK195 BK201 HB; have HO_180001 := n0_; have HO_181001 := n1_; have HO_196001 := n2_; have HO_202001 := n3_; have BK179 := n4_; have BK180 := n5_; have BK195 := n6_; have BK201 := n7_; have HB := n8_; clear n0_ n1_ n2_ n3_ n4_ n5_ n6_ n7_ n8_; (try clear hb); (try clear hb2); (try clear hk); (try clear hi)))
                            go_ret
                            exact ⟨by first | rfl | (simp [errW_none, errW_some] <;> rfl) | (simp only [← hji5]; first | rfl | (simp [errW_none, errW_some] <;> rfl)) | (simp [*, errW_none, errW_some] <;> rfl), by repeat (first | (with_reducible first | exact HB.out | apply below_alloc | apply pw_below_drewN | apply below_drew1 | refine below_set ?_ GE179.out | refine below_set ?_ GE180.out | refine below_set ?_ GE195.out | refine below_set ?_ GE201.out) | exact HB.out)⟩
                          · rw [if_neg c109] at H
                            exact absurd H (by simp)
    · rw [if_neg c7] at H
      exact absurd H (by simp)
  · rw [if_neg c6] at H
    exact absurd H (by simp)

end Go.Proofs.Ytfdcjkhckjnaeaa.PA
