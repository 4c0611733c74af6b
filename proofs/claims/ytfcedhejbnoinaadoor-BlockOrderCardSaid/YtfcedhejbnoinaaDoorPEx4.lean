-- PRINTED by print.py (a twelfth state) out of the translation. Not trusted: Lean checks it.
import Derived.Test.YtfcedhejbnoinaaDoorPEx0
import Derived.Test.YtfcedhejbnoinaaDoorPEx1
import Derived.Test.YtfcedhejbnoinaaDoorPEx2
import Derived.Test.YtfcedhejbnoinaaDoorPEx3
namespace Go.Proofs.YtfcedhejbnoinaaDoor.PE
open Go.RowKit Go.Proofs.YtfcedhejbnoinaaDoorW.PrintWords Go.Proofs.YtfcedhejbnoinaaDoorW.PrintLast Go.Proofs.YtfcedhejbnoinaaDoorW.PrintMore
open Bool renaming true → T, false → F
open List renaming setIfInBounds_toArray → q1, set_cons_zero → q2, set_cons_succ → q3
attribute [local go_sem] run_store_func max2_int min2_int max_two min_two max_three min_three max_four min_four   -- for this text's walks alone
set_option linter.unusedVariables false
set_option linter.unusedSimpArgs false

/-! ### downpourlaw02_BlockOrder: function 6 -/
mutual
def downpourlaw02_BlockOrder.j0 : Nat → Int → List ByteArray → Int → ByteArray → Bool → Int → List Int → Int → List Int → Option (Bool)
 | 0, _, _, _, _, _, _, _, _, _ => none
 | k + 1, x0, x1, x4, x11, x65, x164000, x164001, x165000, x165001 => if x65 = true then (if (x1.length : Int) = 0 then (none) else ((some (([] : List ByteArray) : List ByteArray)).bind fun y173 => (if 0 ≤ (Int.tmod (wrap64 ((Int.tmod x4 (x1.length : Int)) + (x1.length : Int))) (x1.length : Int)) then (if (Int.tmod (wrap64 ((Int.tmod x4 (x1.length : Int)) + (x1.length : Int))) (x1.length : Int)) ≤ (x1.length : Int) then ((some (x1.drop ((Int.tmod (wrap64 ((Int.tmod x4 (x1.length : Int)) + (x1.length : Int))) (x1.length : Int)) : Int).toNat : List ByteArray)).bind fun y176 => (if y173.length + y176.length < 8796093022208 then ((some (y173 ++ y176 : List ByteArray)).bind fun y180 => ((some (x1.take ((Int.tmod (wrap64 ((Int.tmod x4 (x1.length : Int)) + (x1.length : Int))) (x1.length : Int)) : Int).toNat : List ByteArray)).bind fun y183 => (if y180.length + y183.length < 8796093022208 then ((block_Sum.f k x0 (y180 ++ y183)).bind fun bt190 => (if (Int.tmod (wrap64 ((Int.tmod x4 (x1.length : Int)) + (x1.length : Int))) (x1.length : Int)) < (x1.length : Int) then ((some (([rdOf ByteArray.empty x1 (Int.tmod (wrap64 ((Int.tmod x4 (x1.length : Int)) + (x1.length : Int))) (x1.length : Int)), rdOf ByteArray.empty x1 (Int.tmod (wrap64 ((Int.tmod x4 (x1.length : Int)) + (x1.length : Int))) (x1.length : Int))] : List ByteArray) : List ByteArray)).bind fun y194 => (if y194.length + x1.length < 8796093022208 then ((block_Sum.f k x0 (y194 ++ x1)).bind fun bt200 => (if bt190.2 = 0 then (if bt200.2 = 0 then (if bt190.1.toList = x11.toList then (if bt200.1.toList = x11.toList then (downpourlaw02_BlockOrder.j1 k x0 x1 x164000 x164001 x165000 x165001) else (none)) else (none)) else (none)) else (none))) else (none))) else (none))) else (none)))) else (none))) else (none)) else (none)))) else (downpourlaw02_BlockOrder.j1 k x0 x1 x164000 x164001 x165000 x165001)
def downpourlaw02_BlockOrder.j1 : Nat → Int → List ByteArray → Int → List Int → Int → List Int → Option (Bool)
 | 0, _, _, _, _, _, _ => none
 | k + 1, x0, x1, x164000, x164001, x165000, x165001 => (bitrow_Xor.f k x164000 x164001 x165000 x165001).bind fun bt202 => ((block_Pick.f k x0 x1 x164000 x164001).bind fun bt208 => ((block_Pick.f k x0 x1 x165000 x165001).bind fun bt210 => ((block_Pick.f k x0 x1 bt202.1 bt202.2.1).bind fun bt212 => (if bt202.2.2 = 0 then (if bt208.2 = 0 then (downpourlaw02_BlockOrder.j2 k x0 bt208.1 bt208.2 bt210.1 bt212.1 bt212.2 (bt210.2 != 0)) else (downpourlaw02_BlockOrder.j2 k x0 bt208.1 bt208.2 bt210.1 bt212.1 bt212.2 true)) else (downpourlaw02_BlockOrder.j2 k x0 bt208.1 bt208.2 bt210.1 bt212.1 bt212.2 true)))))
def downpourlaw02_BlockOrder.j2 : Nat → Int → ByteArray → Int → ByteArray → ByteArray → Int → Bool → Option (Bool)
 | 0, _, _, _, _, _, _, _ => none
 | k + 1, x0, x19, x20, x21, x23, x24, x158 => if x158 = true then ((downpourlaw02_alive.f k).bind fun t214 => (if t214 = true then (if x20 = 0 then (some ((x19.size : Int) == x0)) else (some true)) else (none))) else ((block_Xor.f k x19 x21).bind fun bt215 => ((downpourlaw02_alive.f k).bind fun t217 => (if t217 = true then (if x24 = 0 then (if bt215.2 = 0 then (some (bt215.1.toList == x23.toList)) else (none)) else (none)) else (none))))
end
def downpourlaw02_BlockOrder.f (k : Nat) (a0 : Int) (l1 : List ByteArray) (a2_0 : Int) (l2_1 : List Int) (a3_0 : Int) (l3_1 : List Int) (a4 : Int) : Option (Bool) := (downpourlaw02_few.f k l1).bind fun t165 => (if 0 ≤ (mn (l2_1.length : Int) 10) then (if (mn (l2_1.length : Int) 10) ≤ (l2_1.length : Int) then (if 0 ≤ (mn (l3_1.length : Int) 10) then (if (mn (l3_1.length : Int) 10) ≤ (l3_1.length : Int) then ((block_Sum.f k a0 t165).bind fun bt170 => (if bt170.2 = 0 then (if (t165.length : Int) > 0 then (downpourlaw02_BlockOrder.j0 k a0 t165 a4 bt170.1 (decide ((t165.length : Int) < 63)) a2_0 (l2_1.take ((mn (l2_1.length : Int) 10) : Int).toNat) a3_0 (l3_1.take ((mn (l3_1.length : Int) 10) : Int).toNat)) else (downpourlaw02_BlockOrder.j0 k a0 t165 a4 bt170.1 false a2_0 (l2_1.take ((mn (l2_1.length : Int) 10) : Int).toNat) a3_0 (l3_1.take ((mn (l3_1.length : Int) 10) : Int).toNat))) else ((downpourlaw02_alive.f k).bind fun t172 => (if t172 = true then (some (bt170.1.toList == ([] : List UInt8))) else (none))))) else (none)) else (none)) else (none)) else (none))
theorem downpourlaw02_BlockOrder.mono_l : ∀ k, (∀ y0 y1 y2 y3 y4 y5 y6 y7 y8, LeO (downpourlaw02_BlockOrder.j0 k y0 y1 y2 y3 y4 y5 y6 y7 y8) (downpourlaw02_BlockOrder.j0 (k + 1) y0 y1 y2 y3 y4 y5 y6 y7 y8)) ∧ (∀ y0 y1 y2 y3 y4 y5, LeO (downpourlaw02_BlockOrder.j1 k y0 y1 y2 y3 y4 y5) (downpourlaw02_BlockOrder.j1 (k + 1) y0 y1 y2 y3 y4 y5)) ∧ (∀ y0 y1 y2 y3 y4 y5 y6, LeO (downpourlaw02_BlockOrder.j2 k y0 y1 y2 y3 y4 y5 y6) (downpourlaw02_BlockOrder.j2 (k + 1) y0 y1 y2 y3 y4 y5 y6))
 | 0 => ⟨fun _ _ _ _ _ _ _ _ _ r h => by simp [downpourlaw02_BlockOrder.j0] at h, fun _ _ _ _ _ _ r h => by simp [downpourlaw02_BlockOrder.j1] at h, fun _ _ _ _ _ _ _ r h => by simp [downpourlaw02_BlockOrder.j2] at h⟩
 | k + 1 => by
  obtain ⟨ih0, ih1, ih2⟩ := downpourlaw02_BlockOrder.mono_l k
  refine ⟨?_, ?_, ?_⟩
  ·
   intro y0 y1 y2 y3 y4 y5 y6 y7 y8
   unfold downpourlaw02_BlockOrder.j0
   repeat' first
   | (with_reducible exact ih0 _ _ _ _ _ _ _ _ _)
   | (with_reducible exact ih1 _ _ _ _ _ _)
   | (with_reducible exact ih2 _ _ _ _ _ _ _)
   | (with_reducible exact bitrow_Xor.mono _ _ _ _ _)
   | (with_reducible exact block_Pick.mono _ _ _ _ _)
   | (with_reducible exact block_Sum.mono _ _ _)
   | (with_reducible exact block_Xor.mono _ _ _)
   | (with_reducible exact downpourlaw02_alive.mono _)
   | (with_reducible exact downpourlaw02_few.mono _ _)
   | (with_reducible exact LeO.refl _)
   | (with_reducible exact LeO.none _)
   | (with_reducible refine LeO.ite ?_ ?_)
   | (with_reducible refine LeO.bind ?_ (fun _ => ?_))
   | exact ih0 _ _ _ _ _ _ _ _ _
   | exact ih1 _ _ _ _ _ _
   | exact ih2 _ _ _ _ _ _ _
   | exact bitrow_Xor.mono _ _ _ _ _
   | exact block_Pick.mono _ _ _ _ _
   | exact block_Sum.mono _ _ _
   | exact block_Xor.mono _ _ _
   | exact downpourlaw02_alive.mono _
   | exact downpourlaw02_few.mono _ _
   | exact LeO.none _
   | refine LeO.ite ?_ ?_
   | refine LeO.bind ?_ (fun _ => ?_)
  ·
   intro y0 y1 y2 y3 y4 y5
   unfold downpourlaw02_BlockOrder.j1
   repeat' first
   | (with_reducible exact ih0 _ _ _ _ _ _ _ _ _)
   | (with_reducible exact ih1 _ _ _ _ _ _)
   | (with_reducible exact ih2 _ _ _ _ _ _ _)
   | (with_reducible exact bitrow_Xor.mono _ _ _ _ _)
   | (with_reducible exact block_Pick.mono _ _ _ _ _)
   | (with_reducible exact block_Sum.mono _ _ _)
   | (with_reducible exact block_Xor.mono _ _ _)
   | (with_reducible exact downpourlaw02_alive.mono _)
   | (with_reducible exact downpourlaw02_few.mono _ _)
   | (with_reducible exact LeO.refl _)
   | (with_reducible exact LeO.none _)
   | (with_reducible refine LeO.ite ?_ ?_)
   | (with_reducible refine LeO.bind ?_ (fun _ => ?_))
   | exact ih0 _ _ _ _ _ _ _ _ _
   | exact ih1 _ _ _ _ _ _
   | exact ih2 _ _ _ _ _ _ _
   | exact bitrow_Xor.mono _ _ _ _ _
   | exact block_Pick.mono _ _ _ _ _
   | exact block_Sum.mono _ _ _
   | exact block_Xor.mono _ _ _
   | exact downpourlaw02_alive.mono _
   | exact downpourlaw02_few.mono _ _
   | exact LeO.none _
   | refine LeO.ite ?_ ?_
   | refine LeO.bind ?_ (fun _ => ?_)
  ·
   intro y0 y1 y2 y3 y4 y5 y6
   unfold downpourlaw02_BlockOrder.j2
   repeat' first
   | (with_reducible exact ih0 _ _ _ _ _ _ _ _ _)
   | (with_reducible exact ih1 _ _ _ _ _ _)
   | (with_reducible exact ih2 _ _ _ _ _ _ _)
   | (with_reducible exact bitrow_Xor.mono _ _ _ _ _)
   | (with_reducible exact block_Pick.mono _ _ _ _ _)
   | (with_reducible exact block_Sum.mono _ _ _)
   | (with_reducible exact block_Xor.mono _ _ _)
   | (with_reducible exact downpourlaw02_alive.mono _)
   | (with_reducible exact downpourlaw02_few.mono _ _)
   | (with_reducible exact LeO.refl _)
   | (with_reducible exact LeO.none _)
   | (with_reducible refine LeO.ite ?_ ?_)
   | (with_reducible refine LeO.bind ?_ (fun _ => ?_))
   | exact ih0 _ _ _ _ _ _ _ _ _
   | exact ih1 _ _ _ _ _ _
   | exact ih2 _ _ _ _ _ _ _
   | exact bitrow_Xor.mono _ _ _ _ _
   | exact block_Pick.mono _ _ _ _ _
   | exact block_Sum.mono _ _ _
   | exact block_Xor.mono _ _ _
   | exact downpourlaw02_alive.mono _
   | exact downpourlaw02_few.mono _ _
   | exact LeO.none _
   | refine LeO.ite ?_ ?_
   | refine LeO.bind ?_ (fun _ => ?_)
theorem downpourlaw02_BlockOrder.mono : ∀ a0 a1 a2 a3 a4 a5 a6 k, LeO (downpourlaw02_BlockOrder.f k a0 a1 a2 a3 a4 a5 a6) (downpourlaw02_BlockOrder.f (k + 1) a0 a1 a2 a3 a4 a5 a6) := by
 intro a0 a1 a2 a3 a4 a5 a6 k
 obtain ⟨ih0, ih1, ih2⟩ := downpourlaw02_BlockOrder.mono_l k
 unfold downpourlaw02_BlockOrder.f
 repeat' first
   | (with_reducible exact ih0 _ _ _ _ _ _ _ _ _)
   | (with_reducible exact ih1 _ _ _ _ _ _)
   | (with_reducible exact ih2 _ _ _ _ _ _ _)
   | (with_reducible exact bitrow_Xor.mono _ _ _ _ _)
   | (with_reducible exact block_Pick.mono _ _ _ _ _)
   | (with_reducible exact block_Sum.mono _ _ _)
   | (with_reducible exact block_Xor.mono _ _ _)
   | (with_reducible exact downpourlaw02_alive.mono _)
   | (with_reducible exact downpourlaw02_few.mono _ _)
   | (with_reducible exact LeO.refl _)
   | (with_reducible exact LeO.none _)
   | (with_reducible refine LeO.ite ?_ ?_)
   | (with_reducible refine LeO.bind ?_ (fun _ => ?_))
   | exact ih0 _ _ _ _ _ _ _ _ _
   | exact ih1 _ _ _ _ _ _
   | exact ih2 _ _ _ _ _ _ _
   | exact bitrow_Xor.mono _ _ _ _ _
   | exact block_Pick.mono _ _ _ _ _
   | exact block_Sum.mono _ _ _
   | exact block_Xor.mono _ _ _
   | exact downpourlaw02_alive.mono _
   | exact downpourlaw02_few.mono _ _
   | exact LeO.none _
   | refine LeO.ite ?_ ?_
   | refine LeO.bind ?_ (fun _ => ?_)
def downpourlaw02_BlockOrder.T1 : Bool × List (List Nat × List Nat) := (true, [([], []), ([0], [0]), ([], []), ([2], [2]), ([], []), ([4], [4]), ([5], [5]), ([6], [6]), ([3, 7], [3, 7]), ([], []), ([9], [9]), ([], []), ([11], [11]), ([12], [12]), ([13], [13]), ([10, 14], [10, 14]), ([1, 1, 0, 1], [0, 1]), ([0, 1, 2, 3, 4, 5, 6, 7, 8, 16], []), ([17, 8, 16, 0, 1, 2, 3, 4, 5, 6, 7, 8, 16], [8, 17]), ([0, 1, 2, 3, 4, 5, 6, 7, 8, 9, 10, 11, 12, 13, 14, 15, 16, 17, 18], []), ([19, 15, 18, 0, 1, 2, 3, 4, 5, 6, 7, 8, 9, 10, 11, 12, 13, 14, 15, 16, 17, 18], [15, 19])])
def downpourlaw02_BlockOrder.B1 : List Nat := [0, 1, 0, 4, 0, 16, 48, 112, 252, 0, 512, 0, 2048, 6144, 14336, 32256, 3, 66047, 197119, 524287, 1048575]
theorem downpourlaw02_BlockOrder.tab1 : rtab .any (opsOf Tryd.f6 1) = downpourlaw02_BlockOrder.T1 := by kernel_rfl
theorem downpourlaw02_BlockOrder.bits1 : waitsOk downpourlaw02_BlockOrder.T1.2 downpourlaw02_BlockOrder.B1 = true := by kernel_rfl
def downpourlaw02_BlockOrder.T7 : Bool × List (List Nat × List Nat) := (true, [([], []), ([], []), ([], []), ([], []), ([2, 3], [2, 3]), ([1, 4], [1, 4]), ([], []), ([], []), ([6, 7], [6, 7]), ([5, 8, 5], [5, 8]), ([0, 9, 9], [0, 9]), ([10], [10]), ([11], [11]), ([11], [11]), ([12, 10, 0, 1, 2, 3, 4, 5, 6, 7, 8, 9, 10, 11, 12], [12]), ([13, 14, 0, 1, 2, 3, 4, 5, 6, 7, 8, 9, 10, 11, 12, 13, 14], [13])])
def downpourlaw02_BlockOrder.B7 : List Nat := [0, 0, 0, 0, 12, 30, 0, 0, 192, 510, 1023, 2047, 4095, 4095, 8191, 32767]
theorem downpourlaw02_BlockOrder.tab7 : rtab .any (opsOf Tryd.f6 7) = downpourlaw02_BlockOrder.T7 := by kernel_rfl
theorem downpourlaw02_BlockOrder.bits7 : waitsOk downpourlaw02_BlockOrder.T7.2 downpourlaw02_BlockOrder.B7 = true := by kernel_rfl
def downpourlaw02_BlockOrder.T8 : Bool × List (List Nat × List Nat) := (true, [([], []), ([], []), ([], []), ([1, 2], [1, 2]), ([3], [3]), ([], []), ([], []), ([5, 6], [5, 6]), ([7], [7]), ([4, 8], [4, 8]), ([], []), ([9, 10], [9, 10]), ([0, 11, 11], [0, 11]), ([12], [12]), ([13], [13]), ([13], [13]), ([14, 12, 0, 1, 2, 3, 4, 5, 6, 7, 8, 9, 10, 11, 12, 13, 14], [14]), ([15, 16, 0, 1, 2, 3, 4, 5, 6, 7, 8, 9, 10, 11, 12, 13, 14, 15, 16], [15])])
def downpourlaw02_BlockOrder.B8 : List Nat := [0, 0, 0, 6, 14, 0, 0, 96, 224, 510, 0, 2046, 4095, 8191, 16383, 16383, 32767, 131071]
theorem downpourlaw02_BlockOrder.tab8 : rtab .any (opsOf Tryd.f6 8) = downpourlaw02_BlockOrder.T8 := by kernel_rfl
theorem downpourlaw02_BlockOrder.bits8 : waitsOk downpourlaw02_BlockOrder.T8.2 downpourlaw02_BlockOrder.B8 = true := by kernel_rfl
set_option maxHeartbeats 8000000 in
set_option maxRecDepth 100000 in
theorem downpourlaw02_BlockOrder.calls (k : Nat) (a0 : Int) (A1 : Option Addr) (c1 : Nat) (l1 : List ByteArray) (a2_0 : Int) (A2_1 : Option Addr) (c2_1 : Nat) (l2_1 : List Int) (a3_0 : Int) (A3_1 : Option Addr) (c3_1 : Nat) (l3_1 : List Int) (a4 : Int) (r : Bool) (w : World) (hT_ : TabOk w) (hr1 : Kd.C Kd.string w A1 l1.length l1) (hc1 : l1.length ≤ c1) (hr2_1 : Kd.C (Kd.int .u64) w A2_1 l2_1.length l2_1) (hc2_1 : l2_1.length ≤ c2_1) (hr3_1 : Kd.C (Kd.int .u64) w A3_1 l3_1.length l3_1) (hc3_1 : l3_1.length ≤ c3_1) (h : downpourlaw02_BlockOrder.f k a0 l1 a2_0 l2_1 a3_0 l3_1 a4 = some r) :
  Calls Tryd.prog 6 #[.int .i64 a0, .slice A1 l1.length c1, .agg #[.int .i64 a2_0, .slice A2_1 l2_1.length c2_1], .agg #[.int .i64 a3_0, .slice A3_1 l3_1.length c3_1], .int .i64 a4] w fun e w' => e = .returned (.bool r) ∧ Below w.heap.size w w' := by
 have hu25 := Tryd.underlying25
 have HR1 := Aside0.mk hr1
 have HC1 := Aside0.mk hc1
 clear hr1 hc1
 have HR2_1 := Aside0.mk hr2_1
 have HC2_1 := Aside0.mk hc2_1
 clear hr2_1 hc2_1
 have HR3_1 := Aside0.mk hr3_1
 have HC3_1 := Aside0.mk hc3_1
 clear hr3_1 hc3_1
 have HT := Aside0.mk hT_
 clear hT_
 have HB := am (Below.refl w.heap.size w)
 have H : ((downpourlaw02_few.f k l1).bind fun t165 => (if 0 ≤ (mn (l2_1.length : Int) 10) then (if (mn (l2_1.length : Int) 10) ≤ (l2_1.length : Int) then (if 0 ≤ (mn (l3_1.length : Int) 10) then (if (mn (l3_1.length : Int) 10) ≤ (l3_1.length : Int) then ((block_Sum.f k a0 t165).bind fun bt170 => (if bt170.2 = 0 then (if (t165.length : Int) > 0 then (downpourlaw02_BlockOrder.j0 k a0 t165 a4 bt170.1 (decide ((t165.length : Int) < 63)) a2_0 (l2_1.take ((mn (l2_1.length : Int) 10) : Int).toNat) a3_0 (l3_1.take ((mn (l3_1.length : Int) 10) : Int).toNat)) else (downpourlaw02_BlockOrder.j0 k a0 t165 a4 bt170.1 false a2_0 (l2_1.take ((mn (l2_1.length : Int) 10) : Int).toNat) a3_0 (l3_1.take ((mn (l3_1.length : Int) 10) : Int).toNat))) else ((downpourlaw02_alive.f k).bind fun t172 => (if t172 = true then (some (bt170.1.toList == ([] : List UInt8))) else (none))))) else (none)) else (none)) else (none)) else (none))) = some r := h
 clear h
 replace H := Option.bind_eq_some_iff.mp H
 obtain ⟨t165, A60, H⟩ := H
 replace H : (if 0 ≤ (mn (l2_1.length : Int) 10) then (if (mn (l2_1.length : Int) 10) ≤ (l2_1.length : Int) then (if 0 ≤ (mn (l3_1.length : Int) 10) then (if (mn (l3_1.length : Int) 10) ≤ (l3_1.length : Int) then ((block_Sum.f k a0 t165).bind fun bt170 => (if bt170.2 = 0 then (if (t165.length : Int) > 0 then (downpourlaw02_BlockOrder.j0 k a0 t165 a4 bt170.1 (decide ((t165.length : Int) < 63)) a2_0 (l2_1.take ((mn (l2_1.length : Int) 10) : Int).toNat) a3_0 (l3_1.take ((mn (l3_1.length : Int) 10) : Int).toNat)) else (downpourlaw02_BlockOrder.j0 k a0 t165 a4 bt170.1 false a2_0 (l2_1.take ((mn (l2_1.length : Int) 10) : Int).toNat) a3_0 (l3_1.take ((mn (l3_1.length : Int) 10) : Int).toNat))) else ((downpourlaw02_alive.f k).bind fun t172 => (if t172 = true then (some (bt170.1.toList == ([] : List UInt8))) else (none))))) else (none)) else (none)) else (none)) else (none)) = some r := H
 have A6 := Aside0.mk A60
 clear A60
 obtain ⟨ji7, hji7⟩ : ∃ j_ : Int, (mn (l2_1.length : Int) 10) = j_ := ⟨_, rfl⟩
 obtain ⟨yji7, hyji7⟩ : ∃ y_, (l2_1.take ((ji7) : Int).toNat) = y_ := ⟨_, rfl⟩
 replace H : (if 0 ≤ (ji7) then (if (ji7) ≤ (l2_1.length : Int) then (if 0 ≤ (mn (l3_1.length : Int) 10) then (if (mn (l3_1.length : Int) 10) ≤ (l3_1.length : Int) then ((block_Sum.f k a0 t165).bind fun bt170 => (if bt170.2 = 0 then (if (t165.length : Int) > 0 then (downpourlaw02_BlockOrder.j0 k a0 t165 a4 bt170.1 (decide ((t165.length : Int) < 63)) a2_0 yji7 a3_0 (l3_1.take ((mn (l3_1.length : Int) 10) : Int).toNat)) else (downpourlaw02_BlockOrder.j0 k a0 t165 a4 bt170.1 false a2_0 yji7 a3_0 (l3_1.take ((mn (l3_1.length : Int) 10) : Int).toNat))) else ((downpourlaw02_alive.f k).bind fun t172 => (if t172 = true then (some (bt170.1.toList == ([] : List UInt8))) else (none))))) else (none)) else (none)) else (none)) else (none)) = some r := by (try rw [← hyji7]); first | (rw [hji7] at H; exact H) | (simp only [hji7] at H ⊢; exact H)
 (try rw [hji7] at A6)
 (try (have hji7h : ji7 ≤ 10 := by (rw [← hji7]; unfold mn; (repeat' split) <;> omega)))
 (try (have hji7g : ji7 ≤ 64 := by omega))
 (try (have hji7l : 0 ≤ ji7 := by (rw [← hji7]; unfold mn; (repeat' split) <;> omega)))
 (try (have hji7m : 0 ≤ ji7 := by omega))
 have hji7_ : (if 10 < (l2_1.length : Int) then 10 else (l2_1.length : Int)) = ji7 := hji7
 by_cases c8 : 0 ≤ (ji7)
 ·
  rw [if_pos c8] at H
  have c8b0 := eq_true c8
  have c8b1 : decide (0 ≤ (ji7)) = true := decide_eq_true c8
  clear c8
  by_cases c9 : (ji7) ≤ (l2_1.length : Int)
  ·
   rw [if_pos c9] at H
   have c9b0 := eq_true c9
   have c9b1 : decide ((ji7) ≤ (l2_1.length : Int)) = true := decide_eq_true c9
   clear c9
   obtain ⟨ji10, hji10⟩ : ∃ j_ : Int, (mn (l3_1.length : Int) 10) = j_ := ⟨_, rfl⟩
   obtain ⟨yji10, hyji10⟩ : ∃ y_, (l3_1.take ((ji10) : Int).toNat) = y_ := ⟨_, rfl⟩
   replace H : (if 0 ≤ (ji10) then (if (ji10) ≤ (l3_1.length : Int) then ((block_Sum.f k a0 t165).bind fun bt170 => (if bt170.2 = 0 then (if (t165.length : Int) > 0 then (downpourlaw02_BlockOrder.j0 k a0 t165 a4 bt170.1 (decide ((t165.length : Int) < 63)) a2_0 yji7 a3_0 yji10) else (downpourlaw02_BlockOrder.j0 k a0 t165 a4 bt170.1 false a2_0 yji7 a3_0 yji10)) else ((downpourlaw02_alive.f k).bind fun t172 => (if t172 = true then (some (bt170.1.toList == ([] : List UInt8))) else (none))))) else (none)) else (none)) = some r := by (try rw [← hyji10]); first | (rw [hji10] at H; exact H) | (simp only [hji10] at H ⊢; exact H)
   (try rw [hji10] at A6)
   (try (have hji10h : ji10 ≤ 10 := by (rw [← hji10]; unfold mn; (repeat' split) <;> omega)))
   (try (have hji10g : ji10 ≤ 64 := by omega))
   (try (have hji10l : 0 ≤ ji10 := by (rw [← hji10]; unfold mn; (repeat' split) <;> omega)))
   (try (have hji10m : 0 ≤ ji10 := by omega))
   have hji10_ : (if 10 < (l3_1.length : Int) then 10 else (l3_1.length : Int)) = ji10 := hji10
   by_cases c11 : 0 ≤ (ji10)
   ·
    rw [if_pos c11] at H
    have c11b0 := eq_true c11
    have c11b1 : decide (0 ≤ (ji10)) = true := decide_eq_true c11
    clear c11
    by_cases c12 : (ji10) ≤ (l3_1.length : Int)
    ·
     rw [if_pos c12] at H
     have c12b0 := eq_true c12
     have c12b1 : decide ((ji10) ≤ (l3_1.length : Int)) = true := decide_eq_true c12
     clear c12
     replace H := Option.bind_eq_some_iff.mp H
     obtain ⟨⟨t170, t171⟩, A130, H⟩ := H
     replace H : (if t171 = 0 then (if (t165.length : Int) > 0 then (downpourlaw02_BlockOrder.j0 k a0 t165 a4 t170 (decide ((t165.length : Int) < 63)) a2_0 yji7 a3_0 yji10) else (downpourlaw02_BlockOrder.j0 k a0 t165 a4 t170 false a2_0 yji7 a3_0 yji10)) else ((downpourlaw02_alive.f k).bind fun t172 => (if t172 = true then (some (t170.toList == ([] : List UInt8))) else (none)))) = some r := H
     have A13 := Aside0.mk A130
     clear A130
     by_cases c14 : t171 = 0
     ·
      rw [if_pos c14] at H
      have c14b0 : (t171 == 0) = true := beq_iff_eq.mpr c14
      have c14b1 : (t171 != 0) = false := bne_eq_false_iff_eq.mpr c14
      clear c14
      have HC15 := Aside0.mk H
      clear H
      go_enter Tryd.func6, Tryd.ntmps6
      try go_wp2_with (first | ((with_reducible refine gate_dst (N := 7) rfl ?_); (try (refine gate_guard (by rfl) ?_; dsimp only)); refine box_event ?hg (N := 7) ?hd (cs := #[.int .i64 a2_0, .slice A2_1 l2_1.length c2_1]) (t := 25) ?hr ?_; (case hd => rfl); (case hg => rfl); (case hr => first | (go_simp; done) | (go_simp; rfl)); intro gb163 hg w16 hbox hb; have n0_ := am (below_step (pb HB) hb); have n1_ := am (hbox); have n2_ := am ((by rw [hg]; exact (below_size (pb HB)) : w.heap.size ≤ gb163)); have n3_ := am ((by rw [hg]; exact (below_size (pb HB)) : w.heap.size ≤ gb163)); clear HB; have HB := n0_; have BK163 := n1_; have GW163 := n2_; have GE163 := n3_; clear n0_ n1_ n2_ n3_ hb hbox hg) | ((with_reducible refine gate_dst (N := 8) rfl ?_); (try (refine gate_guard (by rfl) ?_; dsimp only)); refine box_event ?hg (N := 8) ?hd (cs := #[.int .i64 a3_0, .slice A3_1 l3_1.length c3_1]) (t := 25) ?hr ?_; (case hd => rfl); (case hg => rfl); (case hr => first | (go_simp; done) | (go_simp; rfl)); intro gb164 hg w17 hbox hb; have n0_ := bb BK163 hb; have n1_ := am (below_step (pb HB) hb); have n2_ := am (hbox); have n3_ := am ((by rw [hg]; exact (below_size (pb HB)) : w.heap.size ≤ gb164)); have n4_ := am ((by rw [hg]; exact (below_size (pb HB)) : w.heap.size ≤ gb164)); have n5_ := am ((by rw [hg]; exact Nat.ne_of_lt (bl BK163) : gb163 ≠ gb164)); have n6_ := am ((by rw [hg]; exact Nat.ne_of_gt (bl BK163) : gb164 ≠ gb163)); clear BK163 HB; have BK163 := n0_; have HB := n1_; have BK164 := n2_; have GW164 := n3_; have GE164 := n4_; have NB163_164 := n5_; have NB164_163 := n6_; clear n0_ n1_ n2_ n3_ n4_ n5_ n6_ hb hbox hg))
      have n0_ := am (blk_drew BK163.out)
      have n1_ := am (blk_drew BK164.out)
      have n2_ := am (below_drew1 HB.out)
      clear BK163
      clear BK164
      clear HB
      have BK163 := n0_
      have BK164 := n1_
      have HB := n2_
      clear n0_ n1_ n2_
      obtain ⟨i019, hi019, _, hsz19, _⟩ := info_parts info90
      obtain ⟨hcut19, hA19, hC19⟩ := print_take_of (P := Tryd.prog) (Value.int .u64) 0 23 90 .i64 Tryd.underlying23 hi019 hsz19 A2_1 c2_1 l2_1 (ji7) (of_decide_eq_true (by first | (with_reducible assumption) | assumption)) (of_decide_eq_true (by first | (with_reducible assumption) | assumption)) HC2_1.out
      (try simp only [hyji7] at hcut19 hA19 hC19)
      have HR168 := am (Kd.C_of_reads (h1 := fun _ => rfl) (hA19 _ (Kd.reads_of_C HR2_1.out)))
      have HC168 := Aside0.mk hC19
      clear hA19 hC19 hi019 hsz19
      obtain ⟨i020, hi020, _, hsz20, _⟩ := info_parts info90
      obtain ⟨hcut20, hA20, hC20⟩ := print_take_of (P := Tryd.prog) (Value.int .u64) 0 23 90 .i64 Tryd.underlying23 hi020 hsz20 A3_1 c3_1 l3_1 (ji10) (of_decide_eq_true (by first | (with_reducible assumption) | assumption)) (of_decide_eq_true (by first | (with_reducible assumption) | assumption)) HC3_1.out
      (try simp only [hyji10] at hcut20 hA20 hC20)
      have HR169 := am (Kd.C_of_reads (h1 := fun _ => rfl) (hA20 _ (Kd.reads_of_C HR3_1.out)))
      have HC169 := Aside0.mk hC20
      clear hA20 hC20 hi020 hsz20
      refine startG_ (n := 21) [(fun w' => w'.cell? ⟨gb163, 0, none⟩ = some (.int .i64 a2_0) ∧ w'.cell? ⟨gb163, 1, none⟩ = some (.slice A2_1 l2_1.length c2_1), [18, 20]), (fun w' => w'.cell? ⟨gb164, 0, none⟩ = some (.int .i64 a3_0) ∧ w'.cell? ⟨gb164, 1, none⟩ = some (.slice A3_1 l3_1.length c3_1), [20])] #[F, F, F, F, F, F, F, F, F, F, F, F, F, F, F, F, F, F, F, F, F] (by kernel_rfl) rfl rfl ?_; refine with_tabG downpourlaw02_BlockOrder.tab1 downpourlaw02_BlockOrder.bits1 (fun HT_ HW_ => ?_)
      generalize w17.drew = w18 at BK163 BK164 HB ⊢
      -- TAB
      refine pureG_ (i := 0) (N := some 27) (v := ?_) (a' := ?_) #[T, F, F, F, F, F, F, F, F, F, F, F, F, F, F, F, F, F, F, F, F] rfl rfl (any_of HT_.out (by kernel_rfl)) (fun _ _ _ h => h) (Or.inl ⟨by rfl, ?_⟩) ?_ ?_
      rotate_left
      ·
       intro w'
       go_simp
       with_reducible rfl
      rotate_left
      ·
       simp only [Act.put, q1, q2, q3, i64_w, i32_w]
       rfl
      refine pureG_ (i := 2) (N := some 29) (v := ?_) (a' := ?_) #[T, F, T, F, F, F, F, F, F, F, F, F, F, F, F, F, F, F, F, F, F] rfl rfl (any_of HT_.out (by kernel_rfl)) (fun _ _ _ h => h) (Or.inl ⟨by rfl, ?_⟩) ?_ ?_
      rotate_left
      ·
       intro w'
       go_simp
       with_reducible rfl
      rotate_left
      ·
       simp only [Act.put, q1, q2, q3, i64_w, i32_w]
       rfl
      refine pureG_ (i := 4) (N := some 31) (v := ?_) (a' := ?_) #[T, F, T, F, T, F, F, F, F, F, F, F, F, F, F, F, F, F, F, F, F] rfl rfl (any_of HT_.out (by kernel_rfl)) (fun _ _ _ h => h) (Or.inl ⟨by rfl, ?_⟩) ?_ ?_
      rotate_left
      ·
       intro w'
       go_simp
       with_reducible rfl
      rotate_left
      ·
       simp only [Act.put, q1, q2, q3, i64_w, i32_w]
       rfl
      refine pureG_ (i := 9) (N := some 36) (v := ?_) (a' := ?_) #[T, F, T, F, T, F, F, F, F, T, F, F, F, F, F, F, F, F, F, F, F] rfl rfl (any_of HT_.out (by kernel_rfl)) (fun _ _ _ h => h) (Or.inl ⟨by rfl, ?_⟩) ?_ ?_
      rotate_left
      ·
       intro w'
       go_simp
       with_reducible rfl
      rotate_left
      ·
       simp only [Act.put, q1, q2, q3, i64_w, i32_w]
       rfl
      refine pureG_ (i := 11) (N := some 38) (v := ?_) (a' := ?_) #[T, F, T, F, T, F, F, F, F, T, F, T, F, F, F, F, F, F, F, F, F] rfl rfl (any_of HT_.out (by kernel_rfl)) (fun _ _ _ h => h) (Or.inl ⟨by rfl, ?_⟩) ?_ ?_
      rotate_left
      ·
       intro w'
       go_simp
       with_reducible rfl
      rotate_left
      ·
       simp only [Act.put, q1, q2, q3, i64_w, i32_w]
       rfl
      refine takeG_ (i := 3) (N := some 30) (v := ?_) (a' := ?_) (fun w' => w'.cell? ⟨gb163, 0, none⟩ = some (.int .i64 a2_0) ∧ w'.cell? ⟨gb163, 1, none⟩ = some (.slice A2_1 l2_1.length c2_1)) [18, 20] (.head _) #[T, F, T, T, T, F, F, F, F, T, F, T, F, F, F, F, F, F, F, F, F] rfl rfl (take_ofW HT_.out HW_.out (by kernel_rfl)) (fun _ _ _ h => h) (Or.inl ⟨by rfl, ?_⟩) ⟨(blk_cell BK163.out 0).trans rfl, (blk_cell BK163.out 1).trans rfl⟩ ?_ ?_
      rotate_left
      ·
       rintro w' ⟨s0, s1⟩
       go_simp
       with_reducible rfl
      rotate_left
      ·
       simp only [Act.put, q1, q2, q3, i64_w, i32_w]
       rfl
      refine takeG_ (i := 5) (N := some 32) (v := ?_) (a' := ?_) (fun w' => w'.cell? ⟨gb163, 0, none⟩ = some (.int .i64 a2_0) ∧ w'.cell? ⟨gb163, 1, none⟩ = some (.slice A2_1 l2_1.length c2_1)) [18, 20] (.head _) #[T, F, T, T, T, T, F, F, F, T, F, T, F, F, F, F, F, F, F, F, F] rfl rfl (take_ofW HT_.out HW_.out (by kernel_rfl)) (fun _ _ _ h => h) (Or.inl ⟨by rfl, ?_⟩) ⟨(blk_cell BK163.out 0).trans rfl, (blk_cell BK163.out 1).trans rfl⟩ ?_ ?_
      rotate_left
      ·
       rintro w' ⟨s0, s1⟩
       go_simp
       with_reducible rfl
      rotate_left
      ·
       simp only [Act.put, q1, q2, q3, i64_w, i32_w]
       rfl
      refine pureG_ (i := 6) (N := some 33) (v := ?_) (a' := ?_) #[T, F, T, T, T, T, T, F, F, T, F, T, F, F, F, F, F, F, F, F, F] rfl rfl (any_of HT_.out (by kernel_rfl)) (fun _ _ _ h => h) (Or.inl ⟨by rfl, ?_⟩) ?_ ?_
      rotate_left
      ·
       intro w'
       go_simp
       with_reducible rfl
      rotate_left
      ·
       simp only [Act.put, q1, q2, q3, i64_w, i32_w]
       rfl
      refine pureG_ (i := 7) (N := some 34) (v := ?_) (a' := ?_) #[T, F, T, T, T, T, T, T, F, T, F, T, F, F, F, F, F, F, F, F, F] rfl rfl (any_of HT_.out (by kernel_rfl)) (fun _ _ _ h => h) (Or.inl ⟨by rfl, ?_⟩) ?_ ?_
      rotate_left
      ·
       intro w'
       go_simp
       with_reducible rfl
      rotate_left
      ·
       simp only [Act.put, q1, q2, q3, i64_w, i32_w]
       rfl
      refine pureG_ (i := 8) (N := some 35) (v := ?_) (a' := ?_) #[T, F, T, T, T, T, T, T, T, T, F, T, F, F, F, F, F, F, F, F, F] rfl rfl (any_of HT_.out (by kernel_rfl)) (fun _ _ _ h => h) (Or.inl ⟨by rfl, ?_⟩) ?_ ?_
      rotate_left
      ·
       intro w'
       go_simp
       with_reducible rfl
      rotate_left
      ·
       simp only [Act.put, q1, q2, q3, i64_w, i32_w]
       rfl
      refine takeG_ (i := 10) (N := some 37) (v := ?_) (a' := ?_) (fun w' => w'.cell? ⟨gb164, 0, none⟩ = some (.int .i64 a3_0) ∧ w'.cell? ⟨gb164, 1, none⟩ = some (.slice A3_1 l3_1.length c3_1)) [20] (.tail _ (.head _)) #[T, F, T, T, T, T, T, T, T, T, T, T, F, F, F, F, F, F, F, F, F] rfl rfl (take_ofW HT_.out HW_.out (by kernel_rfl)) (fun _ _ _ h => h) (Or.inl ⟨by rfl, ?_⟩) ⟨(blk_cell BK164.out 0).trans rfl, (blk_cell BK164.out 1).trans rfl⟩ ?_ ?_
      rotate_left
      ·
       rintro w' ⟨s0, s1⟩
       go_simp
       with_reducible rfl
      rotate_left
      ·
       simp only [Act.put, q1, q2, q3, i64_w, i32_w]
       rfl
      refine takeG_ (i := 12) (N := some 39) (v := ?_) (a' := ?_) (fun w' => w'.cell? ⟨gb164, 0, none⟩ = some (.int .i64 a3_0) ∧ w'.cell? ⟨gb164, 1, none⟩ = some (.slice A3_1 l3_1.length c3_1)) [20] (.tail _ (.head _)) #[T, F, T, T, T, T, T, T, T, T, T, T, T, F, F, F, F, F, F, F, F] rfl rfl (take_ofW HT_.out HW_.out (by kernel_rfl)) (fun _ _ _ h => h) (Or.inl ⟨by rfl, ?_⟩) ⟨(blk_cell BK164.out 0).trans rfl, (blk_cell BK164.out 1).trans rfl⟩ ?_ ?_
      rotate_left
      ·
       rintro w' ⟨s0, s1⟩
       go_simp
       with_reducible rfl
      rotate_left
      ·
       simp only [Act.put, q1, q2, q3, i64_w, i32_w]
       rfl
      refine pureG_ (i := 13) (N := some 40) (v := ?_) (a' := ?_) #[T, F, T, T, T, T, T, T, T, T, T, T, T, T, F, F, F, F, F, F, F] rfl rfl (any_of HT_.out (by kernel_rfl)) (fun _ _ _ h => h) (Or.inl ⟨by rfl, ?_⟩) ?_ ?_
      rotate_left
      ·
       intro w'
       go_simp
       with_reducible rfl
      rotate_left
      ·
       simp only [Act.put, q1, q2, q3, i64_w, i32_w]
       rfl
      refine pureG_ (i := 14) (N := some 41) (v := ?_) (a' := ?_) #[T, F, T, T, T, T, T, T, T, T, T, T, T, T, T, F, F, F, F, F, F] rfl rfl (any_of HT_.out (by kernel_rfl)) (fun _ _ _ h => h) (Or.inl ⟨by rfl, ?_⟩) ?_ ?_
      rotate_left
      ·
       intro w'
       go_simp
       with_reducible rfl
      rotate_left
      ·
       simp only [Act.put, q1, q2, q3, i64_w, i32_w]
       rfl
      refine pureG_ (i := 15) (N := some 42) (v := ?_) (a' := ?_) #[T, F, T, T, T, T, T, T, T, T, T, T, T, T, T, T, F, F, F, F, F] rfl rfl (any_of HT_.out (by kernel_rfl)) (fun _ _ _ h => h) (Or.inl ⟨by rfl, ?_⟩) ?_ ?_
      rotate_left
      ·
       intro w'
       go_simp
       with_reducible rfl
      rotate_left
      ·
       simp only [Act.put, q1, q2, q3, i64_w, i32_w]
       rfl
      refine oneG_ (i := 1) (N := some 28) #[T, T, T, T, T, T, T, T, T, T, T, T, T, T, T, T, F, F, F, F, F] rfl rfl (one_of HT_.out (by kernel_rfl)) (fun K hK => ?_)
      refine goes_ Tryd.func11 (by kernel_rfl) rfl #[.slice A1 l1.length c1] (by rfl) rfl rfl (by (try simp only [List.map_toArray, List.map_cons, List.map_nil]); first | done | rfl | (simp only [List.length_drop, List.length_take]; rfl)) ?_
      with_reducible refine (downpourlaw02_few.calls k _ _ l1 t165 _ ?side1 ?side2 A6.out).mono ?_
      (case side1 => repeat (first | exact (Kd.C_below HR1.out HB.out) | (with_reducible refine Kd.C_alloc ?_ _) | (with_reducible refine Kd.C_drewN ?_ _) | (with_reducible refine Kd.C_drew ?_)))
      (case side2 => exact HC1.out)
      rintro e w21 ⟨v166, rfl, ho0, hb⟩
      refine ⟨_, rfl, ?_⟩
      have n0_ := am (Kd.R_lower ho0 (below_size (pb HB)))
      have n1_ := bb BK163 hb
      have n2_ := bb BK164 hb
      have n3_ := am (below_step (pb HB) hb)
      clear BK163
      clear BK164
      clear HB
      have HO167 := n0_
      have BK163 := n1_
      have BK164 := n2_
      have HB := n3_
      clear n0_ n1_ n2_ n3_
      (try clear hb)
      (try clear hb2)
      (try clear hk)
      (try clear hi)
      (try clear ho0)
      refine hK.out _ _ (Goes.cons ⟨(blk_cell BK163.out 0).trans rfl, (blk_cell BK163.out 1).trans rfl⟩ (Goes.cons ⟨(blk_cell BK164.out 0).trans rfl, (blk_cell BK164.out 1).trans rfl⟩ Goes.nil)) ?_
      clear hK K
      refine normG_ (a' := ?_) ?_ ?_
      rotate_left
      ·
       show Act.put _ (some 28) _ = _
       simp only [Act.put, q1, q2, q3, i64_w, i32_w]
       rfl
      refine pureG_ (i := 16) (N := some 1) (v := ?_) (a' := ?_) #[T, T, T, T, T, T, T, T, T, T, T, T, T, T, T, T, T, F, F, F, F] rfl rfl (any_of HT_.out (by kernel_rfl)) (fun _ _ _ h => h) (Or.inl ⟨by rfl, ?_⟩) ?_ ?_
      rotate_left
      ·
       intro w'
       go_simp
       with_reducible rfl
      rotate_left
      ·
       simp only [Act.put, q1, q2, q3, i64_w, i32_w]
       rfl
      refine pureG_ (i := 17) (N := some 43) (v := ?_) (a' := ?_) #[T, T, T, T, T, T, T, T, T, T, T, T, T, T, T, T, T, T, F, F, F] rfl rfl (any_of HT_.out (by kernel_rfl)) (fun _ _ _ h => h) (Or.inl ⟨by rfl, ?_⟩) ?_ ?_
      rotate_left
      ·
       intro w'
       go_simp
       with_reducible rfl
      rotate_left
      ·
       simp only [Act.put, q1, q2, q3, i64_w, i32_w]
       rfl
      refine oneG_ (i := 18) (N := none) #[T, T, T, T, T, T, T, T, T, T, T, T, T, T, T, T, T, T, T, F, F] rfl rfl (one_of HT_.out (by kernel_rfl)) (fun K hK => ?_)
      have hs22 : w21.cell? ⟨gb163, 1, none⟩ = some (.slice A2_1 l2_1.length c2_1) := (blk_cell BK163.out 1).trans rfl
      have hfs22 := blk_frozen BK163.out 1
      have hns22_1 := NB164_163.out
      have hms22_1 := NB163_164.out
      refine skip_ (w1 := ?_) (by rfl) rfl ?_ ?_
      rotate_left
      ·
       go_simp
       rfl
      refine hK.out _ _ (Goes.skip (by decide) (Goes.cons ⟨((cell_far (p := ⟨gb163, _, none⟩) NB164_163.out _).trans ((blk_cell BK164.out 0).trans rfl)), ((cell_far (p := ⟨gb163, _, none⟩) NB164_163.out _).trans ((blk_cell BK164.out 1).trans rfl))⟩ Goes.nil)) ?_
      clear hK K
      refine pureG_ (i := 19) (N := some 44) (v := ?_) (a' := ?_) #[T, T, T, T, T, T, T, T, T, T, T, T, T, T, T, T, T, T, T, T, F] rfl rfl (any_of HT_.out (by kernel_rfl)) (fun _ _ _ h => h) (Or.inl ⟨by rfl, ?_⟩) ?_ ?_
      rotate_left
      ·
       intro w'
       go_simp
       with_reducible rfl
      rotate_left
      ·
       simp only [Act.put, q1, q2, q3, i64_w, i32_w]
       rfl
      refine oneG_ (i := 20) (N := none) #[T, T, T, T, T, T, T, T, T, T, T, T, T, T, T, T, T, T, T, T, T] rfl rfl (one_of HT_.out (by kernel_rfl)) (fun K hK => ?_)
      have hs23 : w21.cell? ⟨gb164, 1, none⟩ = some (.slice A3_1 l3_1.length c3_1) := (blk_cell BK164.out 1).trans rfl
      have hfs23 := blk_frozen BK164.out 1
      have hns23_0 := NB163_164.out
      have hms23_0 := NB164_163.out
      refine skip_ (w1 := ?_) (by rfl) rfl ?_ ?_
      rotate_left
      ·
       go_simp
       rfl
      refine hK.out _ _ (Goes.skip (by decide) (Goes.skip (by decide) Goes.nil)) ?_
      clear hK K
      refine doneG_ (done_of HT_.out (by kernel_rfl)) ?_
      obtain ⟨Ao24, co24, eo24⟩ := Kd.R_slice HO167.out
      subst eo24
      go_upto_region 5 with (first | ((with_reducible refine gate_callee (f := 32) rfl ?_); refine goesL_ (some 48) rfl rfl Tryd.func32 (by kernel_rfl) rfl #[.int .i64 a0, .slice Ao24 t165.length co24] rfl (by (try simp only [List.map_toArray, List.map_cons, List.map_nil]); first | done | rfl | (simp only [List.length_drop, List.length_take]; rfl)) ?_; (with_reducible refine (block_Sum.calls k a0 _ _ t165 t170 t171 _ ?side1 ?side2 A13.out).mono ?_); (case side1 => refine (Kd.R_reads' (e := 9) (base := w.heap.size) (ok := fun k_ => True) (n := t165.length) (c := co24) ?_).2.2; exact (by (with_reducible repeat (first | apply Kd.R_alloc | apply Kd.R_drewN | apply Kd.R_drew)); exact (Kd.R_mono (Kd.R_mono (Kd.R_far (p := ⟨gb164, 1, none⟩) (Kd.R_far (p := ⟨gb163, 1, none⟩) (Kd.R_types (Kd.R_types HO167.out BK163.out (by decide)) BK164.out (by decide)) (fun _ hk => hk.1.2) (.slice A2_1 yji7.length c2_1)) (fun _ hk => hk.2) (.slice A3_1 yji10.length c3_1)) (fun _ h_ => h_.1)) (fun _ h_ => h_.1)))); (case side2 => exact (Kd.R_reads' HO167.out).2.1); rintro e w25 ⟨rfl, hb⟩; refine ⟨_, rfl, ?_⟩; have n0_ := am (Kd.R_below (by (with_reducible repeat (first | apply Kd.R_alloc | apply Kd.R_drewN | apply Kd.R_drew)); exact (Kd.R_mono (Kd.R_mono (Kd.R_far (p := ⟨gb164, 1, none⟩) (Kd.R_far (p := ⟨gb163, 1, none⟩) (Kd.R_types (Kd.R_types HO167.out BK163.out (by decide)) BK164.out (by decide)) (fun _ hk => hk.1.2) (.slice A2_1 yji7.length c2_1)) (fun _ hk => hk.2) (.slice A3_1 yji10.length c3_1)) (fun _ h_ => h_.1)) (fun _ h_ => h_.1))) hb); have n1_ := am (blk_below (g := gb163) (o := .cells #[.int .i64 a2_0, .slice A2_1 yji7.length c2_1] 25 (0, 0)) (by (with_reducible repeat (first | refine blk_drewN ?_ _ | refine blk_drew ?_ | refine blk_alloc ?_ _)); refine blk_far ?_ NB163_164.out _; (with_reducible repeat (first | refine blk_drewN ?_ _ | refine blk_drew ?_ | refine blk_alloc ?_ _)); refine blk_put (cs := #[.int .i64 a2_0, .slice A2_1 l2_1.length c2_1]) ?_ 1 _ rfl; (with_reducible repeat (first | refine blk_drewN ?_ _ | refine blk_drew ?_ | refine blk_alloc ?_ _)); exact BK163.out) hb); have n2_ := am (blk_below (g := gb164) (o := .cells #[.int .i64 a3_0, .slice A3_1 yji10.length c3_1] 25 (0, 0)) (by (with_reducible repeat (first | refine blk_drewN ?_ _ | refine blk_drew ?_ | refine blk_alloc ?_ _)); refine blk_put (cs := #[.int .i64 a3_0, .slice A3_1 l3_1.length c3_1]) ?_ 1 _ rfl; (with_reducible repeat (first | refine blk_drewN ?_ _ | refine blk_drew ?_ | refine blk_alloc ?_ _)); refine blk_far ?_ NB164_163.out _; (with_reducible repeat (first | refine blk_drewN ?_ _ | refine blk_drew ?_ | refine blk_alloc ?_ _)); exact BK164.out) hb); have n3_ := am (below_step (pb HB) hb); clear HO167 BK163 BK164 HB; have HO167 := n0_; have BK163 := n1_; have BK164 := n2_; have HB := n3_; clear n0_ n1_ n2_ n3_; (try clear hb); (try clear hb2); (try clear hk); (try clear hi)))
      (try simp only [Act.put, q1, q2, q3])
      go_cut [65] (fun v65 wc => ∃ (kq : Nat) (x65_14 : Bool), v65 = .bool x65_14 ∧ Aside0 (downpourlaw02_BlockOrder.j0 kq a0 t165 a4 t170 x65_14 a2_0 yji7 a3_0 yji10 = some r) ∧ Aside0 (kq ≤ k) ∧ Aside0 (Kd.R Kd.string 9 wc w.heap.size (fun _ => True) (.slice Ao24 t165.length co24) t165) ∧ Aside0 (wc.heap[gb163]? = some (.cells #[.int .i64 a2_0, (.slice A2_1 yji7.length c2_1)] 25 (0, 0))) ∧ Aside0 (wc.heap[gb164]? = some (.cells #[.int .i64 a3_0, (.slice A3_1 yji10.length c3_1)] 25 (0, 0))) ∧ Aside0 (Below w.heap.size w wc))
      case first =>
       have H := HC15.out
       clear HC15
       by_cases c26 : (t165.length : Int) > 0
       ·
        rw [if_pos c26] at H
        have c26b0 : decide (0 < (t165.length : Int)) = true := decide_eq_true c26
        have c26b1 : decide (0 < t165.length) = true := decide_eq_true (by omega)
        clear c26
        (first | rw [c26b0] | (simp only [i64_w, i32_w]; rw [c26b0]) | skip)
        have H' := Aside0.mk H
        clear H
        go_wp2
        go_meet
        case rel => exact ⟨_, (decide ((t165.length : Int) < 63)), (by first | rfl | (simp; done) | (simp [*]; done)), H', ⟨by first | omega | exact Nat.le_refl _⟩, ⟨by (with_reducible repeat (first | apply Kd.R_alloc | apply Kd.R_drewN | apply Kd.R_drew)); exact HO167.out⟩, ⟨by (with_reducible repeat (first | refine blk_drewN ?_ _ | refine blk_drew ?_ | refine blk_alloc ?_ _)); exact BK163.out⟩, ⟨by (with_reducible repeat (first | refine blk_drewN ?_ _ | refine blk_drew ?_ | refine blk_alloc ?_ _)); exact BK164.out⟩, ⟨pb HB⟩⟩
       ·
        rw [if_neg c26] at H
        have c26b0 : decide (0 < (t165.length : Int)) = false := decide_eq_false c26
        have c26b1 : decide (0 < t165.length) = false := decide_eq_false (by omega)
        clear c26
        (first | rw [c26b0] | (simp only [i64_w, i32_w]; rw [c26b0]) | skip)
        have H' := Aside0.mk H
        clear H
        go_wp2
        go_meet
        case rel => exact ⟨_, (false), (by first | rfl | (simp; done) | (simp [*]; done)), H', ⟨by first | omega | exact Nat.le_refl _⟩, ⟨by (with_reducible repeat (first | apply Kd.R_alloc | apply Kd.R_drewN | apply Kd.R_drew)); exact HO167.out⟩, ⟨by (with_reducible repeat (first | refine blk_drewN ?_ _ | refine blk_drew ?_ | refine blk_alloc ?_ _)); exact BK163.out⟩, ⟨by (with_reducible repeat (first | refine blk_drewN ?_ _ | refine blk_drew ?_ | refine blk_alloc ?_ _)); exact BK164.out⟩, ⟨pb HB⟩⟩
      case rest =>
       clear HC15
       try clear c1
       try clear c2
       try clear p2
       try clear c3
       try clear c6
       try clear c8
       try clear c8b0
       try clear c8b1
       try clear c9
       try clear c9b0
       try clear c9b1
       try clear c11
       try clear c11b0
       try clear c11b1
       try clear c12
       try clear c12b0
       try clear c12b1
       try clear c14
       try clear c14b0
       try clear c14b1
       try clear c26
       try clear c26b0
       try clear c26b1
       obtain ⟨kq, x65_14, rfl, HA, HJ14, HO_1, BK163, BK164, HB⟩ := hcut
       cases kq with
       | zero => exact absurd HA.out (by simp [downpourlaw02_BlockOrder.j0])
       | succ kj14 =>
        have H := HA.out
        clear HA
        simp only [downpourlaw02_BlockOrder.j0] at H
        have HC27 := Aside0.mk H
        clear H
        go_upto_if 65 with (fail)
        go_cut [] (fun wc => ∃ (kq : Nat), Aside0 (downpourlaw02_BlockOrder.j1 kq a0 t165 a2_0 yji7 a3_0 yji10 = some r) ∧ Aside0 (kq ≤ kj14) ∧ Aside0 (Kd.R Kd.string 9 wc w.heap.size (fun _ => True) (.slice Ao24 t165.length co24) t165) ∧ Aside0 (wc.heap[gb163]? = some (.cells #[.int .i64 a2_0, (.slice A2_1 yji7.length c2_1)] 25 (0, 0))) ∧ Aside0 (wc.heap[gb164]? = some (.cells #[.int .i64 a3_0, (.slice A3_1 yji10.length c3_1)] 25 (0, 0))) ∧ Aside0 (Below w.heap.size w wc))
        case first =>
         have H := HC27.out
         clear HC27
         by_cases c28 : x65_14 = true
         ·
          subst c28
          have H1 : (if (t165.length : Int) = 0 then (none) else ((some (([] : List ByteArray) : List ByteArray)).bind fun y173 => (if 0 ≤ (Int.tmod (wrap64 ((Int.tmod a4 (t165.length : Int)) + (t165.length : Int))) (t165.length : Int)) then (if (Int.tmod (wrap64 ((Int.tmod a4 (t165.length : Int)) + (t165.length : Int))) (t165.length : Int)) ≤ (t165.length : Int) then ((some (t165.drop ((Int.tmod (wrap64 ((Int.tmod a4 (t165.length : Int)) + (t165.length : Int))) (t165.length : Int)) : Int).toNat : List ByteArray)).bind fun y176 => (if y173.length + y176.length < 8796093022208 then ((some (y173 ++ y176 : List ByteArray)).bind fun y180 => ((some (t165.take ((Int.tmod (wrap64 ((Int.tmod a4 (t165.length : Int)) + (t165.length : Int))) (t165.length : Int)) : Int).toNat : List ByteArray)).bind fun y183 => (if y180.length + y183.length < 8796093022208 then ((block_Sum.f kj14 a0 (y180 ++ y183)).bind fun bt190 => (if (Int.tmod (wrap64 ((Int.tmod a4 (t165.length : Int)) + (t165.length : Int))) (t165.length : Int)) < (t165.length : Int) then ((some (([rdOf ByteArray.empty t165 (Int.tmod (wrap64 ((Int.tmod a4 (t165.length : Int)) + (t165.length : Int))) (t165.length : Int)), rdOf ByteArray.empty t165 (Int.tmod (wrap64 ((Int.tmod a4 (t165.length : Int)) + (t165.length : Int))) (t165.length : Int))] : List ByteArray) : List ByteArray)).bind fun y194 => (if y194.length + t165.length < 8796093022208 then ((block_Sum.f kj14 a0 (y194 ++ t165)).bind fun bt200 => (if bt190.2 = 0 then (if bt200.2 = 0 then (if bt190.1.toList = t170.toList then (if bt200.1.toList = t170.toList then (downpourlaw02_BlockOrder.j1 kj14 a0 t165 a2_0 yji7 a3_0 yji10) else (none)) else (none)) else (none)) else (none))) else (none))) else (none))) else (none)))) else (none))) else (none)) else (none)))) = some r := by rw [if_pos rfl] at H; exact H
          clear H
          have H := H1
          clear H1
          by_cases c29 : (t165.length : Int) = 0
          ·
           rw [if_pos c29] at H
           exact absurd H (by simp)
          ·
           rw [if_neg c29] at H
           have c29b0 : ((t165.length : Int) == 0) = false := beq_eq_false_iff_ne.mpr c29
           have c29b1 : ((t165.length : Int) != 0) = true := bne_iff_ne.mpr c29
           have c29b2 : ¬ (t165 = []) := fun h_ => c29 (by rw [h_]; rfl)
           (first | rw [c29b0] | (simp only [i64_w, i32_w]; rw [c29b0]) | skip)
           obtain ⟨y173, hy173⟩ : ∃ y_ : List ByteArray, y_ = (([] : List ByteArray)) := ⟨_, rfl⟩
           replace H : (if 0 ≤ (Int.tmod (wrap64 ((Int.tmod a4 (t165.length : Int)) + (t165.length : Int))) (t165.length : Int)) then (if (Int.tmod (wrap64 ((Int.tmod a4 (t165.length : Int)) + (t165.length : Int))) (t165.length : Int)) ≤ (t165.length : Int) then ((some (t165.drop ((Int.tmod (wrap64 ((Int.tmod a4 (t165.length : Int)) + (t165.length : Int))) (t165.length : Int)) : Int).toNat : List ByteArray)).bind fun y176 => (if y173.length + y176.length < 8796093022208 then ((some (y173 ++ y176 : List ByteArray)).bind fun y180 => ((some (t165.take ((Int.tmod (wrap64 ((Int.tmod a4 (t165.length : Int)) + (t165.length : Int))) (t165.length : Int)) : Int).toNat : List ByteArray)).bind fun y183 => (if y180.length + y183.length < 8796093022208 then ((block_Sum.f kj14 a0 (y180 ++ y183)).bind fun bt190 => (if (Int.tmod (wrap64 ((Int.tmod a4 (t165.length : Int)) + (t165.length : Int))) (t165.length : Int)) < (t165.length : Int) then ((some (([rdOf ByteArray.empty t165 (Int.tmod (wrap64 ((Int.tmod a4 (t165.length : Int)) + (t165.length : Int))) (t165.length : Int)), rdOf ByteArray.empty t165 (Int.tmod (wrap64 ((Int.tmod a4 (t165.length : Int)) + (t165.length : Int))) (t165.length : Int))] : List ByteArray) : List ByteArray)).bind fun y194 => (if y194.length + t165.length < 8796093022208 then ((block_Sum.f kj14 a0 (y194 ++ t165)).bind fun bt200 => (if bt190.2 = 0 then (if bt200.2 = 0 then (if bt190.1.toList = t170.toList then (if bt200.1.toList = t170.toList then (downpourlaw02_BlockOrder.j1 kj14 a0 t165 a2_0 yji7 a3_0 yji10) else (none)) else (none)) else (none)) else (none))) else (none))) else (none))) else (none)))) else (none))) else (none)) else (none)) = some r := by first | (rw [hy173]; with_reducible exact H) | (have H2_ := (Option.bind_some _ _).symm.trans H; rw [hy173]; with_reducible exact H2_) | (have H2_ := (Option.bind_some _ _).symm.trans H; with_reducible exact H2_) | with_reducible exact H | (rw [hy173]; exact H) | exact H
           have Ny173 := Aside0.mk hy173
           clear hy173
           obtain ⟨ji30, hji30⟩ : ∃ j_ : Int, (Int.tmod (wrap64 ((Int.tmod a4 (t165.length : Int)) + (t165.length : Int))) (t165.length : Int)) = j_ := ⟨_, rfl⟩
           replace H : (if 0 ≤ (ji30) then (if (ji30) ≤ (t165.length : Int) then ((some (t165.drop ((ji30) : Int).toNat : List ByteArray)).bind fun y176 => (if y173.length + y176.length < 8796093022208 then ((some (y173 ++ y176 : List ByteArray)).bind fun y180 => ((some (t165.take ((ji30) : Int).toNat : List ByteArray)).bind fun y183 => (if y180.length + y183.length < 8796093022208 then ((block_Sum.f kj14 a0 (y180 ++ y183)).bind fun bt190 => (if (ji30) < (t165.length : Int) then ((some (([rdOf ByteArray.empty t165 (ji30), rdOf ByteArray.empty t165 (ji30)] : List ByteArray) : List ByteArray)).bind fun y194 => (if y194.length + t165.length < 8796093022208 then ((block_Sum.f kj14 a0 (y194 ++ t165)).bind fun bt200 => (if bt190.2 = 0 then (if bt200.2 = 0 then (if bt190.1.toList = t170.toList then (if bt200.1.toList = t170.toList then (downpourlaw02_BlockOrder.j1 kj14 a0 t165 a2_0 yji7 a3_0 yji10) else (none)) else (none)) else (none)) else (none))) else (none))) else (none))) else (none)))) else (none))) else (none)) else (none)) = some r := by first | (rw [hji30] at H; exact H) | (simp only [hji30] at H ⊢; exact H)
           by_cases c31 : 0 ≤ (ji30)
           ·
            rw [if_pos c31] at H
            have c31b0 := eq_true c31
            have c31b1 : decide (0 ≤ (ji30)) = true := decide_eq_true c31
            clear c31
            by_cases c32 : (ji30) ≤ (t165.length : Int)
            ·
             rw [if_pos c32] at H
             have c32b0 := eq_true c32
             have c32b1 : decide ((ji30) ≤ (t165.length : Int)) = true := decide_eq_true c32
             clear c32
             obtain ⟨y176, hy176⟩ : ∃ y_ : List ByteArray, y_ = (t165.drop ((ji30) : Int).toNat) := ⟨_, rfl⟩
             replace H : (if y173.length + y176.length < 8796093022208 then ((some (y173 ++ y176 : List ByteArray)).bind fun y180 => ((some (t165.take ((ji30) : Int).toNat : List ByteArray)).bind fun y183 => (if y180.length + y183.length < 8796093022208 then ((block_Sum.f kj14 a0 (y180 ++ y183)).bind fun bt190 => (if (ji30) < (t165.length : Int) then ((some (([rdOf ByteArray.empty t165 (ji30), rdOf ByteArray.empty t165 (ji30)] : List ByteArray) : List ByteArray)).bind fun y194 => (if y194.length + t165.length < 8796093022208 then ((block_Sum.f kj14 a0 (y194 ++ t165)).bind fun bt200 => (if bt190.2 = 0 then (if bt200.2 = 0 then (if bt190.1.toList = t170.toList then (if bt200.1.toList = t170.toList then (downpourlaw02_BlockOrder.j1 kj14 a0 t165 a2_0 yji7 a3_0 yji10) else (none)) else (none)) else (none)) else (none))) else (none))) else (none))) else (none)))) else (none)) = some r := by first | (rw [hy176]; with_reducible exact H) | (have H2_ := (Option.bind_some _ _).symm.trans H; rw [hy176]; with_reducible exact H2_) | (have H2_ := (Option.bind_some _ _).symm.trans H; with_reducible exact H2_) | with_reducible exact H | (rw [hy176]; exact H) | exact H
             have Ny176 := Aside0.mk hy176
             clear hy176
             by_cases c33 : y173.length + y176.length < 8796093022208
             ·
              rw [if_pos c33] at H
              have LMc33 := Aside0.mk c33
              clear c33
              obtain ⟨y180, hy180⟩ : ∃ y_ : List ByteArray, y_ = (y173 ++ y176) := ⟨_, rfl⟩
              replace H : ((some (t165.take ((ji30) : Int).toNat : List ByteArray)).bind fun y183 => (if y180.length + y183.length < 8796093022208 then ((block_Sum.f kj14 a0 (y180 ++ y183)).bind fun bt190 => (if (ji30) < (t165.length : Int) then ((some (([rdOf ByteArray.empty t165 (ji30), rdOf ByteArray.empty t165 (ji30)] : List ByteArray) : List ByteArray)).bind fun y194 => (if y194.length + t165.length < 8796093022208 then ((block_Sum.f kj14 a0 (y194 ++ t165)).bind fun bt200 => (if bt190.2 = 0 then (if bt200.2 = 0 then (if bt190.1.toList = t170.toList then (if bt200.1.toList = t170.toList then (downpourlaw02_BlockOrder.j1 kj14 a0 t165 a2_0 yji7 a3_0 yji10) else (none)) else (none)) else (none)) else (none))) else (none))) else (none))) else (none))) = some r := by first | (rw [hy180]; with_reducible exact H) | (have H2_ := (Option.bind_some _ _).symm.trans H; rw [hy180]; with_reducible exact H2_) | (have H2_ := (Option.bind_some _ _).symm.trans H; with_reducible exact H2_) | with_reducible exact H | (rw [hy180]; exact H) | exact H
              have Ny180 := Aside0.mk hy180
              clear hy180
              have c34b0 := eq_true (of_decide_eq_true (by first | (with_reducible assumption) | assumption) : 0 ≤ (ji30))
              have c35b0 := eq_true (of_decide_eq_true (by first | (with_reducible assumption) | assumption) : (ji30) ≤ (t165.length : Int))
              obtain ⟨y183, hy183⟩ : ∃ y_ : List ByteArray, y_ = (t165.take ((ji30) : Int).toNat) := ⟨_, rfl⟩
              replace H : (if y180.length + y183.length < 8796093022208 then ((block_Sum.f kj14 a0 (y180 ++ y183)).bind fun bt190 => (if (ji30) < (t165.length : Int) then ((some (([rdOf ByteArray.empty t165 (ji30), rdOf ByteArray.empty t165 (ji30)] : List ByteArray) : List ByteArray)).bind fun y194 => (if y194.length + t165.length < 8796093022208 then ((block_Sum.f kj14 a0 (y194 ++ t165)).bind fun bt200 => (if bt190.2 = 0 then (if bt200.2 = 0 then (if bt190.1.toList = t170.toList then (if bt200.1.toList = t170.toList then (downpourlaw02_BlockOrder.j1 kj14 a0 t165 a2_0 yji7 a3_0 yji10) else (none)) else (none)) else (none)) else (none))) else (none))) else (none))) else (none)) = some r := by first | (rw [hy183]; with_reducible exact H) | (have H2_ := (Option.bind_some _ _).symm.trans H; rw [hy183]; with_reducible exact H2_) | (have H2_ := (Option.bind_some _ _).symm.trans H; with_reducible exact H2_) | with_reducible exact H | (rw [hy183]; exact H) | exact H
              have Ny183 := Aside0.mk hy183
              clear hy183
              by_cases c36 : y180.length + y183.length < 8796093022208
              ·
               rw [if_pos c36] at H
               have LMc36 := Aside0.mk c36
               clear c36
               obtain ⟨y187, hy187⟩ : ∃ y_ : List ByteArray, y_ = (y180 ++ y183) := ⟨_, rfl⟩
               replace H : ((block_Sum.f kj14 a0 y187).bind fun bt190 => (if (ji30) < (t165.length : Int) then ((some (([rdOf ByteArray.empty t165 (ji30), rdOf ByteArray.empty t165 (ji30)] : List ByteArray) : List ByteArray)).bind fun y194 => (if y194.length + t165.length < 8796093022208 then ((block_Sum.f kj14 a0 (y194 ++ t165)).bind fun bt200 => (if bt190.2 = 0 then (if bt200.2 = 0 then (if bt190.1.toList = t170.toList then (if bt200.1.toList = t170.toList then (downpourlaw02_BlockOrder.j1 kj14 a0 t165 a2_0 yji7 a3_0 yji10) else (none)) else (none)) else (none)) else (none))) else (none))) else (none))) = some r := by first | (rw [hy187]; with_reducible exact H) | (have H2_ := (Option.bind_some _ _).symm.trans H; rw [hy187]; with_reducible exact H2_) | (have H2_ := (Option.bind_some _ _).symm.trans H; with_reducible exact H2_) | with_reducible exact H | (rw [hy187]; exact H) | exact H
               have Ny187 := Aside0.mk hy187
               clear hy187
               replace H := Option.bind_eq_some_iff.mp H
               obtain ⟨⟨t190, t191⟩, A370, H⟩ := H
               replace H : (if (ji30) < (t165.length : Int) then ((some (([rdOf ByteArray.empty t165 (ji30), rdOf ByteArray.empty t165 (ji30)] : List ByteArray) : List ByteArray)).bind fun y194 => (if y194.length + t165.length < 8796093022208 then ((block_Sum.f kj14 a0 (y194 ++ t165)).bind fun bt200 => (if t191 = 0 then (if bt200.2 = 0 then (if t190.toList = t170.toList then (if bt200.1.toList = t170.toList then (downpourlaw02_BlockOrder.j1 kj14 a0 t165 a2_0 yji7 a3_0 yji10) else (none)) else (none)) else (none)) else (none))) else (none))) else (none)) = some r := H
               have A37 := Aside0.mk A370
               clear A370
               by_cases c38 : (ji30) < (t165.length : Int)
               ·
                rw [if_pos c38] at H
                have c38b0 : decide ((ji30) < (t165.length : Int)) = true := decide_eq_true c38
                clear c38
                obtain ⟨y194, hy194⟩ : ∃ y_ : List ByteArray, y_ = (([rdOf ByteArray.empty t165 (ji30), rdOf ByteArray.empty t165 (ji30)] : List ByteArray)) := ⟨_, rfl⟩
                replace H : (if y194.length + t165.length < 8796093022208 then ((block_Sum.f kj14 a0 (y194 ++ t165)).bind fun bt200 => (if t191 = 0 then (if bt200.2 = 0 then (if t190.toList = t170.toList then (if bt200.1.toList = t170.toList then (downpourlaw02_BlockOrder.j1 kj14 a0 t165 a2_0 yji7 a3_0 yji10) else (none)) else (none)) else (none)) else (none))) else (none)) = some r := by first | (rw [hy194]; with_reducible exact H) | (have H2_ := (Option.bind_some _ _).symm.trans H; rw [hy194]; with_reducible exact H2_) | (have H2_ := (Option.bind_some _ _).symm.trans H; with_reducible exact H2_) | with_reducible exact H | (rw [hy194]; exact H) | exact H
                have Ny194 := Aside0.mk hy194
                clear hy194
                by_cases c39 : y194.length + t165.length < 8796093022208
                ·
                 rw [if_pos c39] at H
                 have LMc39 := Aside0.mk c39
                 clear c39
                 obtain ⟨y197, hy197⟩ : ∃ y_ : List ByteArray, y_ = (y194 ++ t165) := ⟨_, rfl⟩
                 replace H : ((block_Sum.f kj14 a0 y197).bind fun bt200 => (if t191 = 0 then (if bt200.2 = 0 then (if t190.toList = t170.toList then (if bt200.1.toList = t170.toList then (downpourlaw02_BlockOrder.j1 kj14 a0 t165 a2_0 yji7 a3_0 yji10) else (none)) else (none)) else (none)) else (none))) = some r := by first | (rw [hy197]; with_reducible exact H) | (have H2_ := (Option.bind_some _ _).symm.trans H; rw [hy197]; with_reducible exact H2_) | (have H2_ := (Option.bind_some _ _).symm.trans H; with_reducible exact H2_) | with_reducible exact H | (rw [hy197]; exact H) | exact H
                 have Ny197 := Aside0.mk hy197
                 clear hy197
                 replace H := Option.bind_eq_some_iff.mp H
                 obtain ⟨⟨t200, t201⟩, A400, H⟩ := H
                 replace H : (if t191 = 0 then (if t201 = 0 then (if t190.toList = t170.toList then (if t200.toList = t170.toList then (downpourlaw02_BlockOrder.j1 kj14 a0 t165 a2_0 yji7 a3_0 yji10) else (none)) else (none)) else (none)) else (none)) = some r := H
                 have A40 := Aside0.mk A400
                 clear A400
                 by_cases c41 : t191 = 0
                 ·
                  rw [if_pos c41] at H
                  have c41b0 : (t191 == 0) = true := beq_iff_eq.mpr c41
                  have c41b1 : (t191 != 0) = false := bne_eq_false_iff_eq.mpr c41
                  clear c41
                  by_cases c42 : t201 = 0
                  ·
                   rw [if_pos c42] at H
                   have c42b0 : (t201 == 0) = true := beq_iff_eq.mpr c42
                   have c42b1 : (t201 != 0) = false := bne_eq_false_iff_eq.mpr c42
                   clear c42
                   by_cases c43 : t190.toList = t170.toList
                   ·
                    rw [if_pos c43] at H
                    have c43b0 : (t190.toList == t170.toList) = true := beq_iff_eq.mpr c43
                    have c43b1 : (t190.toList != t170.toList) = false := bne_eq_false_iff_eq.mpr c43
                    clear c43
                    by_cases c44 : t200.toList = t170.toList
                    ·
                     rw [if_pos c44] at H
                     have c44b0 : (t200.toList == t170.toList) = true := beq_iff_eq.mpr c44
                     have c44b1 : (t200.toList != t170.toList) = false := bne_eq_false_iff_eq.mpr c44
                     clear c44
                     have H' := Aside0.mk H
                     clear H
                     try go_wp2
                     have n0_ := am (Kd.R_drew HO_1.out)
                     have n1_ := am (blk_drew BK163.out)
                     have n2_ := am (blk_drew BK164.out)
                     have n3_ := am (below_drew1 HB.out)
                     clear HO_1
                     clear BK163
                     clear BK164
                     clear HB
                     have HO_1 := n0_
                     have BK163 := n1_
                     have BK164 := n2_
                     have HB := n3_
                     clear n0_ n1_ n2_ n3_
                     have q46 : ((ji30) : Int) ≤ ((t165.length : Int) : Int) := of_decide_eq_true (by first | (with_reducible assumption) | assumption)
                     obtain ⟨i046, hi046, _, hsz46, _⟩ := info_parts info9
                     have hroom46 : t165.length ≤ co24 := (Kd.R_reads' HO_1.out).2.1
                     have hC46 : Kd.C Kd.string _ Ao24 t165.length t165 := (Kd.R_reads' HO_1.out).2.2
                     have q046 : (0 : Int) ≤ ((ji30) : Int) := of_decide_eq_true (by first | (with_reducible assumption) | assumption)
                     have hcut46 := cut_from (P := Tryd.prog) 22 9 .i64 Tryd.underlying22 hi046 1 hsz46 Ao24 t165.length co24 (ji30) q046 q46
                     have hr46 := Kd.C_drop (m := ((ji30) : Int).toNat) (c := co24) hC46 (by omega) hroom46
                     obtain ⟨A46, hA46⟩ : ∃ A1, A1 = (if co24 = ((ji30) : Int).toNat then Ao24 else (Ao24 : Option Addr).map (·.add (((ji30) : Int).toNat * 1))) := ⟨_, rfl⟩
                     obtain ⟨c46, hc46⟩ : ∃ c1, c1 = co24 - ((ji30) : Int).toNat := ⟨_, rfl⟩
                     have hy46 : y176.length = t165.length - ((ji30) : Int).toNat := (by rw [Ny176.out, List.length_drop] <;> omega)
                     rw [show (t165).drop ((ji30) : Int).toNat = y176 from Ny176.out.symm] at hr46
                     replace hr46 : Kd.C Kd.string _ A46 y176.length y176 := (by rw [hA46]; exact hr46)
                     rw [← hy46, ← hA46, ← hc46] at hcut46
                     have HR179 := Aside0.mk hr46
                     have HC179 := am (show y176.length ≤ c46 from by rw [hy46, hc46]; exact Nat.sub_le_sub_right hroom46 _)
                     clear hr46 hC46 hroom46 hi046 hsz46 hc46
                     have KY46 := Aside0.mk hy46
                     have KA46 := Aside0.mk hA46
                     clear hy46 hA46
                     have KL46 := am (show ((ji30) : Int).toNat ≤ t165.length from by omega)
                     replace q46 := eq_true q46
                     have q47 : ((ji30) : Int) ≤ ((t165.length : Int) : Int) := of_decide_eq_true (by first | (with_reducible assumption) | assumption)
                     obtain ⟨i047, hi047, _, hsz47, _⟩ := info_parts info9
                     have hroom47 : t165.length ≤ co24 := (Kd.R_reads' HO_1.out).2.1
                     have hC47 : Kd.C Kd.string _ Ao24 t165.length t165 := (Kd.R_reads' HO_1.out).2.2
                     have hcut47 := cut_to (P := Tryd.prog) 22 9 .i64 Tryd.underlying22 hi047 Ao24 t165.length co24 (ji30) (of_decide_eq_true (by first | (with_reducible assumption) | assumption)) q47 hroom47
                     have hr47 := Kd.C_take (m := ((ji30) : Int).toNat) hC47 (by omega)
                     have hy47 : y183.length = ((ji30) : Int).toNat := (by rw [Ny183.out, List.length_take]; omega)
                     rw [← Ny183.out] at hr47
                     rw [← hy47] at hcut47
                     have HR186 := Aside0.mk hr47
                     have HC186 := am (show y183.length ≤ co24 from by omega)
                     clear hr47 hC47 hroom47 hi047 hsz47
                     have KY47 := Aside0.mk hy47
                     clear hy47
                     have KL47 := am (show ((ji30) : Int).toNat ≤ t165.length from by omega)
                     replace q47 := eq_true q47
                     refine start_ (n := 16) (S := fun w' => True) (ds := []) #[F, F, F, F, F, F, F, F, F, F, F, F, F, F, F, F] (by kernel_rfl) rfl rfl trivial (fun hHeld => ?_); refine with_tabW downpourlaw02_BlockOrder.tab7 downpourlaw02_BlockOrder.bits7 (fun HT_ HW_ => ?_)
                     generalize wc.drew = w45 at HO_1 BK163 BK164 HB HR179 HR186 hHeld ⊢
                     refine pure_ (i := 0) (N := some 77) (v := ?_) (a' := ?_) #[T, F, F, F, F, F, F, F, F, F, F, F, F, F, F, F] rfl rfl (any_of HT_.out (by kernel_rfl)) (fun _ _ _ h => h) (Or.inl ⟨by rfl, ?_⟩) ?_ ?_
                     rotate_left
                     ·
                      intro w'
                      go_simp
                      with_reducible rfl
                     rotate_left
                     ·
                      simp only [Act.put, q1, q2, q3, i64_w, i32_w]
                      rfl
                     refine pure_ (i := 2) (N := some 79) (v := ?_) (a' := ?_) #[T, F, T, F, F, F, F, F, F, F, F, F, F, F, F, F] rfl rfl (any_of HT_.out (by kernel_rfl)) (fun _ _ _ h => h) (Or.inl ⟨by rfl, ?_⟩) ?_ ?_
                     rotate_left
                     ·
                      intro w'
                      go_simp
                      with_reducible rfl
                     rotate_left
                     ·
                      simp only [Act.put, q1, q2, q3, i64_w, i32_w]
                      rfl
                     refine pure_ (i := 3) (N := some 80) (v := ?_) (a' := ?_) #[T, F, T, T, F, F, F, F, F, F, F, F, F, F, F, F] rfl rfl (any_of HT_.out (by kernel_rfl)) (fun _ _ _ h => h) (Or.inl ⟨by rfl, ?_⟩) ?_ ?_
                     rotate_left
                     ·
                      intro w'
                      go_simp
                      with_reducible rfl
                     rotate_left
                     ·
                      simp only [Act.put, q1, q2, q3, i64_w, i32_w]
                      rfl
                     refine pure_ (i := 4) (N := some 81) (v := ?_) (a' := ?_) #[T, F, T, T, T, F, F, F, F, F, F, F, F, F, F, F] rfl rfl (any_of HT_.out (by kernel_rfl)) (fun _ _ _ h => h) (Or.inl ⟨by rfl, ?_⟩) ?_ ?_
                     rotate_left
                     ·
                      intro w'
                      go_simp
                      with_reducible rfl
                     rotate_left
                     ·
                      simp only [Act.put, q1, q2, q3, i64_w, i32_w]
                      rfl
                     refine pure_ (i := 6) (N := some 83) (v := ?_) (a' := ?_) #[T, F, T, T, T, F, T, F, F, F, F, F, F, F, F, F] rfl rfl (any_of HT_.out (by kernel_rfl)) (fun _ _ _ h => h) (Or.inl ⟨by rfl, ?_⟩) ?_ ?_
                     rotate_left
                     ·
                      intro w'
                      go_simp
                      with_reducible rfl
                     rotate_left
                     ·
                      simp only [Act.put, q1, q2, q3, i64_w, i32_w]
                      rfl
                     refine pure_ (i := 7) (N := some 84) (v := ?_) (a' := ?_) #[T, F, T, T, T, F, T, T, F, F, F, F, F, F, F, F] rfl rfl (any_of HT_.out (by kernel_rfl)) (fun _ _ _ h => h) (Or.inl ⟨by rfl, ?_⟩) ?_ ?_
                     rotate_left
                     ·
                      intro w'
                      go_simp
                      with_reducible rfl
                     rotate_left
                     ·
                      simp only [Act.put, q1, q2, q3, i64_w, i32_w]
                      rfl
                     refine pure_ (i := 8) (N := some 85) (v := ?_) (a' := ?_) #[T, F, T, T, T, F, T, T, T, F, F, F, F, F, F, F] rfl rfl (any_of HT_.out (by kernel_rfl)) (fun _ _ _ h => h) (Or.inl ⟨by rfl, ?_⟩) ?_ ?_
                     rotate_left
                     ·
                      intro w'
                      go_simp
                      with_reducible rfl
                     rotate_left
                     ·
                      simp only [Act.put, q1, q2, q3, i64_w, i32_w]
                      rfl
                     refine one_ (i := 1) (N := some 78) #[T, T, T, T, T, F, T, T, T, F, F, F, F, F, F, F] rfl rfl (one_of HT_.out (by kernel_rfl)) (by decide) (fun K hK => ?_)
                     refine Kd.R_lit_step Kd.string _ 9 ?hg (N := 78) ?hd (xs := ([] : List ByteArray)) (inner := []) (ok := fun _ => True) (okp := fun _ => True) ?hr ?hp (fun _ hk => hk) trivial (Below.refl _ _) (Nat.le_refl _) (by simp) ?_; (case hd => rfl); (case hg => rfl); (case hr => first | (go_simp; done) | (go_simp; rfl)); (case hp => exact (Reps.none _ _))
                     intro v174 w48 ho49 hb hg_ hnew_
                     clear hg_ hnew_
                     (first | rw [← Ny173.out] at ho49 | (simp only [Int.reduceToNat] at ho49; rw [← Ny173.out] at ho49))
                     have n0_ := am (Kd.R_elder' (pr HO_1) (Kd.R_base ho49) hb)
                     have n1_ := am (Kd.R_lower (Kd.R_new' ho49 (Kd.R_lt (pr HO_1))) (below_size (pb HB)))
                     have n2_ := bb BK163 hb
                     have n3_ := bb BK164 hb
                     have n4_ := am (Kd.C_below (by repeat (first | (with_reducible exact HR179.out) | (with_reducible refine Kd.C_alloc ?_ _) | (with_reducible refine Kd.C_drewN ?_ _) | (with_reducible refine Kd.C_drew ?_) | exact HR179.out)) hb)
                     have n5_ := am (Kd.C_below (by repeat (first | (with_reducible exact HR186.out) | (with_reducible refine Kd.C_alloc ?_ _) | (with_reducible refine Kd.C_drewN ?_ _) | (with_reducible refine Kd.C_drew ?_) | exact HR186.out)) hb)
                     have n6_ := am (below_step (pb HB) hb)
                     clear HO_1
                     clear BK163
                     clear BK164
                     clear HR179
                     clear HR186
                     clear HB
                     have HO_1 := n0_
                     have HO175 := n1_
                     have BK163 := n2_
                     have BK164 := n3_
                     have HR179 := n4_
                     have HR186 := n5_
                     have HB := n6_
                     clear n0_ n1_ n2_ n3_ n4_ n5_ n6_
                     clear hb ho49
                     refine hK.out _ _ trivial (fun hHeld => ?_)
                     clear hK K
                     refine norm_ (a' := ?_) ?_ ?_
                     rotate_left
                     ·
                      show Act.put _ (some 78) _ = _
                      simp only [Act.put, q1, q2, q3, i64_w, i32_w]
                      rfl
                     refine one_ (i := 5) (N := some 82) #[T, T, T, T, T, T, T, T, T, F, F, F, F, F, F, F] rfl rfl (one_of HT_.out (by kernel_rfl)) (by decide) (fun K hK => ?_)
                     refine Kd.R_append_rows_step Kd.string (w0 := w) w.heap.size (by rfl) (.tmp 78) (.tmp 81) 22 9 (.string ⟨#[]⟩) 16 rfl Tryd.underlying22 info9 rfl (by decide) (by omega) v174 y173 y176 _ _ _ (fun k_ => some k_ ≠ (.slice Ao24 t165.length co24 : Value).ownBlock) (fun _ => False) rfl rfl ?aO ?aR (fun _ _ h => h) (fun _ h => h.elim) ?aF ?aB ?aS ?aL ?_
                     (case aR => repeat (first | exact (by repeat (first | (with_reducible exact HR179.out) | (with_reducible refine Kd.C_alloc ?_ _) | (with_reducible refine Kd.C_drewN ?_ _) | (with_reducible refine Kd.C_drew ?_) | exact HR179.out)) | (with_reducible refine Kd.C_alloc ?_ _) | (with_reducible refine Kd.C_drewN ?_ _) | (with_reducible refine Kd.C_drew ?_)))
                     (case aB => exact (pb HB))
                     (case aF => exact (fun k_ hk => Kd.fresh' (Kd.R_lt (pr HO_1)) k_ hk))
                     (case aO => exact (by (with_reducible repeat (first | apply Kd.R_alloc | apply Kd.R_drewN | apply Kd.R_drew)); exact Kd.R_mono HO175.out (fun _ hk => hk.2)))
                     (case aS => exact (below_size (pb HB)))
                     (case aL => have := LMc33.out; omega)
                     intro v181 w50 ho hb hg hat
                     rw [← Ny180.out] at ho
                     have n0_ := am (Kd.R_after (ok := (fun _ => True)) (pr HO_1) hg hat)
                     have n1_ := am (blk_grown (g := gb163) (o := .cells #[.int .i64 a2_0, .slice A2_1 yji7.length c2_1] 25 (0, 0)) (pk BK163) hg (Kd.R_ne HO175.out BK163.out (by decide)))
                     have n2_ := am (blk_grown (g := gb164) (o := .cells #[.int .i64 a3_0, .slice A3_1 yji10.length c3_1] 25 (0, 0)) (pk BK164) hg (Kd.R_ne HO175.out BK164.out (by decide)))
                     have n3_ := am (hb)
                     have n4_ := am ((show Kd.C Kd.string w50 A46 y176.length y176 from by rw [Ny176.out, KA46.out]; exact Kd.C_drop (m := ((ji30) : Int).toNat) (c := co24) ((Kd.R_reads' (Kd.R_after (ok := (fun _ => True)) (pr HO_1) hg hat)).2.2) KL46.out ((Kd.R_reads' (Kd.R_after (ok := (fun _ => True)) (pr HO_1) hg hat)).2.1)))
                     have n5_ := am ((show Kd.C Kd.string w50 Ao24 y183.length y183 from by rw [Ny183.out]; exact Kd.C_take (m := ((ji30) : Int).toNat) ((Kd.R_reads' (Kd.R_after (ok := (fun _ => True)) (pr HO_1) hg hat)).2.2) KL47.out))
                     have n6_ := am (ho)
                     clear HO_1
                     clear BK163
                     clear BK164
                     clear HB
                     clear HR179
                     clear HR186
                     clear HO175
                     have HO_1 := n0_
                     have BK163 := n1_
                     have BK164 := n2_
                     have HB := n3_
                     have HR179 := n4_
                     have HR186 := n5_
                     have HO182 := n6_
                     clear n0_ n1_ n2_ n3_ n4_ n5_ n6_
                     clear ho hb hg hat
                     refine hK.out _ _ trivial (fun hHeld => ?_)
                     clear hK K
                     refine norm_ (a' := ?_) ?_ ?_
                     rotate_left
                     ·
                      show Act.put _ (some 82) _ = _
                      simp only [Act.put, q1, q2, q3, i64_w, i32_w]
                      rfl
                     refine one_ (i := 9) (N := some 86) #[T, T, T, T, T, T, T, T, T, T, F, F, F, F, F, F] rfl rfl (one_of HT_.out (by kernel_rfl)) (by decide) (fun K hK => ?_)
                     refine Kd.R_append_rows_step Kd.string (w0 := w) w.heap.size (by rfl) (.tmp 82) (.tmp 85) 22 9 (.string ⟨#[]⟩) 16 rfl Tryd.underlying22 info9 rfl (by decide) (by omega) v181 y180 y183 _ _ _ (fun k_ => some k_ ≠ (.slice Ao24 t165.length co24 : Value).ownBlock) (fun _ => False) rfl rfl ?aO ?aR (fun _ _ h => h) (fun _ h => h.elim) ?aF ?aB ?aS ?aL ?_
                     (case aR => repeat (first | exact (by repeat (first | (with_reducible exact HR186.out) | (with_reducible refine Kd.C_alloc ?_ _) | (with_reducible refine Kd.C_drewN ?_ _) | (with_reducible refine Kd.C_drew ?_) | exact HR186.out)) | (with_reducible refine Kd.C_alloc ?_ _) | (with_reducible refine Kd.C_drewN ?_ _) | (with_reducible refine Kd.C_drew ?_)))
                     (case aB => exact (pb HB))
                     (case aF => exact (fun k_ hk => Kd.fresh' (Kd.R_lt (pr HO_1)) k_ hk))
                     (case aO => exact (pr HO182))
                     (case aS => exact (below_size (pb HB)))
                     (case aL => have := LMc36.out; omega)
                     intro v188 w51 ho hb hg hat
                     rw [← Ny187.out] at ho
                     have n0_ := am (Kd.R_after (ok := (fun _ => True)) (pr HO_1) hg hat)
                     have n1_ := am (blk_grown (g := gb163) (o := .cells #[.int .i64 a2_0, .slice A2_1 yji7.length c2_1] 25 (0, 0)) (pk BK163) hg (Kd.R_ne HO182.out BK163.out (by decide)))
                     have n2_ := am (blk_grown (g := gb164) (o := .cells #[.int .i64 a3_0, .slice A3_1 yji10.length c3_1] 25 (0, 0)) (pk BK164) hg (Kd.R_ne HO182.out BK164.out (by decide)))
                     have n3_ := am (hb)
                     have n4_ := am ((show Kd.C Kd.string w51 A46 y176.length y176 from by rw [Ny176.out, KA46.out]; exact Kd.C_drop (m := ((ji30) : Int).toNat) (c := co24) ((Kd.R_reads' (Kd.R_after (ok := (fun _ => True)) (pr HO_1) hg hat)).2.2) KL46.out ((Kd.R_reads' (Kd.R_after (ok := (fun _ => True)) (pr HO_1) hg hat)).2.1)))
                     have n5_ := am ((show Kd.C Kd.string w51 Ao24 y183.length y183 from by rw [Ny183.out]; exact Kd.C_take (m := ((ji30) : Int).toNat) ((Kd.R_reads' (Kd.R_after (ok := (fun _ => True)) (pr HO_1) hg hat)).2.2) KL47.out))
                     have n6_ := am (ho)
                     clear HO_1
                     clear BK163
                     clear BK164
                     clear HB
                     clear HR179
                     clear HR186
                     clear HO182
                     have HO_1 := n0_
                     have BK163 := n1_
                     have BK164 := n2_
                     have HB := n3_
                     have HR179 := n4_
                     have HR186 := n5_
                     have HO189 := n6_
                     clear n0_ n1_ n2_ n3_ n4_ n5_ n6_
                     clear ho hb hg hat
                     obtain ⟨Ao52, co52, eo52⟩ := Kd.R_slice HO189.out
                     (first | subst eo52 | (injection eo52 with f1_ f2_ f3_; have f4_ := f1_.symm; have f5_ := f3_.symm; clear f1_ f2_ f3_; subst f4_; subst f5_))
                     refine hK.out _ _ trivial (fun hHeld => ?_)
                     clear hK K
                     refine norm_ (a' := ?_) ?_ ?_
                     rotate_left
                     ·
                      show Act.put _ (some 86) _ = _
                      simp only [Act.put, q1, q2, q3, i64_w, i32_w]
                      rfl
                     refine one_ (i := 10) (N := some 87) #[T, T, T, T, T, T, T, T, T, T, T, F, F, F, F, F] rfl rfl (one_of HT_.out (by kernel_rfl)) (by decide) (fun K hK => ?_)
                     refine goes_ Tryd.func32 (by kernel_rfl) rfl #[.int .i64 a0, .slice Ao52 y187.length co52] (by rfl) rfl rfl (by (try simp only [List.map_toArray, List.map_cons, List.map_nil]); first | done | rfl | (simp only [List.length_drop, List.length_take]; rfl)) ?_
                     with_reducible refine (block_Sum.calls kj14 a0 _ _ y187 t190 t191 _ ?side1 ?side2 A37.out).mono ?_
                     (case side1 => repeat (first | exact (Kd.R_reads' HO189.out).2.2 | (with_reducible refine Kd.C_alloc ?_ _) | (with_reducible refine Kd.C_drewN ?_ _) | (with_reducible refine Kd.C_drew ?_)))
                     (case side2 => exact (Kd.R_reads' HO189.out).2.1)
                     rintro e w53 ⟨rfl, hb⟩
                     refine ⟨_, rfl, ?_⟩
                     have n0_ := am (Kd.R_below (pr HO_1) hb)
                     have n1_ := am (Kd.R_below (pr HO189) hb)
                     have n2_ := bb BK163 hb
                     have n3_ := bb BK164 hb
                     have n4_ := am (Kd.C_below (by repeat (first | (with_reducible exact HR179.out) | (with_reducible refine Kd.C_alloc ?_ _) | (with_reducible refine Kd.C_drewN ?_ _) | (with_reducible refine Kd.C_drew ?_) | exact HR179.out)) hb)
                     have n5_ := am (Kd.C_below (by repeat (first | (with_reducible exact HR186.out) | (with_reducible refine Kd.C_alloc ?_ _) | (with_reducible refine Kd.C_drewN ?_ _) | (with_reducible refine Kd.C_drew ?_) | exact HR186.out)) hb)
                     have n6_ := am (below_step (pb HB) hb)
                     clear HO_1
                     clear HO189
                     clear BK163
                     clear BK164
                     clear HR179
                     clear HR186
                     clear HB
                     have HO_1 := n0_
                     have HO189 := n1_
                     have BK163 := n2_
                     have BK164 := n3_
                     have HR179 := n4_
                     have HR186 := n5_
                     have HB := n6_
                     clear n0_ n1_ n2_ n3_ n4_ n5_ n6_
                     (try clear hb)
                     (try clear hb2)
                     (try clear hk)
                     (try clear hi)
                     refine hK.out _ _ trivial (fun hHeld => ?_)
                     clear hK K
                     refine norm_ (a' := ?_) ?_ ?_
                     rotate_left
                     ·
                      show Act.put _ (some 87) _ = _
                      simp only [Act.put, q1, q2, q3, i64_w, i32_w]
                      rfl
                     refine pure_ (i := 11) (N := some 76) (v := ?_) (a' := ?_) #[T, T, T, T, T, T, T, T, T, T, T, T, F, F, F, F] rfl rfl (any_of HT_.out (by kernel_rfl)) (fun _ _ _ h => h) (Or.inl ⟨by rfl, ?_⟩) ?_ ?_
                     rotate_left
                     ·
                      intro w'
                      go_simp
                      with_reducible rfl
                     rotate_left
                     ·
                      simp only [Act.put, q1, q2, q3, i64_w, i32_w]
                      rfl
                     refine pure_ (i := 12) (N := some 88) (v := ?_) (a' := ?_) #[T, T, T, T, T, T, T, T, T, T, T, T, T, F, F, F] rfl rfl (any_of HT_.out (by kernel_rfl)) (fun _ _ _ h => h) (Or.inl ⟨by rfl, ?_⟩) ?_ ?_
                     rotate_left
                     ·
                      intro w'
                      go_simp
                      with_reducible rfl
                     rotate_left
                     ·
                      simp only [Act.put, q1, q2, q3, i64_w, i32_w]
                      rfl
                     refine pure_ (i := 13) (N := some 89) (v := ?_) (a' := ?_) #[T, T, T, T, T, T, T, T, T, T, T, T, T, T, F, F] rfl rfl (any_of HT_.out (by kernel_rfl)) (fun _ _ _ h => h) (Or.inl ⟨by rfl, ?_⟩) ?_ ?_
                     rotate_left
                     ·
                      intro w'
                      go_simp
                      with_reducible rfl
                     rotate_left
                     ·
                      simp only [Act.put, q1, q2, q3, i64_w, i32_w]
                      rfl
                     refine pure_ (i := 14) (N := some 13) (v := ?_) (a' := ?_) #[T, T, T, T, T, T, T, T, T, T, T, T, T, T, T, F] rfl rfl (any_of HT_.out (by kernel_rfl)) (fun _ _ _ h => h) (Or.inl ⟨by rfl, ?_⟩) ?_ ?_
                     rotate_left
                     ·
                      intro w'
                      go_simp
                      with_reducible rfl
                     rotate_left
                     ·
                      simp only [Act.put, q1, q2, q3, i64_w, i32_w]
                      rfl
                     refine pure_ (i := 15) (N := some 14) (v := ?_) (a' := ?_) #[T, T, T, T, T, T, T, T, T, T, T, T, T, T, T, T] rfl rfl (any_of HT_.out (by kernel_rfl)) (fun _ _ _ h => h) (Or.inl ⟨by rfl, ?_⟩) ?_ ?_
                     rotate_left
                     ·
                      intro w'
                      go_simp
                      with_reducible rfl
                     rotate_left
                     ·
                      simp only [Act.put, q1, q2, q3, i64_w, i32_w]
                      rfl
                     refine done_ (done_of HT_.out (by kernel_rfl)) ?_
                     try go_wp2
                     have n0_ := am (Kd.R_drew HO_1.out)
                     have n1_ := am (Kd.R_drew HO189.out)
                     have n2_ := am (blk_drew BK163.out)
                     have n3_ := am (blk_drew BK164.out)
                     have n4_ := am (Kd.C_drew HR179.out)
                     have n5_ := am (Kd.C_drew HR186.out)
                     have n6_ := am (below_drew1 HB.out)
                     clear HO_1
                     clear HO189
                     clear BK163
                     clear BK164
                     clear HR179
                     clear HR186
                     clear HB
                     have HO_1 := n0_
                     have HO189 := n1_
                     have BK163 := n2_
                     have BK164 := n3_
                     have HR179 := n4_
                     have HR186 := n5_
                     have HB := n6_
                     clear n0_ n1_ n2_ n3_ n4_ n5_ n6_
                     have p192 : 0 ≤ ((ji30) : Int) := of_decide_eq_true (by first | (with_reducible assumption) | assumption)
                     have q192 : (ji30) < (t165.length : Int) := of_decide_eq_true (by first | (with_reducible assumption) | assumption)
                     obtain ⟨ad192, e192, hx192_0⟩ := Kd.at_string (Kd.R_reads' HO_1.out).2.2 (ji30) p192 q192
                     cases e192
                     replace p192 := eq_true p192
                     replace q192 := eq_true q192
                     have p193 : 0 ≤ ((ji30) : Int) := of_decide_eq_true (by first | (with_reducible assumption) | assumption)
                     have q193 : (ji30) < (t165.length : Int) := of_decide_eq_true (by first | (with_reducible assumption) | assumption)
                     obtain ⟨ad193, e193, hx193_0⟩ := Kd.at_string (Kd.R_reads' HO_1.out).2.2 (ji30) p193 q193
                     obtain rfl : ad192 = ad193 := (by injection e193)
                     replace p193 := eq_true p193
                     replace q193 := eq_true q193
                     refine start_ (n := 18) (S := fun w' => w'.cell? (ad192.add ((ji30)).toNat) = some (.string (rdOf ByteArray.empty t165 (ji30))) ∧ w'.cell? (ad192.add ((ji30)).toNat) = some (.string (rdOf ByteArray.empty t165 (ji30)))) (ds := [11, 12]) #[F, F, F, F, F, F, F, F, F, F, F, F, F, F, F, F, F, F] (by kernel_rfl) rfl rfl ⟨hx192_0, hx193_0⟩ (fun hHeld => ?_); refine with_tabW downpourlaw02_BlockOrder.tab8 downpourlaw02_BlockOrder.bits8 (fun HT_ HW_ => ?_)
                     generalize w53.drew = w54 at HO_1 HO189 BK163 BK164 HR179 HR186 HB hx192_0 hx193_0 hHeld ⊢
                     refine pure_ (i := 0) (N := some 91) (v := ?_) (a' := ?_) #[T, F, F, F, F, F, F, F, F, F, F, F, F, F, F, F, F, F] rfl rfl (any_of HT_.out (by kernel_rfl)) (fun _ _ _ h => h) (Or.inl ⟨by rfl, ?_⟩) ?_ ?_
                     rotate_left
                     ·
                      intro w'
                      go_simp
                      with_reducible rfl
                     rotate_left
                     ·
                      simp only [Act.put, q1, q2, q3, i64_w, i32_w]
                      rfl
                     refine pure_ (i := 1) (N := some 92) (v := ?_) (a' := ?_) #[T, T, F, F, F, F, F, F, F, F, F, F, F, F, F, F, F, F] rfl rfl (any_of HT_.out (by kernel_rfl)) (fun _ _ _ h => h) (Or.inl ⟨by rfl, ?_⟩) ?_ ?_
                     rotate_left
                     ·
                      intro w'
                      go_simp
                      with_reducible rfl
                     rotate_left
                     ·
                      simp only [Act.put, q1, q2, q3, i64_w, i32_w]
                      rfl
                     refine pure_ (i := 2) (N := some 93) (v := ?_) (a' := ?_) #[T, T, T, F, F, F, F, F, F, F, F, F, F, F, F, F, F, F] rfl rfl (any_of HT_.out (by kernel_rfl)) (fun _ _ _ h => h) (Or.inl ⟨by rfl, ?_⟩) ?_ ?_
                     rotate_left
                     ·
                      intro w'
                      go_simp
                      with_reducible rfl
                     rotate_left
                     ·
                      simp only [Act.put, q1, q2, q3, i64_w, i32_w]
                      rfl
                     refine pure_ (i := 3) (N := some 94) (v := ?_) (a' := ?_) #[T, T, T, T, F, F, F, F, F, F, F, F, F, F, F, F, F, F] rfl rfl (any_of HT_.out (by kernel_rfl)) (fun _ _ _ h => h) (Or.inl ⟨by rfl, ?_⟩) ?_ ?_
                     rotate_left
                     ·
                      intro w'
                      go_simp
                      with_reducible rfl
                     rotate_left
                     ·
                      simp only [Act.put, q1, q2, q3, i64_w, i32_w]
                      rfl
                     refine pure_ (i := 5) (N := some 96) (v := ?_) (a' := ?_) #[T, T, T, T, F, T, F, F, F, F, F, F, F, F, F, F, F, F] rfl rfl (any_of HT_.out (by kernel_rfl)) (fun _ _ _ h => h) (Or.inl ⟨by rfl, ?_⟩) ?_ ?_
                     rotate_left
                     ·
                      intro w'
                      go_simp
                      with_reducible rfl
                     rotate_left
                     ·
                      simp only [Act.put, q1, q2, q3, i64_w, i32_w]
                      rfl
                     refine pure_ (i := 6) (N := some 97) (v := ?_) (a' := ?_) #[T, T, T, T, F, T, T, F, F, F, F, F, F, F, F, F, F, F] rfl rfl (any_of HT_.out (by kernel_rfl)) (fun _ _ _ h => h) (Or.inl ⟨by rfl, ?_⟩) ?_ ?_
                     rotate_left
                     ·
                      intro w'
                      go_simp
                      with_reducible rfl
                     rotate_left
                     ·
                      simp only [Act.put, q1, q2, q3, i64_w, i32_w]
                      rfl
                     refine pure_ (i := 7) (N := some 98) (v := ?_) (a' := ?_) #[T, T, T, T, F, T, T, T, F, F, F, F, F, F, F, F, F, F] rfl rfl (any_of HT_.out (by kernel_rfl)) (fun _ _ _ h => h) (Or.inl ⟨by rfl, ?_⟩) ?_ ?_
                     rotate_left
                     ·
                      intro w'
                      go_simp
                      with_reducible rfl
                     rotate_left
                     ·
                      simp only [Act.put, q1, q2, q3, i64_w, i32_w]
                      rfl
                     refine pure_ (i := 10) (N := some 101) (v := ?_) (a' := ?_) #[T, T, T, T, F, T, T, T, F, F, T, F, F, F, F, F, F, F] rfl rfl (any_of HT_.out (by kernel_rfl)) (fun _ _ _ h => h) (Or.inl ⟨by rfl, ?_⟩) ?_ ?_
                     rotate_left
                     ·
                      intro w'
                      go_simp
                      with_reducible rfl
                     rotate_left
                     ·
                      simp only [Act.put, q1, q2, q3, i64_w, i32_w]
                      rfl
                     refine take_ (i := 4) (N := some 95) (v := ?_) (a' := ?_) #[T, T, T, T, T, T, T, T, F, F, T, F, F, F, F, F, F, F] rfl rfl (take_ofW HT_.out HW_.out (by kernel_rfl)) (fun _ _ _ h => h) (Or.inl ⟨by rfl, ?_⟩) hHeld ?_ ?_
                     rotate_left
                     ·
                      rintro w' ⟨s0, s1⟩
                      go_simp
                      with_reducible rfl
                     rotate_left
                     ·
                      simp only [Act.put, q1, q2, q3, i64_w, i32_w]
                      rfl
                     refine take_ (i := 8) (N := some 99) (v := ?_) (a' := ?_) #[T, T, T, T, T, T, T, T, T, F, T, F, F, F, F, F, F, F] rfl rfl (take_ofW HT_.out HW_.out (by kernel_rfl)) (fun _ _ _ h => h) (Or.inl ⟨by rfl, ?_⟩) hHeld ?_ ?_
                     rotate_left
                     ·
                      rintro w' ⟨s0, s1⟩
                      go_simp
                      with_reducible rfl
                     rotate_left
                     ·
                      simp only [Act.put, q1, q2, q3, i64_w, i32_w]
                      rfl
                     refine one_ (i := 9) (N := some 100) #[T, T, T, T, T, T, T, T, T, T, T, F, F, F, F, F, F, F] rfl rfl (one_of HT_.out (by kernel_rfl)) (by decide) (fun K hK => ?_)
                     refine Kd.R_lit_step Kd.string _ 9 ?hg (N := 100) ?hd (xs := ([rdOf ByteArray.empty t165 (ji30), rdOf ByteArray.empty t165 (ji30)] : List ByteArray)) (inner := [.string (rdOf ByteArray.empty t165 (ji30)), .string (rdOf ByteArray.empty t165 (ji30))]) (ok := fun _ => True) (okp := fun _ => True) ?hr ?hp (fun _ hk => hk) trivial (Below.refl _ _) (Nat.le_refl _) (by simp) ?_; (case hd => rfl); (case hg => rfl); (case hr => first | (go_simp; done) | (go_simp; rfl)); (case hp => exact (Reps.one (show Kd.M Kd.string _ _ _ (rdOf ByteArray.empty t165 (ji30)) [.string (rdOf ByteArray.empty t165 (ji30))] from rfl) (Reps.one (show Kd.M Kd.string _ _ _ (rdOf ByteArray.empty t165 (ji30)) [.string (rdOf ByteArray.empty t165 (ji30))] from rfl) (Reps.none _ _))))
                     intro v195 w55 ho56 hb hg_ hnew_
                     have HS0_ := (hb.cell (World.block_lt_of_cell? _ _ (hHeld.1))).trans (hHeld.1)
                     have HS1_ := (hb.cell (World.block_lt_of_cell? _ _ (hHeld.2))).trans (hHeld.2)
                     clear hg_ hnew_
                     (first | rw [← Ny194.out] at ho56 | (simp only [Int.reduceToNat] at ho56; rw [← Ny194.out] at ho56))
                     have n0_ := am (Kd.R_elder' (pr HO_1) (Kd.R_base ho56) hb)
                     have n1_ := am (Kd.R_elder' (pr HO189) (Kd.R_base ho56) hb)
                     have n2_ := am (Kd.R_lower (Kd.R_new' (Kd.R_new' ho56 (Kd.R_lt (pr HO_1))) (Kd.R_lt (pr HO189))) (below_size (pb HB)))
                     have n3_ := bb BK163 hb
                     have n4_ := bb BK164 hb
                     have n5_ := am (Kd.C_below (by repeat (first | (with_reducible exact HR179.out) | (with_reducible refine Kd.C_alloc ?_ _) | (with_reducible refine Kd.C_drewN ?_ _) | (with_reducible refine Kd.C_drew ?_) | exact HR179.out)) hb)
                     have n6_ := am (Kd.C_below (by repeat (first | (with_reducible exact HR186.out) | (with_reducible refine Kd.C_alloc ?_ _) | (with_reducible refine Kd.C_drewN ?_ _) | (with_reducible refine Kd.C_drew ?_) | exact HR186.out)) hb)
                     have n7_ := am (below_step (pb HB) hb)
                     clear HO_1
                     clear HO189
                     clear BK163
                     clear BK164
                     clear HR179
                     clear HR186
                     clear HB
                     have HO_1 := n0_
                     have HO189 := n1_
                     have HO196 := n2_
                     have BK163 := n3_
                     have BK164 := n4_
                     have HR179 := n5_
                     have HR186 := n6_
                     have HB := n7_
                     clear n0_ n1_ n2_ n3_ n4_ n5_ n6_ n7_
                     clear hb ho56
                     refine hK.out _ _ ⟨HS0_, HS1_⟩ (fun hHeld => ?_)
                     clear hK K
                     refine norm_ (a' := ?_) ?_ ?_
                     rotate_left
                     ·
                      show Act.put _ (some 100) _ = _
                      simp only [Act.put, q1, q2, q3, i64_w, i32_w]
                      rfl
                     refine last_ (i := 11) (N := some 102) #[T, T, T, T, T, T, T, T, T, T, T, T, F, F, F, F, F, F] rfl rfl (one_of HT_.out (by kernel_rfl)) (by decide) (fun K hK => ?_)
                     refine Kd.R_append_rows_step Kd.string (w0 := w) w.heap.size (by rfl) (.tmp 100) (.tmp 101) 22 9 (.string ⟨#[]⟩) 16 rfl Tryd.underlying22 info9 rfl (by decide) (by omega) v195 y194 t165 _ _ _ (fun k_ => some k_ ≠ (.slice (some ad192) t165.length co24 : Value).ownBlock ∧ some k_ ≠ (.slice Ao52 y187.length co52 : Value).ownBlock) (fun _ => False) rfl rfl ?aO ?aR (fun _ _ h => h) (fun _ h => h.elim) ?aF ?aB ?aS ?aL ?_
                     (case aR => repeat (first | exact (Kd.R_reads' HO_1.out).2.2 | (with_reducible refine Kd.C_alloc ?_ _) | (with_reducible refine Kd.C_drewN ?_ _) | (with_reducible refine Kd.C_drew ?_)))
                     (case aB => exact (pb HB))
                     (case aF => exact (fun k_ hk => ⟨Kd.fresh' (Kd.R_lt (pr HO_1)) k_ hk, Kd.fresh' (Kd.R_lt (pr HO189)) k_ hk⟩))
                     (case aO => exact (by (with_reducible repeat (first | apply Kd.R_alloc | apply Kd.R_drewN | apply Kd.R_drew)); exact Kd.R_mono HO196.out (fun _ hk => ⟨hk.1.2, hk.2⟩)))
                     (case aS => exact (below_size (pb HB)))
                     (case aL => have := LMc39.out; omega)
                     intro v198 w57 ho hb hg hat
                     rw [← Ny197.out] at ho
                     have n0_ := am (Kd.R_after (ok := (fun k_ => some k_ ≠ (.slice Ao52 y187.length co52 : Value).ownBlock)) (by (with_reducible repeat (first | apply Kd.R_alloc | apply Kd.R_drewN | apply Kd.R_drew)); exact Kd.R_mono HO_1.out (fun _ hk => ⟨hk.1.2, hk.2⟩)) hg hat)
                     have n1_ := am (blk_grown (g := gb163) (o := .cells #[.int .i64 a2_0, .slice A2_1 yji7.length c2_1] 25 (0, 0)) (pk BK163) hg (Kd.R_ne HO196.out BK163.out (by decide)))
                     have n2_ := am (blk_grown (g := gb164) (o := .cells #[.int .i64 a3_0, .slice A3_1 yji10.length c3_1] 25 (0, 0)) (pk BK164) hg (Kd.R_ne HO196.out BK164.out (by decide)))
                     have n3_ := am (Kd.R_after (ok := (fun k_ => some k_ ≠ (.slice (some ad192) t165.length co24 : Value).ownBlock)) (pr HO189) hg hat)
                     have n4_ := am (hb)
                     have n5_ := am ((show Kd.C Kd.string w57 A46 y176.length y176 from by rw [Ny176.out, KA46.out]; exact Kd.C_drop (m := ((ji30) : Int).toNat) (c := co24) ((Kd.R_reads' (Kd.R_after (ok := (fun k_ => some k_ ≠ (.slice Ao52 y187.length co52 : Value).ownBlock)) (by (with_reducible repeat (first | apply Kd.R_alloc | apply Kd.R_drewN | apply Kd.R_drew)); exact Kd.R_mono HO_1.out (fun _ hk => ⟨hk.1.2, hk.2⟩)) hg hat)).2.2) KL46.out ((Kd.R_reads' (Kd.R_after (ok := (fun k_ => some k_ ≠ (.slice Ao52 y187.length co52 : Value).ownBlock)) (by (with_reducible repeat (first | apply Kd.R_alloc | apply Kd.R_drewN | apply Kd.R_drew)); exact Kd.R_mono HO_1.out (fun _ hk => ⟨hk.1.2, hk.2⟩)) hg hat)).2.1)))
                     have n6_ := am ((show Kd.C Kd.string w57 (some ad192) y183.length y183 from by rw [Ny183.out]; exact Kd.C_take (m := ((ji30) : Int).toNat) ((Kd.R_reads' (Kd.R_after (ok := (fun k_ => some k_ ≠ (.slice Ao52 y187.length co52 : Value).ownBlock)) (by (with_reducible repeat (first | apply Kd.R_alloc | apply Kd.R_drewN | apply Kd.R_drew)); exact Kd.R_mono HO_1.out (fun _ hk => ⟨hk.1.2, hk.2⟩)) hg hat)).2.2) KL47.out))
                     have n7_ := am (ho)
                     clear HO_1
                     clear BK163
                     clear BK164
                     clear HO189
                     clear HB
                     clear HR179
                     clear HR186
                     clear HO196
                     have HO_1 := n0_
                     have BK163 := n1_
                     have BK164 := n2_
                     have HO189 := n3_
                     have HB := n4_
                     have HR179 := n5_
                     have HR186 := n6_
                     have HO199 := n7_
                     clear n0_ n1_ n2_ n3_ n4_ n5_ n6_ n7_
                     clear ho hb hg hat
                     obtain ⟨Ao58, co58, eo58⟩ := Kd.R_slice HO199.out
                     (first | subst eo58 | (injection eo58 with f1_ f2_ f3_; have f4_ := f1_.symm; have f5_ := f3_.symm; clear f1_ f2_ f3_; subst f4_; subst f5_))
                     refine hK.out _ _ ?_
                     clear hK K
                     refine norm_ (a' := ?_) ?_ ?_
                     rotate_left
                     ·
                      show Act.put _ (some 102) _ = _
                      simp only [Act.put, q1, q2, q3, i64_w, i32_w]
                      rfl
                     refine last_ (i := 12) (N := some 103) #[T, T, T, T, T, T, T, T, T, T, T, T, T, F, F, F, F, F] rfl rfl (one_of HT_.out (by kernel_rfl)) (by decide) (fun K hK => ?_)
                     refine goes_ Tryd.func32 (by kernel_rfl) rfl #[.int .i64 a0, .slice Ao58 y197.length co58] (by rfl) rfl rfl (by (try simp only [List.map_toArray, List.map_cons, List.map_nil]); first | done | rfl | (simp only [List.length_drop, List.length_take]; rfl)) ?_
                     with_reducible refine (block_Sum.calls kj14 a0 _ _ y197 t200 t201 _ ?side1 ?side2 A40.out).mono ?_
                     (case side1 => repeat (first | exact (Kd.R_reads' HO199.out).2.2 | (with_reducible refine Kd.C_alloc ?_ _) | (with_reducible refine Kd.C_drewN ?_ _) | (with_reducible refine Kd.C_drew ?_)))
                     (case side2 => exact (Kd.R_reads' HO199.out).2.1)
                     rintro e w59 ⟨rfl, hb⟩
                     refine ⟨_, rfl, ?_⟩
                     have n0_ := am (Kd.R_below (pr HO_1) hb)
                     have n1_ := am (Kd.R_below (pr HO189) hb)
                     have n2_ := am (Kd.R_below (pr HO199) hb)
                     have n3_ := bb BK163 hb
                     have n4_ := bb BK164 hb
                     have n5_ := am (Kd.C_below (by repeat (first | (with_reducible exact HR179.out) | (with_reducible refine Kd.C_alloc ?_ _) | (with_reducible refine Kd.C_drewN ?_ _) | (with_reducible refine Kd.C_drew ?_) | exact HR179.out)) hb)
                     have n6_ := am (Kd.C_below (by repeat (first | (with_reducible exact HR186.out) | (with_reducible refine Kd.C_alloc ?_ _) | (with_reducible refine Kd.C_drewN ?_ _) | (with_reducible refine Kd.C_drew ?_) | exact HR186.out)) hb)
                     have n7_ := am (below_step (pb HB) hb)
                     clear HO_1
                     clear HO189
                     clear HO199
                     clear BK163
                     clear BK164
                     clear HR179
                     clear HR186
                     clear HB
                     have HO_1 := n0_
                     have HO189 := n1_
                     have HO199 := n2_
                     have BK163 := n3_
                     have BK164 := n4_
                     have HR179 := n5_
                     have HR186 := n6_
                     have HB := n7_
                     clear n0_ n1_ n2_ n3_ n4_ n5_ n6_ n7_
                     (try clear hb)
                     (try clear hb2)
                     (try clear hk)
                     (try clear hi)
                     refine hK.out _ _ ?_
                     clear hK K
                     refine norm_ (a' := ?_) ?_ ?_
                     rotate_left
                     ·
                      show Act.put _ (some 103) _ = _
                      simp only [Act.put, q1, q2, q3, i64_w, i32_w]
                      rfl
                     refine pure_ (i := 13) (N := some 90) (v := ?_) (a' := ?_) #[T, T, T, T, T, T, T, T, T, T, T, T, T, T, F, F, F, F] rfl rfl (any_of HT_.out (by kernel_rfl)) (fun _ _ _ h => h) (Or.inl ⟨by rfl, ?_⟩) ?_ ?_
                     rotate_left
                     ·
                      intro w'
                      go_simp
                      with_reducible rfl
                     rotate_left
                     ·
                      simp only [Act.put, q1, q2, q3, i64_w, i32_w]
                      rfl
                     refine pure_ (i := 14) (N := some 104) (v := ?_) (a' := ?_) #[T, T, T, T, T, T, T, T, T, T, T, T, T, T, T, F, F, F] rfl rfl (any_of HT_.out (by kernel_rfl)) (fun _ _ _ h => h) (Or.inl ⟨by rfl, ?_⟩) ?_ ?_
                     rotate_left
                     ·
                      intro w'
                      go_simp
                      with_reducible rfl
                     rotate_left
                     ·
                      simp only [Act.put, q1, q2, q3, i64_w, i32_w]
                      rfl
                     refine pure_ (i := 15) (N := some 105) (v := ?_) (a' := ?_) #[T, T, T, T, T, T, T, T, T, T, T, T, T, T, T, T, F, F] rfl rfl (any_of HT_.out (by kernel_rfl)) (fun _ _ _ h => h) (Or.inl ⟨by rfl, ?_⟩) ?_ ?_
                     rotate_left
                     ·
                      intro w'
                      go_simp
                      with_reducible rfl
                     rotate_left
                     ·
                      simp only [Act.put, q1, q2, q3, i64_w, i32_w]
                      rfl
                     refine pure_ (i := 16) (N := some 15) (v := ?_) (a' := ?_) #[T, T, T, T, T, T, T, T, T, T, T, T, T, T, T, T, T, F] rfl rfl (any_of HT_.out (by kernel_rfl)) (fun _ _ _ h => h) (Or.inl ⟨by rfl, ?_⟩) ?_ ?_
                     rotate_left
                     ·
                      intro w'
                      go_simp
                      with_reducible rfl
                     rotate_left
                     ·
                      simp only [Act.put, q1, q2, q3, i64_w, i32_w]
                      rfl
                     refine pure_ (i := 17) (N := some 16) (v := ?_) (a' := ?_) #[T, T, T, T, T, T, T, T, T, T, T, T, T, T, T, T, T, T] rfl rfl (any_of HT_.out (by kernel_rfl)) (fun _ _ _ h => h) (Or.inl ⟨by rfl, ?_⟩) ?_ ?_
                     rotate_left
                     ·
                      intro w'
                      go_simp
                      with_reducible rfl
                     rotate_left
                     ·
                      simp only [Act.put, q1, q2, q3, i64_w, i32_w]
                      rfl
                     refine done_ (done_of HT_.out (by kernel_rfl)) ?_
                     try go_wp2
                     go_meet
                     case rel => exact ⟨_, H', ⟨by have := HJ14.out; first | omega | exact Nat.le_refl _⟩, ⟨by (with_reducible repeat (first | apply Kd.R_alloc | apply Kd.R_drewN | apply Kd.R_drew)); exact Kd.R_mono HO_1.out (fun _ hk => trivial)⟩, ⟨by (with_reducible repeat (first | refine blk_drewN ?_ _ | refine blk_drew ?_ | refine blk_alloc ?_ _)); exact BK163.out⟩, ⟨by (with_reducible repeat (first | refine blk_drewN ?_ _ | refine blk_drew ?_ | refine blk_alloc ?_ _)); exact BK164.out⟩, ⟨pb HB⟩⟩
                    ·
                     rw [if_neg c44] at H
                     exact absurd H (by simp)
                   ·
                    rw [if_neg c43] at H
                    exact absurd H (by simp)
                  ·
                   rw [if_neg c42] at H
                   exact absurd H (by simp)
                 ·
                  rw [if_neg c41] at H
                  exact absurd H (by simp)
                ·
                 rw [if_neg c39] at H
                 exact absurd H (by simp)
               ·
                rw [if_neg c38] at H
                exact absurd H (by simp)
              ·
               rw [if_neg c36] at H
               exact absurd H (by simp)
             ·
              rw [if_neg c33] at H
              exact absurd H (by simp)
            ·
             rw [if_neg c32] at H
             exact absurd H (by simp)
           ·
            rw [if_neg c31] at H
            exact absurd H (by simp)
         ·
          replace c28 := Bool.eq_false_iff.mpr c28
          subst c28
          have H1 : (downpourlaw02_BlockOrder.j1 kj14 a0 t165 a2_0 yji7 a3_0 yji10) = some r := by rw [if_neg (show ¬ (false = true) by decide)] at H; exact H
          clear H
          have H := H1
          clear H1
          have H' := Aside0.mk H
          clear H
          go_wp2
          go_meet
          case rel => exact ⟨_, H', ⟨by have := HJ14.out; first | omega | exact Nat.le_refl _⟩, ⟨by (with_reducible repeat (first | apply Kd.R_alloc | apply Kd.R_drewN | apply Kd.R_drew)); exact HO_1.out⟩, ⟨by (with_reducible repeat (first | refine blk_drewN ?_ _ | refine blk_drew ?_ | refine blk_alloc ?_ _)); exact BK163.out⟩, ⟨by (with_reducible repeat (first | refine blk_drewN ?_ _ | refine blk_drew ?_ | refine blk_alloc ?_ _)); exact BK164.out⟩, ⟨pb HB⟩⟩
        case rest =>
         clear HC27
         try clear p1
         try clear q1
         try clear hx1
         try clear c2
         try clear p2
         try clear c3
         try clear c4
         try clear q4
         try clear p19
         try clear q19
         try clear hx19
         try clear c28
         try clear c31
         try clear c32
         try clear c33
         try clear c36
         try clear c38
         try clear c39
         try clear c41
         try clear c42
         try clear c43
         try clear c44
         try clear c46
         try clear q46
         try clear q47
         try clear hx192_0
         try clear hx193_0
         try clear p192
         try clear p193
         try clear q192
         try clear q193
         try clear q46
         try clear q47
         obtain ⟨kq, HA, HJ26, HO_1, BK163, BK164, HB⟩ := hcut
         cases kq with
         | zero => exact absurd HA.out (by simp [downpourlaw02_BlockOrder.j1])
         | succ kj26 =>
          have H := HA.out
          clear HA
          simp only [downpourlaw02_BlockOrder.j1] at H
          replace H := Option.bind_eq_some_iff.mp H
          obtain ⟨⟨t202, t203, t206⟩, A600, H⟩ := H
          replace H : ((block_Pick.f kj26 a0 t165 a2_0 yji7).bind fun bt208 => ((block_Pick.f kj26 a0 t165 a3_0 yji10).bind fun bt210 => ((block_Pick.f kj26 a0 t165 t202 t203).bind fun bt212 => (if t206 = 0 then (if bt208.2 = 0 then (downpourlaw02_BlockOrder.j2 kj26 a0 bt208.1 bt208.2 bt210.1 bt212.1 bt212.2 (bt210.2 != 0)) else (downpourlaw02_BlockOrder.j2 kj26 a0 bt208.1 bt208.2 bt210.1 bt212.1 bt212.2 true)) else (downpourlaw02_BlockOrder.j2 kj26 a0 bt208.1 bt208.2 bt210.1 bt212.1 bt212.2 true))))) = some r := H
          have A60 := Aside0.mk A600
          clear A600
          replace H := Option.bind_eq_some_iff.mp H
          obtain ⟨⟨t208, t209⟩, A610, H⟩ := H
          replace H : ((block_Pick.f kj26 a0 t165 a3_0 yji10).bind fun bt210 => ((block_Pick.f kj26 a0 t165 t202 t203).bind fun bt212 => (if t206 = 0 then (if t209 = 0 then (downpourlaw02_BlockOrder.j2 kj26 a0 t208 t209 bt210.1 bt212.1 bt212.2 (bt210.2 != 0)) else (downpourlaw02_BlockOrder.j2 kj26 a0 t208 t209 bt210.1 bt212.1 bt212.2 true)) else (downpourlaw02_BlockOrder.j2 kj26 a0 t208 t209 bt210.1 bt212.1 bt212.2 true)))) = some r := H
          have A61 := Aside0.mk A610
          clear A610
          replace H := Option.bind_eq_some_iff.mp H
          obtain ⟨⟨t210, t211⟩, A620, H⟩ := H
          replace H : ((block_Pick.f kj26 a0 t165 t202 t203).bind fun bt212 => (if t206 = 0 then (if t209 = 0 then (downpourlaw02_BlockOrder.j2 kj26 a0 t208 t209 t210 bt212.1 bt212.2 (t211 != 0)) else (downpourlaw02_BlockOrder.j2 kj26 a0 t208 t209 t210 bt212.1 bt212.2 true)) else (downpourlaw02_BlockOrder.j2 kj26 a0 t208 t209 t210 bt212.1 bt212.2 true))) = some r := H
          have A62 := Aside0.mk A620
          clear A620
          replace H := Option.bind_eq_some_iff.mp H
          obtain ⟨⟨t212, t213⟩, A630, H⟩ := H
          replace H : (if t206 = 0 then (if t209 = 0 then (downpourlaw02_BlockOrder.j2 kj26 a0 t208 t209 t210 t212 t213 (t211 != 0)) else (downpourlaw02_BlockOrder.j2 kj26 a0 t208 t209 t210 t212 t213 true)) else (downpourlaw02_BlockOrder.j2 kj26 a0 t208 t209 t210 t212 t213 true)) = some r := H
          have A63 := Aside0.mk A630
          clear A630
          have HC64 := Aside0.mk H
          clear H
          have hnb65 := NB163_164.out
          have hnc65 := NB164_163.out
          have hcz66_0 : wc.cell? ⟨gb163, 0, none⟩ = some (.int .i64 a2_0) := (blk_cell BK163.out 0).trans rfl
          have hcz66_1 : wc.cell? ⟨gb163, 1, none⟩ = some (.slice A2_1 yji7.length c2_1) := (blk_cell BK163.out 1).trans rfl
          have hfz66_0 := blk_frozen BK163.out 0
          have hfz66_1 := blk_frozen BK163.out 1
          have hcz67_0 : wc.cell? ⟨gb164, 0, none⟩ = some (.int .i64 a3_0) := (blk_cell BK164.out 0).trans rfl
          have hcz67_1 : wc.cell? ⟨gb164, 1, none⟩ = some (.slice A3_1 yji10.length c3_1) := (blk_cell BK164.out 1).trans rfl
          have hfz67_0 := blk_frozen BK164.out 0
          have hfz67_1 := blk_frozen BK164.out 1
          go_upto_region 15 with (first | ((with_reducible refine gate_callee (f := 28) rfl ?_); refine goesL_ (some 125) rfl rfl Tryd.func28 (by kernel_rfl) rfl #[.agg #[.int .i64 a2_0, .slice A2_1 yji7.length c2_1], .agg #[.int .i64 a3_0, .slice A3_1 yji10.length c3_1]] rfl (by (try simp only [List.map_toArray, List.map_cons, List.map_nil]); first | done | (rw [show yji7.length = (ji7).toNat from (by rw [List.length_take]; have h_ : ((ji7) : Int) ≤ (l2_1.length : Int) := of_decide_eq_true (by first | (with_reducible assumption) | assumption); omega)] <;> rfl) | (rw [show yji10.length = (ji10).toNat from (by rw [List.length_take]; have h_ : ((ji10) : Int) ≤ (l3_1.length : Int) := of_decide_eq_true (by first | (with_reducible assumption) | assumption); omega)] <;> rfl) | (simp only [hji10, hji7]; rfl) | rfl | (simp only [List.length_drop, List.length_take]; rfl)) ?_; (with_reducible refine (bitrow_Xor.calls kj26 a2_0 _ _ yji7 a3_0 _ _ yji10 t202 t203 t206 _ ?side1 ?side2 ?side3 ?side4 A60.out).mono ?_); (case side1 => repeat (first | exact (Kd.C_below HR168.out HB.out) | (with_reducible refine Kd.C_alloc ?_ _) | (with_reducible refine Kd.C_drewN ?_ _) | (with_reducible refine Kd.C_drew ?_))); (case side2 => exact HC168.out); (case side3 => repeat (first | exact (Kd.C_below HR169.out HB.out) | (with_reducible refine Kd.C_alloc ?_ _) | (with_reducible refine Kd.C_drewN ?_ _) | (with_reducible refine Kd.C_drew ?_))); (case side4 => exact HC169.out); rintro e w68 ⟨v204, rfl, ho0, hb⟩; refine ⟨_, rfl, ?_⟩; have n0_ := am (Kd.R_below (pr HO_1) hb); have n1_ := am (Kd.R_lower ho0 (below_size (pb HB))); have n2_ := bb BK163 hb; have n3_ := bb BK164 hb; have n4_ := am (below_step (pb HB) hb); clear HO_1 BK163 BK164 HB; have HO_1 := n0_; have HO205 := n1_; have BK163 := n2_; have BK164 := n3_; have HB := n4_; clear n0_ n1_ n2_ n3_ n4_; (try clear hb); (try clear hb2); (try clear hk); (try clear hi); (try clear ho0)) | ((with_reducible refine gate_dst (N := 17) rfl ?_); (try (refine gate_guard (by rfl) ?_; dsimp only)); refine box_event ?hg (N := 17) ?hd (cs := #[.int .i64 0, .slice none 0 0]) (t := 25) ?hr ?_; (case hd => rfl); (case hg => rfl); (case hr => first | (go_simp; done) | (go_simp; rfl)); intro gb207 hg w69 hbox hb; have n0_ := am (Kd.R_below (pr HO_1) hb); have n1_ := am (Kd.R_below (pr HO205) hb); have n2_ := bb BK163 hb; have n3_ := bb BK164 hb; have n4_ := am (below_step (pb HB) hb); have n5_ := am (hbox); have n6_ := am ((by rw [hg]; exact (below_size (pb HB)) : w.heap.size ≤ gb207)); have n7_ := am ((by rw [hg]; exact (below_size (pb HB)) : w.heap.size ≤ gb207)); have n8_ := am ((by rw [hg]; exact Nat.ne_of_lt (bl BK163) : gb163 ≠ gb207)); have n9_ := am ((by rw [hg]; exact Nat.ne_of_gt (bl BK163) : gb207 ≠ gb163)); have n10_ := am ((by rw [hg]; exact Nat.ne_of_lt (bl BK164) : gb164 ≠ gb207)); have n11_ := am ((by rw [hg]; exact Nat.ne_of_gt (bl BK164) : gb207 ≠ gb164)); clear HO_1 HO205 BK163 BK164 HB; have HO_1 := n0_; have HO205 := n1_; have BK163 := n2_; have BK164 := n3_; have HB := n4_; have BK207 := n5_; have GW207 := n6_; have GE207 := n7_; have NB163_207 := n8_; have NB207_163 := n9_; have NB164_207 := n10_; have NB207_164 := n11_; clear n0_ n1_ n2_ n3_ n4_ n5_ n6_ n7_ n8_ n9_ n10_ n11_ hb hbox hg; have hnb70 := NB207_163.out; have hnc70 := NB163_207.out; have hnb71 := NB207_164.out; have hnc71 := NB164_207.out; have hcz72_0 : w69.cell? ⟨gb207, 0, none⟩ = some (.int .i64 0) := (blk_cell BK207.out 0).trans rfl; have hcz72_1 : w69.cell? ⟨gb207, 1, none⟩ = some (.slice none 0 0) := (blk_cell BK207.out 1).trans rfl; have hfz72_0 := blk_frozen BK207.out 0; have hfz72_1 := blk_frozen BK207.out 1; obtain ⟨Ao73, co73, eo73⟩ := Kd.R_slice HO205.out; subst eo73; have hcz74_0 : w69.cell? ⟨gb163, 0, none⟩ = some (.int .i64 a2_0) := (blk_cell BK163.out 0).trans rfl; have hcz74_1 : w69.cell? ⟨gb163, 1, none⟩ = some (.slice A2_1 yji7.length c2_1) := (blk_cell BK163.out 1).trans rfl; have hfz74_0 := blk_frozen BK163.out 0; have hfz74_1 := blk_frozen BK163.out 1) | ((with_reducible refine gate_callee (f := 12) rfl ?_); refine goesL_ (some 132) rfl rfl Tryd.func12 (by kernel_rfl) rfl #[.int .i64 a0, .slice Ao24 t165.length co24, .agg #[.int .i64 a2_0, .slice A2_1 yji7.length c2_1]] rfl (by (try simp only [List.map_toArray, List.map_cons, List.map_nil]); first | done | (rw [show yji7.length = (ji7).toNat from (by rw [List.length_take]; have h_ : ((ji7) : Int) ≤ (l2_1.length : Int) := of_decide_eq_true (by first | (with_reducible assumption) | assumption); omega)] <;> rfl) | (simp only [hji7]; rfl) | rfl | (simp only [List.length_drop, List.length_take]; rfl)) ?_; (with_reducible refine (block_Pick.calls kj26 a0 _ _ t165 a2_0 _ _ yji7 t208 t209 _ ?side5 ?side1 ?side2 ?side3 ?side4 A61.out).mono ?_); (case side1 => refine (Kd.R_reads' (e := 9) (base := w.heap.size) (ok := fun k_ => True) (n := t165.length) (c := co24) ?_).2.2; exact (by (with_reducible repeat (first | apply Kd.R_alloc | apply Kd.R_drewN | apply Kd.R_drew)); exact (Kd.R_mono (Kd.R_far (p := ⟨gb207, 1, none⟩) (Kd.R_far (p := ⟨gb207, 0, none⟩) (Kd.R_types HO_1.out BK207.out (by decide)) (fun _ hk => hk.2) (.int .i64 t202)) (fun _ hk => hk.2) (.slice Ao73 t203.length co73)) (fun _ h_ => h_.1)))); (case side2 => exact (Kd.R_reads' HO_1.out).2.1); (case side3 => exact Kd.C_below HR168.out (pb HB)); (case side4 => exact HC168.out); (case side5 => exact TabOk.below HT.out (pb HB)); rintro e w75 ⟨rfl, hb⟩; refine ⟨_, rfl, ?_⟩; have n0_ := am (Kd.R_below (by (with_reducible repeat (first | apply Kd.R_alloc | apply Kd.R_drewN | apply Kd.R_drew)); exact (Kd.R_mono (Kd.R_far (p := ⟨gb207, 1, none⟩) (Kd.R_far (p := ⟨gb207, 0, none⟩) (Kd.R_types HO_1.out BK207.out (by decide)) (fun _ hk => hk.2) (.int .i64 t202)) (fun _ hk => hk.2) (.slice Ao73 t203.length co73)) (fun _ h_ => h_.1))) hb); have n1_ := am (Kd.R_below (by (with_reducible repeat (first | apply Kd.R_alloc | apply Kd.R_drewN | apply Kd.R_drew)); exact (Kd.R_mono (Kd.R_far (p := ⟨gb207, 1, none⟩) (Kd.R_far (p := ⟨gb207, 0, none⟩) (Kd.R_types HO205.out BK207.out (by decide)) (fun _ hk => hk.2) (.int .i64 t202)) (fun _ hk => hk.2) (.slice Ao73 t203.length co73)) (fun _ h_ => h_.1))) hb); have n2_ := am (blk_below (g := gb163) (o := .cells #[.int .i64 a2_0, .slice A2_1 yji7.length c2_1] 25 (0, 0)) (by (with_reducible repeat (first | refine blk_drewN ?_ _ | refine blk_drew ?_ | refine blk_alloc ?_ _)); refine blk_far ?_ NB163_207.out _; (with_reducible repeat (first | refine blk_drewN ?_ _ | refine blk_drew ?_ | refine blk_alloc ?_ _)); refine blk_far ?_ NB163_207.out _; (with_reducible repeat (first | refine blk_drewN ?_ _ | refine blk_drew ?_ | refine blk_alloc ?_ _)); exact BK163.out) hb); have n3_ := am (blk_below (g := gb164) (o := .cells #[.int .i64 a3_0, .slice A3_1 yji10.length c3_1] 25 (0, 0)) (by (with_reducible repeat (first | refine blk_drewN ?_ _ | refine blk_drew ?_ | refine blk_alloc ?_ _)); refine blk_far ?_ NB164_207.out _; (with_reducible repeat (first | refine blk_drewN ?_ _ | refine blk_drew ?_ | refine blk_alloc ?_ _)); refine blk_far ?_ NB164_207.out _; (with_reducible repeat (first | refine blk_drewN ?_ _ | refine blk_drew ?_ | refine blk_alloc ?_ _)); exact BK164.out) hb); have n4_ := am (blk_below (g := gb207) (o := .cells #[.int .i64 t202, .slice Ao73 t203.length co73] 25 (0, 0)) (by (with_reducible repeat (first | refine blk_drewN ?_ _ | refine blk_drew ?_ | refine blk_alloc ?_ _)); refine blk_put (cs := #[.int .i64 t202, .slice none 0 0]) ?_ 1 _ rfl; (with_reducible repeat (first | refine blk_drewN ?_ _ | refine blk_drew ?_ | refine blk_alloc ?_ _)); refine blk_put (cs := #[.int .i64 0, .slice none 0 0]) ?_ 0 _ rfl; (with_reducible repeat (first | refine blk_drewN ?_ _ | refine blk_drew ?_ | refine blk_alloc ?_ _)); exact BK207.out) hb); have n5_ := am (below_step (pb HB) hb); clear HO_1 HO205 BK163 BK164 BK207 HB; have HO_1 := n0_; have HO205 := n1_; have BK163 := n2_; have BK164 := n3_; have BK207 := n4_; have HB := n5_; clear n0_ n1_ n2_ n3_ n4_ n5_; (try clear hb); (try clear hb2); (try clear hk); (try clear hi); have hcz76_0 : w75.cell? ⟨gb164, 0, none⟩ = some (.int .i64 a3_0) := (blk_cell BK164.out 0).trans rfl; have hcz76_1 : w75.cell? ⟨gb164, 1, none⟩ = some (.slice A3_1 yji10.length c3_1) := (blk_cell BK164.out 1).trans rfl; have hfz76_0 := blk_frozen BK164.out 0; have hfz76_1 := blk_frozen BK164.out 1) | ((with_reducible refine gate_callee (f := 12) rfl ?_); refine goesL_ (some 139) rfl rfl Tryd.func12 (by kernel_rfl) rfl #[.int .i64 a0, .slice Ao24 t165.length co24, .agg #[.int .i64 a3_0, .slice A3_1 yji10.length c3_1]] rfl (by (try simp only [List.map_toArray, List.map_cons, List.map_nil]); first | done | (rw [show yji10.length = (ji10).toNat from (by rw [List.length_take]; have h_ : ((ji10) : Int) ≤ (l3_1.length : Int) := of_decide_eq_true (by first | (with_reducible assumption) | assumption); omega)] <;> rfl) | (simp only [hji10]; rfl) | rfl | (simp only [List.length_drop, List.length_take]; rfl)) ?_; (with_reducible refine (block_Pick.calls kj26 a0 _ _ t165 a3_0 _ _ yji10 t210 t211 _ ?side5 ?side1 ?side2 ?side3 ?side4 A62.out).mono ?_); (case side1 => repeat (first | exact (Kd.R_reads' HO_1.out).2.2 | (with_reducible refine Kd.C_alloc ?_ _) | (with_reducible refine Kd.C_drewN ?_ _) | (with_reducible refine Kd.C_drew ?_))); (case side2 => exact (Kd.R_reads' HO_1.out).2.1); (case side3 => repeat (first | exact (Kd.C_below HR169.out HB.out) | (with_reducible refine Kd.C_alloc ?_ _) | (with_reducible refine Kd.C_drewN ?_ _) | (with_reducible refine Kd.C_drew ?_))); (case side4 => exact HC169.out); (case side5 => exact TabOk.below HT.out (pb HB)); rintro e w77 ⟨rfl, hb⟩; refine ⟨_, rfl, ?_⟩; have n0_ := am (Kd.R_below (pr HO_1) hb); have n1_ := am (Kd.R_below (pr HO205) hb); have n2_ := bb BK163 hb; have n3_ := bb BK164 hb; have n4_ := bb BK207 hb; have n5_ := am (below_step (pb HB) hb); clear HO_1 HO205 BK163 BK164 BK207 HB; have HO_1 := n0_; have HO205 := n1_; have BK163 := n2_; have BK164 := n3_; have BK207 := n4_; have HB := n5_; clear n0_ n1_ n2_ n3_ n4_ n5_; (try clear hb); (try clear hb2); (try clear hk); (try clear hi); have hcz78_0 : w77.cell? ⟨gb207, 0, none⟩ = some (.int .i64 t202) := (blk_cell BK207.out 0).trans rfl; have hcz78_1 : w77.cell? ⟨gb207, 1, none⟩ = some (.slice Ao73 t203.length co73) := (blk_cell BK207.out 1).trans rfl; have hfz78_0 := blk_frozen BK207.out 0; have hfz78_1 := blk_frozen BK207.out 1) | ((with_reducible refine gate_callee (f := 12) rfl ?_); refine goesL_ (some 146) rfl rfl Tryd.func12 (by kernel_rfl) rfl #[.int .i64 a0, .slice Ao24 t165.length co24, .agg #[.int .i64 t202, .slice Ao73 t203.length co73]] rfl (by (try simp only [List.map_toArray, List.map_cons, List.map_nil]); first | done | rfl | (simp only [List.length_drop, List.length_take]; rfl)) ?_; (with_reducible refine (block_Pick.calls kj26 a0 _ _ t165 t202 _ _ t203 t212 t213 _ ?side5 ?side1 ?side2 ?side3 ?side4 A63.out).mono ?_); (case side1 => repeat (first | exact (Kd.R_reads' HO_1.out).2.2 | (with_reducible refine Kd.C_alloc ?_ _) | (with_reducible refine Kd.C_drewN ?_ _) | (with_reducible refine Kd.C_drew ?_))); (case side2 => exact (Kd.R_reads' HO_1.out).2.1); (case side3 => repeat (first | exact (Kd.R_reads' HO205.out).2.2 | (with_reducible refine Kd.C_alloc ?_ _) | (with_reducible refine Kd.C_drewN ?_ _) | (with_reducible refine Kd.C_drew ?_))); (case side4 => exact (Kd.R_reads' HO205.out).2.1); (case side5 => exact TabOk.below HT.out (pb HB)); rintro e w79 ⟨rfl, hb⟩; refine ⟨_, rfl, ?_⟩; have n0_ := am (Kd.R_below (pr HO_1) hb); have n1_ := am (Kd.R_below (pr HO205) hb); have n2_ := bb BK163 hb; have n3_ := bb BK164 hb; have n4_ := bb BK207 hb; have n5_ := am (below_step (pb HB) hb); clear HO_1 HO205 BK163 BK164 BK207 HB; have HO_1 := n0_; have HO205 := n1_; have BK163 := n2_; have BK164 := n3_; have BK207 := n4_; have HB := n5_; clear n0_ n1_ n2_ n3_ n4_ n5_; (try clear hb); (try clear hb2); (try clear hk); (try clear hi)))
          (try simp only [Act.put, q1, q2, q3])
          go_cut [158] (fun v158 wc => ∃ (kq : Nat) (x158_63 : Bool), v158 = .bool x158_63 ∧ Aside0 (downpourlaw02_BlockOrder.j2 kq a0 t208 t209 t210 t212 t213 x158_63 = some r) ∧ Aside0 (kq ≤ kj26) ∧ Aside0 (Kd.R (Kd.int .u64) 90 wc w.heap.size (fun _ => True) (.slice Ao73 t203.length co73) t203) ∧ Aside0 (wc.heap[gb163]? = some (.cells #[.int .i64 a2_0, (.slice A2_1 yji7.length c2_1)] 25 (0, 0))) ∧ Aside0 (wc.heap[gb164]? = some (.cells #[.int .i64 a3_0, (.slice A3_1 yji10.length c3_1)] 25 (0, 0))) ∧ Aside0 (wc.heap[gb207]? = some (.cells #[.int .i64 t202, (.slice Ao73 t203.length co73)] 25 (0, 0))) ∧ Aside0 (Below w.heap.size w wc))
          case first =>
           have H := HC64.out
           clear HC64
           by_cases c80 : t206 = 0
           ·
            rw [if_pos c80] at H
            have c80b0 : (t206 == 0) = true := beq_iff_eq.mpr c80
            have c80b1 : (t206 != 0) = false := bne_eq_false_iff_eq.mpr c80
            clear c80
            (first | rw [c80b0] | (simp only [i64_w, i32_w]; rw [c80b0]) | skip)
            by_cases c81 : t209 = 0
            ·
             rw [if_pos c81] at H
             have c81b0 : (t209 == 0) = true := beq_iff_eq.mpr c81
             have c81b1 : (t209 != 0) = false := bne_eq_false_iff_eq.mpr c81
             clear c81
             have H' := Aside0.mk H
             clear H
             go_wp2
             go_meet
             case rel => exact ⟨_, ((t211 != 0)), (by first | rfl | (simp; done) | (simp [*]; done)), H', ⟨by have := HJ14.out; have := HJ26.out; first | omega | exact Nat.le_refl _⟩, ⟨by (with_reducible repeat (first | apply Kd.R_alloc | apply Kd.R_drewN | apply Kd.R_drew)); exact HO205.out⟩, ⟨by (with_reducible repeat (first | refine blk_drewN ?_ _ | refine blk_drew ?_ | refine blk_alloc ?_ _)); exact BK163.out⟩, ⟨by (with_reducible repeat (first | refine blk_drewN ?_ _ | refine blk_drew ?_ | refine blk_alloc ?_ _)); exact BK164.out⟩, ⟨by (with_reducible repeat (first | refine blk_drewN ?_ _ | refine blk_drew ?_ | refine blk_alloc ?_ _)); exact BK207.out⟩, ⟨pb HB⟩⟩
            ·
             rw [if_neg c81] at H
             have c81b0 : (t209 == 0) = false := beq_eq_false_iff_ne.mpr c81
             have c81b1 : (t209 != 0) = true := bne_iff_ne.mpr c81
             have H' := Aside0.mk H
             clear H
             go_wp2
             go_meet
             case rel => exact ⟨_, (true), (by first | rfl | (simp; done) | (simp [*]; done)), H', ⟨by have := HJ14.out; have := HJ26.out; first | omega | exact Nat.le_refl _⟩, ⟨by (with_reducible repeat (first | apply Kd.R_alloc | apply Kd.R_drewN | apply Kd.R_drew)); exact HO205.out⟩, ⟨by (with_reducible repeat (first | refine blk_drewN ?_ _ | refine blk_drew ?_ | refine blk_alloc ?_ _)); exact BK163.out⟩, ⟨by (with_reducible repeat (first | refine blk_drewN ?_ _ | refine blk_drew ?_ | refine blk_alloc ?_ _)); exact BK164.out⟩, ⟨by (with_reducible repeat (first | refine blk_drewN ?_ _ | refine blk_drew ?_ | refine blk_alloc ?_ _)); exact BK207.out⟩, ⟨pb HB⟩⟩
           ·
            rw [if_neg c80] at H
            have c80b0 : (t206 == 0) = false := beq_eq_false_iff_ne.mpr c80
            have c80b1 : (t206 != 0) = true := bne_iff_ne.mpr c80
            (first | rw [c80b0] | (simp only [i64_w, i32_w]; rw [c80b0]) | skip)
            have H' := Aside0.mk H
            clear H
            go_wp2
            go_meet
            case rel => exact ⟨_, (true), (by first | rfl | (simp; done) | (simp [*]; done)), H', ⟨by have := HJ14.out; have := HJ26.out; first | omega | exact Nat.le_refl _⟩, ⟨by (with_reducible repeat (first | apply Kd.R_alloc | apply Kd.R_drewN | apply Kd.R_drew)); exact HO205.out⟩, ⟨by (with_reducible repeat (first | refine blk_drewN ?_ _ | refine blk_drew ?_ | refine blk_alloc ?_ _)); exact BK163.out⟩, ⟨by (with_reducible repeat (first | refine blk_drewN ?_ _ | refine blk_drew ?_ | refine blk_alloc ?_ _)); exact BK164.out⟩, ⟨by (with_reducible repeat (first | refine blk_drewN ?_ _ | refine blk_drew ?_ | refine blk_alloc ?_ _)); exact BK207.out⟩, ⟨pb HB⟩⟩
          case rest =>
           clear HC64
           try clear c1
           try clear p1
           try clear q1
           try clear hx1
           try clear c2
           try clear p2
           try clear c3
           try clear c4
           try clear q4
           try clear c6
           try clear c7
           try clear c8
           try clear c12
           try clear p19
           try clear q19
           try clear hx19
           try clear c28
           try clear c31
           try clear c32
           try clear c33
           try clear c36
           try clear c38
           try clear c39
           try clear c41
           try clear c42
           try clear c43
           try clear c44
           try clear c46
           try clear q46
           try clear q47
           try clear c65
           try clear c70
           try clear c71
           try clear c80
           try clear c80b0
           try clear c80b1
           try clear c81
           try clear c81b0
           try clear c81b1
           try clear hcz66_0
           try clear hcz66_1
           try clear hcz67_0
           try clear hcz67_1
           try clear hcz72_0
           try clear hcz72_1
           try clear hcz74_0
           try clear hcz74_1
           try clear hcz76_0
           try clear hcz76_1
           try clear hcz78_0
           try clear hcz78_1
           try clear hfz66_0
           try clear hfz66_1
           try clear hfz67_0
           try clear hfz67_1
           try clear hfz72_0
           try clear hfz72_1
           try clear hfz74_0
           try clear hfz74_1
           try clear hfz76_0
           try clear hfz76_1
           try clear hfz78_0
           try clear hfz78_1
           try clear hx192_0
           try clear hx193_0
           try clear p1
           try clear p19
           try clear p192
           try clear p193
           try clear p2
           try clear q1
           try clear q19
           try clear q192
           try clear q193
           try clear q4
           try clear q46
           try clear q47
           obtain ⟨kq, x158_63, rfl, HA, HJ63, HO_208001, BK163, BK164, BK207, HB⟩ := hcut
           cases kq with
           | zero => exact absurd HA.out (by simp [downpourlaw02_BlockOrder.j2])
           | succ kj63 =>
            have H := HA.out
            clear HA
            simp only [downpourlaw02_BlockOrder.j2] at H
            by_cases c82 : x158_63 = true
            ·
             subst c82
             have H1 : ((downpourlaw02_alive.f kj63).bind fun t214 => (if t214 = true then (if t209 = 0 then (some ((t208.size : Int) == a0)) else (some true)) else (none))) = some r := by rw [if_pos rfl] at H; exact H
             clear H
             have H := H1
             clear H1
             replace H := Option.bind_eq_some_iff.mp H
             obtain ⟨t214, A830, H⟩ := H
             replace H : (if t214 = true then (if t209 = 0 then (some ((t208.size : Int) == a0)) else (some true)) else (none)) = some r := H
             have A83 := Aside0.mk A830
             clear A830
             by_cases c84 : t214 = true
             ·
              subst c84
              have H1 : (if t209 = 0 then (some ((t208.size : Int) == a0)) else (some true)) = some r := by rw [if_pos rfl] at H; exact H
              clear H
              have H := H1
              clear H1
              by_cases c85 : t209 = 0
              ·
               rw [if_pos c85] at H
               have c85b0 : (t209 == 0) = true := beq_iff_eq.mpr c85
               have c85b1 : (t209 != 0) = false := bne_eq_false_iff_eq.mpr c85
               clear c85
               obtain rfl := Option.some.inj H
               go_wp2_with (first | ((with_reducible refine gate_callee (f := 14) rfl ?_); refine goesL_ (some 159) rfl rfl Tryd.func14 (by kernel_rfl) rfl #[] rfl (by (try simp only [List.map_toArray, List.map_cons, List.map_nil]); first | done | rfl | (simp only [List.length_drop, List.length_take]; rfl)) ?_; (with_reducible refine (downpourlaw02_alive.calls kj63  true _ A83.out).mono ?_); rintro e w86 ⟨rfl, hb⟩; refine ⟨_, rfl, ?_⟩; have n0_ := am (Kd.R_below (pr HO_208001) hb); have n1_ := bb BK163 hb; have n2_ := bb BK164 hb; have n3_ := bb BK207 hb; have n4_ := am (below_step (pb HB) hb); clear HO_208001 BK163 BK164 BK207 HB; have HO_208001 := n0_; have BK163 := n1_; have BK164 := n2_; have BK207 := n3_; have HB := n4_; clear n0_ n1_ n2_ n3_ n4_; (try clear hb); (try clear hb2); (try clear hk); (try clear hi)))
               go_ret
               exact ⟨by first | rfl | (simp [errW_none, errW_some] <;> rfl) | (simp only [← hji7, ← hji10]; first | rfl | (simp [errW_none, errW_some] <;> rfl)) | (simp [*, errW_none, errW_some] <;> rfl), pb HB⟩
              ·
               rw [if_neg c85] at H
               have c85b0 : (t209 == 0) = false := beq_eq_false_iff_ne.mpr c85
               have c85b1 : (t209 != 0) = true := bne_iff_ne.mpr c85
               obtain rfl := Option.some.inj H
               go_wp2_with (first | ((with_reducible refine gate_callee (f := 14) rfl ?_); refine goesL_ (some 159) rfl rfl Tryd.func14 (by kernel_rfl) rfl #[] rfl (by (try simp only [List.map_toArray, List.map_cons, List.map_nil]); first | done | rfl | (simp only [List.length_drop, List.length_take]; rfl)) ?_; (with_reducible refine (downpourlaw02_alive.calls kj63  true _ A83.out).mono ?_); rintro e w87 ⟨rfl, hb⟩; refine ⟨_, rfl, ?_⟩; have n0_ := am (Kd.R_below (pr HO_208001) hb); have n1_ := bb BK163 hb; have n2_ := bb BK164 hb; have n3_ := bb BK207 hb; have n4_ := am (below_step (pb HB) hb); clear HO_208001 BK163 BK164 BK207 HB; have HO_208001 := n0_; have BK163 := n1_; have BK164 := n2_; have BK207 := n3_; have HB := n4_; clear n0_ n1_ n2_ n3_ n4_; (try clear hb); (try clear hb2); (try clear hk); (try clear hi)))
               go_ret
               exact ⟨by first | rfl | (simp [errW_none, errW_some] <;> rfl) | (simp only [← hji7, ← hji10]; first | rfl | (simp [errW_none, errW_some] <;> rfl)) | (simp [*, errW_none, errW_some] <;> rfl), pb HB⟩
             ·
              replace c84 := Bool.eq_false_iff.mpr c84
              subst c84
              have H1 : (none) = some r := by rw [if_neg (show ¬ (false = true) by decide)] at H; exact H
              clear H
              have H := H1
              clear H1
              exact absurd H (by simp)
            ·
             replace c82 := Bool.eq_false_iff.mpr c82
             subst c82
             have H1 : ((block_Xor.f kj63 t208 t210).bind fun bt215 => ((downpourlaw02_alive.f kj63).bind fun t217 => (if t217 = true then (if t213 = 0 then (if bt215.2 = 0 then (some (bt215.1.toList == t212.toList)) else (none)) else (none)) else (none)))) = some r := by rw [if_neg (show ¬ (false = true) by decide)] at H; exact H
             clear H
             have H := H1
             clear H1
             replace H := Option.bind_eq_some_iff.mp H
             obtain ⟨⟨t215, t216⟩, A880, H⟩ := H
             replace H : ((downpourlaw02_alive.f kj63).bind fun t217 => (if t217 = true then (if t213 = 0 then (if t216 = 0 then (some (t215.toList == t212.toList)) else (none)) else (none)) else (none))) = some r := H
             have A88 := Aside0.mk A880
             clear A880
             replace H := Option.bind_eq_some_iff.mp H
             obtain ⟨t217, A890, H⟩ := H
             replace H : (if t217 = true then (if t213 = 0 then (if t216 = 0 then (some (t215.toList == t212.toList)) else (none)) else (none)) else (none)) = some r := H
             have A89 := Aside0.mk A890
             clear A890
             by_cases c90 : t217 = true
             ·
              subst c90
              have H1 : (if t213 = 0 then (if t216 = 0 then (some (t215.toList == t212.toList)) else (none)) else (none)) = some r := by rw [if_pos rfl] at H; exact H
              clear H
              have H := H1
              clear H1
              by_cases c91 : t213 = 0
              ·
               rw [if_pos c91] at H
               have c91b0 : (t213 == 0) = true := beq_iff_eq.mpr c91
               have c91b1 : (t213 != 0) = false := bne_eq_false_iff_eq.mpr c91
               clear c91
               by_cases c92 : t216 = 0
               ·
                rw [if_pos c92] at H
                have c92b0 : (t216 == 0) = true := beq_iff_eq.mpr c92
                have c92b1 : (t216 != 0) = false := bne_eq_false_iff_eq.mpr c92
                clear c92
                obtain rfl := Option.some.inj H
                go_wp2_with (first | ((with_reducible refine gate_callee (f := 33) rfl ?_); refine goesL_ (some 173) rfl rfl Tryd.func33 (by kernel_rfl) rfl #[.string t208, .string t210] rfl (by (try simp only [List.map_toArray, List.map_cons, List.map_nil]); first | done | rfl | (simp only [List.length_drop, List.length_take]; rfl)) ?_; (with_reducible refine (block_Xor.calls kj63 t208 t210 t215 t216 _ A88.out).mono ?_); rintro e w93 ⟨rfl, hb⟩; refine ⟨_, rfl, ?_⟩; have n0_ := am (Kd.R_below (pr HO_208001) hb); have n1_ := bb BK163 hb; have n2_ := bb BK164 hb; have n3_ := bb BK207 hb; have n4_ := am (below_step (pb HB) hb); clear HO_208001 BK163 BK164 BK207 HB; have HO_208001 := n0_; have BK163 := n1_; have BK164 := n2_; have BK207 := n3_; have HB := n4_; clear n0_ n1_ n2_ n3_ n4_; (try clear hb); (try clear hb2); (try clear hk); (try clear hi)) | ((with_reducible refine gate_callee (f := 14) rfl ?_); refine goesL_ (some 176) rfl rfl Tryd.func14 (by kernel_rfl) rfl #[] rfl (by (try simp only [List.map_toArray, List.map_cons, List.map_nil]); first | done | rfl | (simp only [List.length_drop, List.length_take]; rfl)) ?_; (with_reducible refine (downpourlaw02_alive.calls kj63  true _ A89.out).mono ?_); rintro e w94 ⟨rfl, hb⟩; refine ⟨_, rfl, ?_⟩; have n0_ := am (Kd.R_below (pr HO_208001) hb); have n1_ := bb BK163 hb; have n2_ := bb BK164 hb; have n3_ := bb BK207 hb; have n4_ := am (below_step (pb HB) hb); clear HO_208001 BK163 BK164 BK207 HB; have HO_208001 := n0_; have BK163 := n1_; have BK164 := n2_; have BK207 := n3_; have HB := n4_; clear n0_ n1_ n2_ n3_ n4_; (try clear hb); (try clear hb2); (try clear hk); (try clear hi)))
                go_ret
                exact ⟨by first | rfl | (simp [errW_none, errW_some] <;> rfl) | (simp only [← hji7, ← hji10]; first | rfl | (simp [errW_none, errW_some] <;> rfl)) | (simp [*, errW_none, errW_some] <;> rfl), pb HB⟩
               ·
                rw [if_neg c92] at H
                exact absurd H (by simp)
              ·
               rw [if_neg c91] at H
               exact absurd H (by simp)
             ·
              replace c90 := Bool.eq_false_iff.mpr c90
              subst c90
              have H1 : (none) = some r := by rw [if_neg (show ¬ (false = true) by decide)] at H; exact H
              clear H
              have H := H1
              clear H1
              exact absurd H (by simp)
     ·
      rw [if_neg c14] at H
      have c14b0 : (t171 == 0) = false := beq_eq_false_iff_ne.mpr c14
      have c14b1 : (t171 != 0) = true := bne_iff_ne.mpr c14
      replace H := Option.bind_eq_some_iff.mp H
      obtain ⟨t172, A950, H⟩ := H
      replace H : (if t172 = true then (some (t170.toList == ([] : List UInt8))) else (none)) = some r := H
      have A95 := Aside0.mk A950
      clear A950
      by_cases c96 : t172 = true
      ·
       subst c96
       have H1 : (some (t170.toList == ([] : List UInt8))) = some r := by rw [if_pos rfl] at H; exact H
       clear H
       have H := H1
       clear H1
       obtain rfl := Option.some.inj H
       go_enter Tryd.func6, Tryd.ntmps6
       try go_wp2_with (first | ((with_reducible refine gate_dst (N := 7) rfl ?_); (try (refine gate_guard (by rfl) ?_; dsimp only)); refine box_event ?hg (N := 7) ?hd (cs := #[.int .i64 a2_0, .slice A2_1 l2_1.length c2_1]) (t := 25) ?hr ?_; (case hd => rfl); (case hg => rfl); (case hr => first | (go_simp; done) | (go_simp; rfl)); intro gb163 hg w97 hbox hb; have n0_ := am (below_step (pb HB) hb); have n1_ := am (hbox); have n2_ := am ((by rw [hg]; exact (below_size (pb HB)) : w.heap.size ≤ gb163)); have n3_ := am ((by rw [hg]; exact (below_size (pb HB)) : w.heap.size ≤ gb163)); clear HB; have HB := n0_; have BK163 := n1_; have GW163 := n2_; have GE163 := n3_; clear n0_ n1_ n2_ n3_ hb hbox hg) | ((with_reducible refine gate_dst (N := 8) rfl ?_); (try (refine gate_guard (by rfl) ?_; dsimp only)); refine box_event ?hg (N := 8) ?hd (cs := #[.int .i64 a3_0, .slice A3_1 l3_1.length c3_1]) (t := 25) ?hr ?_; (case hd => rfl); (case hg => rfl); (case hr => first | (go_simp; done) | (go_simp; rfl)); intro gb164 hg w98 hbox hb; have n0_ := bb BK163 hb; have n1_ := am (below_step (pb HB) hb); have n2_ := am (hbox); have n3_ := am ((by rw [hg]; exact (below_size (pb HB)) : w.heap.size ≤ gb164)); have n4_ := am ((by rw [hg]; exact (below_size (pb HB)) : w.heap.size ≤ gb164)); have n5_ := am ((by rw [hg]; exact Nat.ne_of_lt (bl BK163) : gb163 ≠ gb164)); have n6_ := am ((by rw [hg]; exact Nat.ne_of_gt (bl BK163) : gb164 ≠ gb163)); clear BK163 HB; have BK163 := n0_; have HB := n1_; have BK164 := n2_; have GW164 := n3_; have GE164 := n4_; have NB163_164 := n5_; have NB164_163 := n6_; clear n0_ n1_ n2_ n3_ n4_ n5_ n6_ hb hbox hg))
       have n0_ := am (blk_drew BK163.out)
       have n1_ := am (blk_drew BK164.out)
       have n2_ := am (below_drew1 HB.out)
       clear BK163
       clear BK164
       clear HB
       have BK163 := n0_
       have BK164 := n1_
       have HB := n2_
       clear n0_ n1_ n2_
       obtain ⟨i0100, hi0100, _, hsz100, _⟩ := info_parts info90
       obtain ⟨hcut100, hA100, hC100⟩ := print_take_of (P := Tryd.prog) (Value.int .u64) 0 23 90 .i64 Tryd.underlying23 hi0100 hsz100 A2_1 c2_1 l2_1 (ji7) (of_decide_eq_true (by first | (with_reducible assumption) | assumption)) (of_decide_eq_true (by first | (with_reducible assumption) | assumption)) HC2_1.out
       (try simp only [hyji7] at hcut100 hA100 hC100)
       have HR168 := am (Kd.C_of_reads (h1 := fun _ => rfl) (hA100 _ (Kd.reads_of_C HR2_1.out)))
       have HC168 := Aside0.mk hC100
       clear hA100 hC100 hi0100 hsz100
       obtain ⟨i0101, hi0101, _, hsz101, _⟩ := info_parts info90
       obtain ⟨hcut101, hA101, hC101⟩ := print_take_of (P := Tryd.prog) (Value.int .u64) 0 23 90 .i64 Tryd.underlying23 hi0101 hsz101 A3_1 c3_1 l3_1 (ji10) (of_decide_eq_true (by first | (with_reducible assumption) | assumption)) (of_decide_eq_true (by first | (with_reducible assumption) | assumption)) HC3_1.out
       (try simp only [hyji10] at hcut101 hA101 hC101)
       have HR169 := am (Kd.C_of_reads (h1 := fun _ => rfl) (hA101 _ (Kd.reads_of_C HR3_1.out)))
       have HC169 := Aside0.mk hC101
       clear hA101 hC101 hi0101 hsz101
       refine startG_ (n := 21) [(fun w' => w'.cell? ⟨gb163, 0, none⟩ = some (.int .i64 a2_0) ∧ w'.cell? ⟨gb163, 1, none⟩ = some (.slice A2_1 l2_1.length c2_1), [18, 20]), (fun w' => w'.cell? ⟨gb164, 0, none⟩ = some (.int .i64 a3_0) ∧ w'.cell? ⟨gb164, 1, none⟩ = some (.slice A3_1 l3_1.length c3_1), [20])] #[F, F, F, F, F, F, F, F, F, F, F, F, F, F, F, F, F, F, F, F, F] (by kernel_rfl) rfl rfl ?_; refine with_tabG downpourlaw02_BlockOrder.tab1 downpourlaw02_BlockOrder.bits1 (fun HT_ HW_ => ?_)
       generalize w98.drew = w99 at BK163 BK164 HB ⊢
       -- TAB
       refine pureG_ (i := 0) (N := some 27) (v := ?_) (a' := ?_) #[T, F, F, F, F, F, F, F, F, F, F, F, F, F, F, F, F, F, F, F, F] rfl rfl (any_of HT_.out (by kernel_rfl)) (fun _ _ _ h => h) (Or.inl ⟨by rfl, ?_⟩) ?_ ?_
       rotate_left
       ·
        intro w'
        go_simp
        with_reducible rfl
       rotate_left
       ·
        simp only [Act.put, q1, q2, q3, i64_w, i32_w]
        rfl
       refine pureG_ (i := 2) (N := some 29) (v := ?_) (a' := ?_) #[T, F, T, F, F, F, F, F, F, F, F, F, F, F, F, F, F, F, F, F, F] rfl rfl (any_of HT_.out (by kernel_rfl)) (fun _ _ _ h => h) (Or.inl ⟨by rfl, ?_⟩) ?_ ?_
       rotate_left
       ·
        intro w'
        go_simp
        with_reducible rfl
       rotate_left
       ·
        simp only [Act.put, q1, q2, q3, i64_w, i32_w]
        rfl
       refine pureG_ (i := 4) (N := some 31) (v := ?_) (a' := ?_) #[T, F, T, F, T, F, F, F, F, F, F, F, F, F, F, F, F, F, F, F, F] rfl rfl (any_of HT_.out (by kernel_rfl)) (fun _ _ _ h => h) (Or.inl ⟨by rfl, ?_⟩) ?_ ?_
       rotate_left
       ·
        intro w'
        go_simp
        with_reducible rfl
       rotate_left
       ·
        simp only [Act.put, q1, q2, q3, i64_w, i32_w]
        rfl
       refine pureG_ (i := 9) (N := some 36) (v := ?_) (a' := ?_) #[T, F, T, F, T, F, F, F, F, T, F, F, F, F, F, F, F, F, F, F, F] rfl rfl (any_of HT_.out (by kernel_rfl)) (fun _ _ _ h => h) (Or.inl ⟨by rfl, ?_⟩) ?_ ?_
       rotate_left
       ·
        intro w'
        go_simp
        with_reducible rfl
       rotate_left
       ·
        simp only [Act.put, q1, q2, q3, i64_w, i32_w]
        rfl
       refine pureG_ (i := 11) (N := some 38) (v := ?_) (a' := ?_) #[T, F, T, F, T, F, F, F, F, T, F, T, F, F, F, F, F, F, F, F, F] rfl rfl (any_of HT_.out (by kernel_rfl)) (fun _ _ _ h => h) (Or.inl ⟨by rfl, ?_⟩) ?_ ?_
       rotate_left
       ·
        intro w'
        go_simp
        with_reducible rfl
       rotate_left
       ·
        simp only [Act.put, q1, q2, q3, i64_w, i32_w]
        rfl
       refine takeG_ (i := 3) (N := some 30) (v := ?_) (a' := ?_) (fun w' => w'.cell? ⟨gb163, 0, none⟩ = some (.int .i64 a2_0) ∧ w'.cell? ⟨gb163, 1, none⟩ = some (.slice A2_1 l2_1.length c2_1)) [18, 20] (.head _) #[T, F, T, T, T, F, F, F, F, T, F, T, F, F, F, F, F, F, F, F, F] rfl rfl (take_ofW HT_.out HW_.out (by kernel_rfl)) (fun _ _ _ h => h) (Or.inl ⟨by rfl, ?_⟩) ⟨(blk_cell BK163.out 0).trans rfl, (blk_cell BK163.out 1).trans rfl⟩ ?_ ?_
       rotate_left
       ·
        rintro w' ⟨s0, s1⟩
        go_simp
        with_reducible rfl
       rotate_left
       ·
        simp only [Act.put, q1, q2, q3, i64_w, i32_w]
        rfl
       refine takeG_ (i := 5) (N := some 32) (v := ?_) (a' := ?_) (fun w' => w'.cell? ⟨gb163, 0, none⟩ = some (.int .i64 a2_0) ∧ w'.cell? ⟨gb163, 1, none⟩ = some (.slice A2_1 l2_1.length c2_1)) [18, 20] (.head _) #[T, F, T, T, T, T, F, F, F, T, F, T, F, F, F, F, F, F, F, F, F] rfl rfl (take_ofW HT_.out HW_.out (by kernel_rfl)) (fun _ _ _ h => h) (Or.inl ⟨by rfl, ?_⟩) ⟨(blk_cell BK163.out 0).trans rfl, (blk_cell BK163.out 1).trans rfl⟩ ?_ ?_
       rotate_left
       ·
        rintro w' ⟨s0, s1⟩
        go_simp
        with_reducible rfl
       rotate_left
       ·
        simp only [Act.put, q1, q2, q3, i64_w, i32_w]
        rfl
       refine pureG_ (i := 6) (N := some 33) (v := ?_) (a' := ?_) #[T, F, T, T, T, T, T, F, F, T, F, T, F, F, F, F, F, F, F, F, F] rfl rfl (any_of HT_.out (by kernel_rfl)) (fun _ _ _ h => h) (Or.inl ⟨by rfl, ?_⟩) ?_ ?_
       rotate_left
       ·
        intro w'
        go_simp
        with_reducible rfl
       rotate_left
       ·
        simp only [Act.put, q1, q2, q3, i64_w, i32_w]
        rfl
       refine pureG_ (i := 7) (N := some 34) (v := ?_) (a' := ?_) #[T, F, T, T, T, T, T, T, F, T, F, T, F, F, F, F, F, F, F, F, F] rfl rfl (any_of HT_.out (by kernel_rfl)) (fun _ _ _ h => h) (Or.inl ⟨by rfl, ?_⟩) ?_ ?_
       rotate_left
       ·
        intro w'
        go_simp
        with_reducible rfl
       rotate_left
       ·
        simp only [Act.put, q1, q2, q3, i64_w, i32_w]
        rfl
       refine pureG_ (i := 8) (N := some 35) (v := ?_) (a' := ?_) #[T, F, T, T, T, T, T, T, T, T, F, T, F, F, F, F, F, F, F, F, F] rfl rfl (any_of HT_.out (by kernel_rfl)) (fun _ _ _ h => h) (Or.inl ⟨by rfl, ?_⟩) ?_ ?_
       rotate_left
       ·
        intro w'
        go_simp
        with_reducible rfl
       rotate_left
       ·
        simp only [Act.put, q1, q2, q3, i64_w, i32_w]
        rfl
       refine takeG_ (i := 10) (N := some 37) (v := ?_) (a' := ?_) (fun w' => w'.cell? ⟨gb164, 0, none⟩ = some (.int .i64 a3_0) ∧ w'.cell? ⟨gb164, 1, none⟩ = some (.slice A3_1 l3_1.length c3_1)) [20] (.tail _ (.head _)) #[T, F, T, T, T, T, T, T, T, T, T, T, F, F, F, F, F, F, F, F, F] rfl rfl (take_ofW HT_.out HW_.out (by kernel_rfl)) (fun _ _ _ h => h) (Or.inl ⟨by rfl, ?_⟩) ⟨(blk_cell BK164.out 0).trans rfl, (blk_cell BK164.out 1).trans rfl⟩ ?_ ?_
       rotate_left
       ·
        rintro w' ⟨s0, s1⟩
        go_simp
        with_reducible rfl
       rotate_left
       ·
        simp only [Act.put, q1, q2, q3, i64_w, i32_w]
        rfl
       refine takeG_ (i := 12) (N := some 39) (v := ?_) (a' := ?_) (fun w' => w'.cell? ⟨gb164, 0, none⟩ = some (.int .i64 a3_0) ∧ w'.cell? ⟨gb164, 1, none⟩ = some (.slice A3_1 l3_1.length c3_1)) [20] (.tail _ (.head _)) #[T, F, T, T, T, T, T, T, T, T, T, T, T, F, F, F, F, F, F, F, F] rfl rfl (take_ofW HT_.out HW_.out (by kernel_rfl)) (fun _ _ _ h => h) (Or.inl ⟨by rfl, ?_⟩) ⟨(blk_cell BK164.out 0).trans rfl, (blk_cell BK164.out 1).trans rfl⟩ ?_ ?_
       rotate_left
       ·
        rintro w' ⟨s0, s1⟩
        go_simp
        with_reducible rfl
       rotate_left
       ·
        simp only [Act.put, q1, q2, q3, i64_w, i32_w]
        rfl
       refine pureG_ (i := 13) (N := some 40) (v := ?_) (a' := ?_) #[T, F, T, T, T, T, T, T, T, T, T, T, T, T, F, F, F, F, F, F, F] rfl rfl (any_of HT_.out (by kernel_rfl)) (fun _ _ _ h => h) (Or.inl ⟨by rfl, ?_⟩) ?_ ?_
       rotate_left
       ·
        intro w'
        go_simp
        with_reducible rfl
       rotate_left
       ·
        simp only [Act.put, q1, q2, q3, i64_w, i32_w]
        rfl
       refine pureG_ (i := 14) (N := some 41) (v := ?_) (a' := ?_) #[T, F, T, T, T, T, T, T, T, T, T, T, T, T, T, F, F, F, F, F, F] rfl rfl (any_of HT_.out (by kernel_rfl)) (fun _ _ _ h => h) (Or.inl ⟨by rfl, ?_⟩) ?_ ?_
       rotate_left
       ·
        intro w'
        go_simp
        with_reducible rfl
       rotate_left
       ·
        simp only [Act.put, q1, q2, q3, i64_w, i32_w]
        rfl
       refine pureG_ (i := 15) (N := some 42) (v := ?_) (a' := ?_) #[T, F, T, T, T, T, T, T, T, T, T, T, T, T, T, T, F, F, F, F, F] rfl rfl (any_of HT_.out (by kernel_rfl)) (fun _ _ _ h => h) (Or.inl ⟨by rfl, ?_⟩) ?_ ?_
       rotate_left
       ·
        intro w'
        go_simp
        with_reducible rfl
       rotate_left
       ·
        simp only [Act.put, q1, q2, q3, i64_w, i32_w]
        rfl
       refine oneG_ (i := 1) (N := some 28) #[T, T, T, T, T, T, T, T, T, T, T, T, T, T, T, T, F, F, F, F, F] rfl rfl (one_of HT_.out (by kernel_rfl)) (fun K hK => ?_)
       refine goes_ Tryd.func11 (by kernel_rfl) rfl #[.slice A1 l1.length c1] (by rfl) rfl rfl (by (try simp only [List.map_toArray, List.map_cons, List.map_nil]); first | done | rfl | (simp only [List.length_drop, List.length_take]; rfl)) ?_
       with_reducible refine (downpourlaw02_few.calls k _ _ l1 t165 _ ?side1 ?side2 A6.out).mono ?_
       (case side1 => repeat (first | exact (Kd.C_below HR1.out HB.out) | (with_reducible refine Kd.C_alloc ?_ _) | (with_reducible refine Kd.C_drewN ?_ _) | (with_reducible refine Kd.C_drew ?_)))
       (case side2 => exact HC1.out)
       rintro e w102 ⟨v166, rfl, ho0, hb⟩
       refine ⟨_, rfl, ?_⟩
       have n0_ := am (Kd.R_lower ho0 (below_size (pb HB)))
       have n1_ := bb BK163 hb
       have n2_ := bb BK164 hb
       have n3_ := am (below_step (pb HB) hb)
       clear BK163
       clear BK164
       clear HB
       have HO167 := n0_
       have BK163 := n1_
       have BK164 := n2_
       have HB := n3_
       clear n0_ n1_ n2_ n3_
       (try clear hb)
       (try clear hb2)
       (try clear hk)
       (try clear hi)
       (try clear ho0)
       refine hK.out _ _ (Goes.cons ⟨(blk_cell BK163.out 0).trans rfl, (blk_cell BK163.out 1).trans rfl⟩ (Goes.cons ⟨(blk_cell BK164.out 0).trans rfl, (blk_cell BK164.out 1).trans rfl⟩ Goes.nil)) ?_
       clear hK K
       refine normG_ (a' := ?_) ?_ ?_
       rotate_left
       ·
        show Act.put _ (some 28) _ = _
        simp only [Act.put, q1, q2, q3, i64_w, i32_w]
        rfl
       refine pureG_ (i := 16) (N := some 1) (v := ?_) (a' := ?_) #[T, T, T, T, T, T, T, T, T, T, T, T, T, T, T, T, T, F, F, F, F] rfl rfl (any_of HT_.out (by kernel_rfl)) (fun _ _ _ h => h) (Or.inl ⟨by rfl, ?_⟩) ?_ ?_
       rotate_left
       ·
        intro w'
        go_simp
        with_reducible rfl
       rotate_left
       ·
        simp only [Act.put, q1, q2, q3, i64_w, i32_w]
        rfl
       refine pureG_ (i := 17) (N := some 43) (v := ?_) (a' := ?_) #[T, T, T, T, T, T, T, T, T, T, T, T, T, T, T, T, T, T, F, F, F] rfl rfl (any_of HT_.out (by kernel_rfl)) (fun _ _ _ h => h) (Or.inl ⟨by rfl, ?_⟩) ?_ ?_
       rotate_left
       ·
        intro w'
        go_simp
        with_reducible rfl
       rotate_left
       ·
        simp only [Act.put, q1, q2, q3, i64_w, i32_w]
        rfl
       refine oneG_ (i := 18) (N := none) #[T, T, T, T, T, T, T, T, T, T, T, T, T, T, T, T, T, T, T, F, F] rfl rfl (one_of HT_.out (by kernel_rfl)) (fun K hK => ?_)
       have hs103 : w102.cell? ⟨gb163, 1, none⟩ = some (.slice A2_1 l2_1.length c2_1) := (blk_cell BK163.out 1).trans rfl
       have hfs103 := blk_frozen BK163.out 1
       have hns103_1 := NB164_163.out
       have hms103_1 := NB163_164.out
       refine skip_ (w1 := ?_) (by rfl) rfl ?_ ?_
       rotate_left
       ·
        go_simp
        rfl
       refine hK.out _ _ (Goes.skip (by decide) (Goes.cons ⟨((cell_far (p := ⟨gb163, _, none⟩) NB164_163.out _).trans ((blk_cell BK164.out 0).trans rfl)), ((cell_far (p := ⟨gb163, _, none⟩) NB164_163.out _).trans ((blk_cell BK164.out 1).trans rfl))⟩ Goes.nil)) ?_
       clear hK K
       refine pureG_ (i := 19) (N := some 44) (v := ?_) (a' := ?_) #[T, T, T, T, T, T, T, T, T, T, T, T, T, T, T, T, T, T, T, T, F] rfl rfl (any_of HT_.out (by kernel_rfl)) (fun _ _ _ h => h) (Or.inl ⟨by rfl, ?_⟩) ?_ ?_
       rotate_left
       ·
        intro w'
        go_simp
        with_reducible rfl
       rotate_left
       ·
        simp only [Act.put, q1, q2, q3, i64_w, i32_w]
        rfl
       refine oneG_ (i := 20) (N := none) #[T, T, T, T, T, T, T, T, T, T, T, T, T, T, T, T, T, T, T, T, T] rfl rfl (one_of HT_.out (by kernel_rfl)) (fun K hK => ?_)
       have hs104 : w102.cell? ⟨gb164, 1, none⟩ = some (.slice A3_1 l3_1.length c3_1) := (blk_cell BK164.out 1).trans rfl
       have hfs104 := blk_frozen BK164.out 1
       have hns104_0 := NB163_164.out
       have hms104_0 := NB164_163.out
       refine skip_ (w1 := ?_) (by rfl) rfl ?_ ?_
       rotate_left
       ·
        go_simp
        rfl
       refine hK.out _ _ (Goes.skip (by decide) (Goes.skip (by decide) Goes.nil)) ?_
       clear hK K
       refine doneG_ (done_of HT_.out (by kernel_rfl)) ?_
       obtain ⟨Ao105, co105, eo105⟩ := Kd.R_slice HO167.out
       subst eo105
       try go_wp2_with (first | ((with_reducible refine gate_callee (f := 32) rfl ?_); refine goesL_ (some 48) rfl rfl Tryd.func32 (by kernel_rfl) rfl #[.int .i64 a0, .slice Ao105 t165.length co105] rfl (by (try simp only [List.map_toArray, List.map_cons, List.map_nil]); first | done | rfl | (simp only [List.length_drop, List.length_take]; rfl)) ?_; (with_reducible refine (block_Sum.calls k a0 _ _ t165 t170 t171 _ ?side1 ?side2 A13.out).mono ?_); (case side1 => refine (Kd.R_reads' (e := 9) (base := w.heap.size) (ok := fun k_ => True) (n := t165.length) (c := co105) ?_).2.2; exact (by (with_reducible repeat (first | apply Kd.R_alloc | apply Kd.R_drewN | apply Kd.R_drew)); exact (Kd.R_mono (Kd.R_mono (Kd.R_far (p := ⟨gb164, 1, none⟩) (Kd.R_far (p := ⟨gb163, 1, none⟩) (Kd.R_types (Kd.R_types HO167.out BK163.out (by decide)) BK164.out (by decide)) (fun _ hk => hk.1.2) (.slice A2_1 yji7.length c2_1)) (fun _ hk => hk.2) (.slice A3_1 yji10.length c3_1)) (fun _ h_ => h_.1)) (fun _ h_ => h_.1)))); (case side2 => exact (Kd.R_reads' HO167.out).2.1); rintro e w106 ⟨rfl, hb⟩; refine ⟨_, rfl, ?_⟩; have n0_ := am (Kd.R_below (by (with_reducible repeat (first | apply Kd.R_alloc | apply Kd.R_drewN | apply Kd.R_drew)); exact (Kd.R_mono (Kd.R_mono (Kd.R_far (p := ⟨gb164, 1, none⟩) (Kd.R_far (p := ⟨gb163, 1, none⟩) (Kd.R_types (Kd.R_types HO167.out BK163.out (by decide)) BK164.out (by decide)) (fun _ hk => hk.1.2) (.slice A2_1 yji7.length c2_1)) (fun _ hk => hk.2) (.slice A3_1 yji10.length c3_1)) (fun _ h_ => h_.1)) (fun _ h_ => h_.1))) hb); have n1_ := am (blk_below (g := gb163) (o := .cells #[.int .i64 a2_0, .slice A2_1 yji7.length c2_1] 25 (0, 0)) (by (with_reducible repeat (first | refine blk_drewN ?_ _ | refine blk_drew ?_ | refine blk_alloc ?_ _)); refine blk_far ?_ NB163_164.out _; (with_reducible repeat (first | refine blk_drewN ?_ _ | refine blk_drew ?_ | refine blk_alloc ?_ _)); refine blk_put (cs := #[.int .i64 a2_0, .slice A2_1 l2_1.length c2_1]) ?_ 1 _ rfl; (with_reducible repeat (first | refine blk_drewN ?_ _ | refine blk_drew ?_ | refine blk_alloc ?_ _)); exact BK163.out) hb); have n2_ := am (blk_below (g := gb164) (o := .cells #[.int .i64 a3_0, .slice A3_1 yji10.length c3_1] 25 (0, 0)) (by (with_reducible repeat (first | refine blk_drewN ?_ _ | refine blk_drew ?_ | refine blk_alloc ?_ _)); refine blk_put (cs := #[.int .i64 a3_0, .slice A3_1 l3_1.length c3_1]) ?_ 1 _ rfl; (with_reducible repeat (first | refine blk_drewN ?_ _ | refine blk_drew ?_ | refine blk_alloc ?_ _)); refine blk_far ?_ NB164_163.out _; (with_reducible repeat (first | refine blk_drewN ?_ _ | refine blk_drew ?_ | refine blk_alloc ?_ _)); exact BK164.out) hb); have n3_ := am (below_step (pb HB) hb); clear HO167 BK163 BK164 HB; have HO167 := n0_; have BK163 := n1_; have BK164 := n2_; have HB := n3_; clear n0_ n1_ n2_ n3_; (try clear hb); (try clear hb2); (try clear hk); (try clear hi)) | ((with_reducible refine gate_callee (f := 14) rfl ?_); refine goesL_ (some 53) rfl rfl Tryd.func14 (by kernel_rfl) rfl #[] rfl (by (try simp only [List.map_toArray, List.map_cons, List.map_nil]); first | done | rfl | (simp only [List.length_drop, List.length_take]; rfl)) ?_; (with_reducible refine (downpourlaw02_alive.calls k  true _ A95.out).mono ?_); rintro e w107 ⟨rfl, hb⟩; refine ⟨_, rfl, ?_⟩; have n0_ := am (Kd.R_below (pr HO167) hb); have n1_ := bb BK163 hb; have n2_ := bb BK164 hb; have n3_ := am (below_step (pb HB) hb); clear HO167 BK163 BK164 HB; have HO167 := n0_; have BK163 := n1_; have BK164 := n2_; have HB := n3_; clear n0_ n1_ n2_ n3_; (try clear hb); (try clear hb2); (try clear hk); (try clear hi)))
       go_ret
       exact ⟨by first | rfl | (simp [errW_none, errW_some] <;> rfl) | (simp only [← hji7, ← hji10]; first | rfl | (simp [errW_none, errW_some] <;> rfl)) | (simp [*, errW_none, errW_some] <;> rfl), pb HB⟩
      ·
       replace c96 := Bool.eq_false_iff.mpr c96
       subst c96
       have H1 : (none) = some r := by rw [if_neg (show ¬ (false = true) by decide)] at H; exact H
       clear H
       have H := H1
       clear H1
       exact absurd H (by simp)
    ·
     rw [if_neg c12] at H
     exact absurd H (by simp)
   ·
    rw [if_neg c11] at H
    exact absurd H (by simp)
  ·
   rw [if_neg c9] at H
   exact absurd H (by simp)
 ·
  rw [if_neg c8] at H
  exact absurd H (by simp)

end Go.Proofs.YtfcedhejbnoinaaDoor.PE
