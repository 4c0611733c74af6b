-- PRINTED by print.py (a twelfth state) out of the translation. Not trusted: Lean checks it.
import Derived.Test.YtfcedhejbnoinaaDoorPAx0
import Derived.Test.YtfcedhejbnoinaaDoorPAx1
import Derived.Test.YtfcedhejbnoinaaDoorPAx2
namespace Go.Proofs.YtfcedhejbnoinaaDoor.PA
open Go.RowKit Go.Proofs.YtfcedhejbnoinaaDoorW.PrintWords Go.Proofs.YtfcedhejbnoinaaDoorW.PrintLast Go.Proofs.YtfcedhejbnoinaaDoorW.PrintMore
open Bool renaming true → T, false → F
open List renaming setIfInBounds_toArray → q1, set_cons_zero → q2, set_cons_succ → q3
attribute [local go_sem] run_store_func max2_int min2_int max_two min_two max_three min_three max_four min_four   -- for this text's walks alone
set_option linter.unusedVariables false
set_option linter.unusedSimpArgs false

/-! ### downpourlaw01_BitrowTells: function 4 -/
mutual
def downpourlaw01_BitrowTells.j0 : Nat → Int → Int → Int → Int → Int → List Int → Bool → Int → List Int → Option (Bool)
 | 0, _, _, _, _, _, _, _, _, _ => none
 | k + 1, x1, x7, x8, x11, x12, x13, x94, x158000, x158001 => if x94 = true then (none) else (if (x13.length : Int) = 0 then (if x8 = 4 then (if x7 = 0 then (downpourlaw01_BitrowTells.j1 k x1 x11 x12 false x158000 x158001) else (downpourlaw01_BitrowTells.j1 k x1 x11 x12 true x158000 x158001)) else (downpourlaw01_BitrowTells.j1 k x1 x11 x12 true x158000 x158001)) else (if x8 = 0 then (if 0 < (x13.length : Int) then (downpourlaw01_BitrowTells.j1 k x1 x11 x12 (x7 != (rd x13 0)) x158000 x158001) else (none)) else (downpourlaw01_BitrowTells.j1 k x1 x11 x12 true x158000 x158001)))
def downpourlaw01_BitrowTells.j1 : Nat → Int → Int → Int → Bool → Int → List Int → Option (Bool)
 | 0, _, _, _, _, _, _ => none
 | k + 1, x1, x11, x12, x121, x158000, x158001 => if x121 = true then (none) else (if x1 < 0 then (if x12 = 3 then (some (x11 == 0)) else (none)) else (if x1 ≥ x158000 then (if x12 = 3 then (some (x11 == 0)) else (none)) else (if x12 = 0 then ((downpourref01_Bit.f x158000 x158001 x1).bind fun t180 => (some (x11 == t180))) else (none))))
end
def downpourlaw01_BitrowTells.f (k : Nat) (a0_0 : Int) (l0_1 : List Int) (a1 : Int) : Option (Bool) := (downpourlaw01_few.f a0_0 l0_1).bind fun bt158 => ((bitrow_Places.f bt158.1 bt158.2).bind fun bt162 => ((bitrow_First.f bt158.1 bt158.2).bind fun bt166 => ((bitrow_Count.f k bt158.1 bt158.2).bind fun bt168 => ((bitrow_Get.f bt158.1 bt158.2 a1).bind fun bt170 => ((downpourref01_Right.f k bt158.1 bt158.2).bind fun t172 => (if t172 = true then ((downpourref01_Places.f k bt158.1 bt158.2).bind fun t174 => (if bt162.2 = 0 then (if bt168.2 = 0 then ((downpourref01_Numbers.f k bt162.1 t174).bind fun t177 => (if t177 = true then (if bt168.1 = (t174.length : Int) then ((downpourlaw01_alive.f k).bind fun t178 => (downpourlaw01_BitrowTells.j0 k a1 bt166.1 bt166.2 bt170.1 bt170.2 t174 (!t178) bt158.1 bt158.2)) else (downpourlaw01_BitrowTells.j0 k a1 bt166.1 bt166.2 bt170.1 bt170.2 t174 true bt158.1 bt158.2)) else (downpourlaw01_BitrowTells.j0 k a1 bt166.1 bt166.2 bt170.1 bt170.2 t174 true bt158.1 bt158.2))) else (downpourlaw01_BitrowTells.j0 k a1 bt166.1 bt166.2 bt170.1 bt170.2 t174 true bt158.1 bt158.2)) else (downpourlaw01_BitrowTells.j0 k a1 bt166.1 bt166.2 bt170.1 bt170.2 t174 true bt158.1 bt158.2))) else ((downpourlaw01_alive.f k).bind fun t173 => (if t173 = true then (if bt162.2 = 1 then (if bt166.2 = 1 then (if bt168.2 = 1 then (if bt170.2 = 1 then (if (bt162.1.length : Int) = 0 then (some ((wrap64 ((wrap64 (bt166.1 + bt168.1)) + bt170.1)) == 0)) else (none)) else (none)) else (none)) else (none)) else (none)) else (none)))))))))
theorem downpourlaw01_BitrowTells.mono_l : ∀ k, (∀ y0 y1 y2 y3 y4 y5 y6 y7 y8, LeO (downpourlaw01_BitrowTells.j0 k y0 y1 y2 y3 y4 y5 y6 y7 y8) (downpourlaw01_BitrowTells.j0 (k + 1) y0 y1 y2 y3 y4 y5 y6 y7 y8)) ∧ (∀ y0 y1 y2 y3 y4 y5, LeO (downpourlaw01_BitrowTells.j1 k y0 y1 y2 y3 y4 y5) (downpourlaw01_BitrowTells.j1 (k + 1) y0 y1 y2 y3 y4 y5))
 | 0 => ⟨fun _ _ _ _ _ _ _ _ _ r h => by simp [downpourlaw01_BitrowTells.j0] at h, fun _ _ _ _ _ _ r h => by simp [downpourlaw01_BitrowTells.j1] at h⟩
 | k + 1 => by
  obtain ⟨ih0, ih1⟩ := downpourlaw01_BitrowTells.mono_l k
  refine ⟨?_, ?_⟩
  ·
   intro y0 y1 y2 y3 y4 y5 y6 y7 y8
   unfold downpourlaw01_BitrowTells.j0
   repeat' first
   | (with_reducible exact ih0 _ _ _ _ _ _ _ _ _)
   | (with_reducible exact ih1 _ _ _ _ _ _)
   | (with_reducible exact bitrow_Count.mono _ _ _)
   | (with_reducible exact downpourlaw01_alive.mono _)
   | (with_reducible exact downpourref01_Numbers.mono _ _ _)
   | (with_reducible exact downpourref01_Places.mono _ _ _)
   | (with_reducible exact downpourref01_Right.mono _ _ _)
   | (with_reducible exact LeO.refl _)
   | (with_reducible exact LeO.none _)
   | (with_reducible refine LeO.ite ?_ ?_)
   | (with_reducible refine LeO.bind ?_ (fun _ => ?_))
   | exact ih0 _ _ _ _ _ _ _ _ _
   | exact ih1 _ _ _ _ _ _
   | exact bitrow_Count.mono _ _ _
   | exact downpourlaw01_alive.mono _
   | exact downpourref01_Numbers.mono _ _ _
   | exact downpourref01_Places.mono _ _ _
   | exact downpourref01_Right.mono _ _ _
   | exact LeO.none _
   | refine LeO.ite ?_ ?_
   | refine LeO.bind ?_ (fun _ => ?_)
  ·
   intro y0 y1 y2 y3 y4 y5
   unfold downpourlaw01_BitrowTells.j1
   repeat' first
   | (with_reducible exact ih0 _ _ _ _ _ _ _ _ _)
   | (with_reducible exact ih1 _ _ _ _ _ _)
   | (with_reducible exact bitrow_Count.mono _ _ _)
   | (with_reducible exact downpourlaw01_alive.mono _)
   | (with_reducible exact downpourref01_Numbers.mono _ _ _)
   | (with_reducible exact downpourref01_Places.mono _ _ _)
   | (with_reducible exact downpourref01_Right.mono _ _ _)
   | (with_reducible exact LeO.refl _)
   | (with_reducible exact LeO.none _)
   | (with_reducible refine LeO.ite ?_ ?_)
   | (with_reducible refine LeO.bind ?_ (fun _ => ?_))
   | exact ih0 _ _ _ _ _ _ _ _ _
   | exact ih1 _ _ _ _ _ _
   | exact bitrow_Count.mono _ _ _
   | exact downpourlaw01_alive.mono _
   | exact downpourref01_Numbers.mono _ _ _
   | exact downpourref01_Places.mono _ _ _
   | exact downpourref01_Right.mono _ _ _
   | exact LeO.none _
   | refine LeO.ite ?_ ?_
   | refine LeO.bind ?_ (fun _ => ?_)
theorem downpourlaw01_BitrowTells.mono : ∀ a0 a1 a2 k, LeO (downpourlaw01_BitrowTells.f k a0 a1 a2) (downpourlaw01_BitrowTells.f (k + 1) a0 a1 a2) := by
 intro a0 a1 a2 k
 obtain ⟨ih0, ih1⟩ := downpourlaw01_BitrowTells.mono_l k
 unfold downpourlaw01_BitrowTells.f
 repeat' first
   | (with_reducible exact ih0 _ _ _ _ _ _ _ _ _)
   | (with_reducible exact ih1 _ _ _ _ _ _)
   | (with_reducible exact bitrow_Count.mono _ _ _)
   | (with_reducible exact downpourlaw01_alive.mono _)
   | (with_reducible exact downpourref01_Numbers.mono _ _ _)
   | (with_reducible exact downpourref01_Places.mono _ _ _)
   | (with_reducible exact downpourref01_Right.mono _ _ _)
   | (with_reducible exact LeO.refl _)
   | (with_reducible exact LeO.none _)
   | (with_reducible refine LeO.ite ?_ ?_)
   | (with_reducible refine LeO.bind ?_ (fun _ => ?_))
   | exact ih0 _ _ _ _ _ _ _ _ _
   | exact ih1 _ _ _ _ _ _
   | exact bitrow_Count.mono _ _ _
   | exact downpourlaw01_alive.mono _
   | exact downpourref01_Numbers.mono _ _ _
   | exact downpourref01_Places.mono _ _ _
   | exact downpourref01_Right.mono _ _ _
   | exact LeO.none _
   | refine LeO.ite ?_ ?_
   | refine LeO.bind ?_ (fun _ => ?_)
set_option maxHeartbeats 8000000 in
set_option maxRecDepth 100000 in
theorem downpourlaw01_BitrowTells.calls (k : Nat) (a0_0 : Int) (A0_1 : Option Addr) (c0_1 : Nat) (l0_1 : List Int) (a1 : Int) (r : Bool) (w : World) (hT_ : TabOk w) (hr0_1 : Kd.C (Kd.int .u64) w A0_1 l0_1.length l0_1) (hc0_1 : l0_1.length ≤ c0_1) (h : downpourlaw01_BitrowTells.f k a0_0 l0_1 a1 = some r) :
  Calls Tryd.prog 4 #[.agg #[.int .i64 a0_0, .slice A0_1 l0_1.length c0_1], .int .i64 a1] w fun e w' => e = .returned (.bool r) ∧ Below w.heap.size w w' := by
 have hu25 := Tryd.underlying25
 have HR0_1 := Aside0.mk hr0_1
 have HC0_1 := Aside0.mk hc0_1
 clear hr0_1 hc0_1
 have HT := Aside0.mk hT_
 clear hT_
 have HB := am (Below.refl w.heap.size w)
 have H : ((downpourlaw01_few.f a0_0 l0_1).bind fun bt158 => ((bitrow_Places.f bt158.1 bt158.2).bind fun bt162 => ((bitrow_First.f bt158.1 bt158.2).bind fun bt166 => ((bitrow_Count.f k bt158.1 bt158.2).bind fun bt168 => ((bitrow_Get.f bt158.1 bt158.2 a1).bind fun bt170 => ((downpourref01_Right.f k bt158.1 bt158.2).bind fun t172 => (if t172 = true then ((downpourref01_Places.f k bt158.1 bt158.2).bind fun t174 => (if bt162.2 = 0 then (if bt168.2 = 0 then ((downpourref01_Numbers.f k bt162.1 t174).bind fun t177 => (if t177 = true then (if bt168.1 = (t174.length : Int) then ((downpourlaw01_alive.f k).bind fun t178 => (downpourlaw01_BitrowTells.j0 k a1 bt166.1 bt166.2 bt170.1 bt170.2 t174 (!t178) bt158.1 bt158.2)) else (downpourlaw01_BitrowTells.j0 k a1 bt166.1 bt166.2 bt170.1 bt170.2 t174 true bt158.1 bt158.2)) else (downpourlaw01_BitrowTells.j0 k a1 bt166.1 bt166.2 bt170.1 bt170.2 t174 true bt158.1 bt158.2))) else (downpourlaw01_BitrowTells.j0 k a1 bt166.1 bt166.2 bt170.1 bt170.2 t174 true bt158.1 bt158.2)) else (downpourlaw01_BitrowTells.j0 k a1 bt166.1 bt166.2 bt170.1 bt170.2 t174 true bt158.1 bt158.2))) else ((downpourlaw01_alive.f k).bind fun t173 => (if t173 = true then (if bt162.2 = 1 then (if bt166.2 = 1 then (if bt168.2 = 1 then (if bt170.2 = 1 then (if (bt162.1.length : Int) = 0 then (some ((wrap64 ((wrap64 (bt166.1 + bt168.1)) + bt170.1)) == 0)) else (none)) else (none)) else (none)) else (none)) else (none)) else (none)))))))))) = some r := h
 clear h
 replace H := Option.bind_eq_some_iff.mp H
 obtain ⟨⟨t158, t159⟩, A30, H⟩ := H
 replace H : ((bitrow_Places.f t158 t159).bind fun bt162 => ((bitrow_First.f t158 t159).bind fun bt166 => ((bitrow_Count.f k t158 t159).bind fun bt168 => ((bitrow_Get.f t158 t159 a1).bind fun bt170 => ((downpourref01_Right.f k t158 t159).bind fun t172 => (if t172 = true then ((downpourref01_Places.f k t158 t159).bind fun t174 => (if bt162.2 = 0 then (if bt168.2 = 0 then ((downpourref01_Numbers.f k bt162.1 t174).bind fun t177 => (if t177 = true then (if bt168.1 = (t174.length : Int) then ((downpourlaw01_alive.f k).bind fun t178 => (downpourlaw01_BitrowTells.j0 k a1 bt166.1 bt166.2 bt170.1 bt170.2 t174 (!t178) t158 t159)) else (downpourlaw01_BitrowTells.j0 k a1 bt166.1 bt166.2 bt170.1 bt170.2 t174 true t158 t159)) else (downpourlaw01_BitrowTells.j0 k a1 bt166.1 bt166.2 bt170.1 bt170.2 t174 true t158 t159))) else (downpourlaw01_BitrowTells.j0 k a1 bt166.1 bt166.2 bt170.1 bt170.2 t174 true t158 t159)) else (downpourlaw01_BitrowTells.j0 k a1 bt166.1 bt166.2 bt170.1 bt170.2 t174 true t158 t159))) else ((downpourlaw01_alive.f k).bind fun t173 => (if t173 = true then (if bt162.2 = 1 then (if bt166.2 = 1 then (if bt168.2 = 1 then (if bt170.2 = 1 then (if (bt162.1.length : Int) = 0 then (some ((wrap64 ((wrap64 (bt166.1 + bt168.1)) + bt170.1)) == 0)) else (none)) else (none)) else (none)) else (none)) else (none)) else (none))))))))) = some r := H
 have A3 := Aside0.mk A30
 clear A30
 replace H := Option.bind_eq_some_iff.mp H
 obtain ⟨⟨t162, t165⟩, A40, H⟩ := H
 replace H : ((bitrow_First.f t158 t159).bind fun bt166 => ((bitrow_Count.f k t158 t159).bind fun bt168 => ((bitrow_Get.f t158 t159 a1).bind fun bt170 => ((downpourref01_Right.f k t158 t159).bind fun t172 => (if t172 = true then ((downpourref01_Places.f k t158 t159).bind fun t174 => (if t165 = 0 then (if bt168.2 = 0 then ((downpourref01_Numbers.f k t162 t174).bind fun t177 => (if t177 = true then (if bt168.1 = (t174.length : Int) then ((downpourlaw01_alive.f k).bind fun t178 => (downpourlaw01_BitrowTells.j0 k a1 bt166.1 bt166.2 bt170.1 bt170.2 t174 (!t178) t158 t159)) else (downpourlaw01_BitrowTells.j0 k a1 bt166.1 bt166.2 bt170.1 bt170.2 t174 true t158 t159)) else (downpourlaw01_BitrowTells.j0 k a1 bt166.1 bt166.2 bt170.1 bt170.2 t174 true t158 t159))) else (downpourlaw01_BitrowTells.j0 k a1 bt166.1 bt166.2 bt170.1 bt170.2 t174 true t158 t159)) else (downpourlaw01_BitrowTells.j0 k a1 bt166.1 bt166.2 bt170.1 bt170.2 t174 true t158 t159))) else ((downpourlaw01_alive.f k).bind fun t173 => (if t173 = true then (if t165 = 1 then (if bt166.2 = 1 then (if bt168.2 = 1 then (if bt170.2 = 1 then (if (t162.length : Int) = 0 then (some ((wrap64 ((wrap64 (bt166.1 + bt168.1)) + bt170.1)) == 0)) else (none)) else (none)) else (none)) else (none)) else (none)) else (none)))))))) = some r := H
 have A4 := Aside0.mk A40
 clear A40
 replace H := Option.bind_eq_some_iff.mp H
 obtain ⟨⟨t166, t167⟩, A50, H⟩ := H
 replace H : ((bitrow_Count.f k t158 t159).bind fun bt168 => ((bitrow_Get.f t158 t159 a1).bind fun bt170 => ((downpourref01_Right.f k t158 t159).bind fun t172 => (if t172 = true then ((downpourref01_Places.f k t158 t159).bind fun t174 => (if t165 = 0 then (if bt168.2 = 0 then ((downpourref01_Numbers.f k t162 t174).bind fun t177 => (if t177 = true then (if bt168.1 = (t174.length : Int) then ((downpourlaw01_alive.f k).bind fun t178 => (downpourlaw01_BitrowTells.j0 k a1 t166 t167 bt170.1 bt170.2 t174 (!t178) t158 t159)) else (downpourlaw01_BitrowTells.j0 k a1 t166 t167 bt170.1 bt170.2 t174 true t158 t159)) else (downpourlaw01_BitrowTells.j0 k a1 t166 t167 bt170.1 bt170.2 t174 true t158 t159))) else (downpourlaw01_BitrowTells.j0 k a1 t166 t167 bt170.1 bt170.2 t174 true t158 t159)) else (downpourlaw01_BitrowTells.j0 k a1 t166 t167 bt170.1 bt170.2 t174 true t158 t159))) else ((downpourlaw01_alive.f k).bind fun t173 => (if t173 = true then (if t165 = 1 then (if t167 = 1 then (if bt168.2 = 1 then (if bt170.2 = 1 then (if (t162.length : Int) = 0 then (some ((wrap64 ((wrap64 (t166 + bt168.1)) + bt170.1)) == 0)) else (none)) else (none)) else (none)) else (none)) else (none)) else (none))))))) = some r := H
 have A5 := Aside0.mk A50
 clear A50
 replace H := Option.bind_eq_some_iff.mp H
 obtain ⟨⟨t168, t169⟩, A60, H⟩ := H
 replace H : ((bitrow_Get.f t158 t159 a1).bind fun bt170 => ((downpourref01_Right.f k t158 t159).bind fun t172 => (if t172 = true then ((downpourref01_Places.f k t158 t159).bind fun t174 => (if t165 = 0 then (if t169 = 0 then ((downpourref01_Numbers.f k t162 t174).bind fun t177 => (if t177 = true then (if t168 = (t174.length : Int) then ((downpourlaw01_alive.f k).bind fun t178 => (downpourlaw01_BitrowTells.j0 k a1 t166 t167 bt170.1 bt170.2 t174 (!t178) t158 t159)) else (downpourlaw01_BitrowTells.j0 k a1 t166 t167 bt170.1 bt170.2 t174 true t158 t159)) else (downpourlaw01_BitrowTells.j0 k a1 t166 t167 bt170.1 bt170.2 t174 true t158 t159))) else (downpourlaw01_BitrowTells.j0 k a1 t166 t167 bt170.1 bt170.2 t174 true t158 t159)) else (downpourlaw01_BitrowTells.j0 k a1 t166 t167 bt170.1 bt170.2 t174 true t158 t159))) else ((downpourlaw01_alive.f k).bind fun t173 => (if t173 = true then (if t165 = 1 then (if t167 = 1 then (if t169 = 1 then (if bt170.2 = 1 then (if (t162.length : Int) = 0 then (some ((wrap64 ((wrap64 (t166 + t168)) + bt170.1)) == 0)) else (none)) else (none)) else (none)) else (none)) else (none)) else (none)))))) = some r := H
 have A6 := Aside0.mk A60
 clear A60
 replace H := Option.bind_eq_some_iff.mp H
 obtain ⟨⟨t170, t171⟩, A70, H⟩ := H
 replace H : ((downpourref01_Right.f k t158 t159).bind fun t172 => (if t172 = true then ((downpourref01_Places.f k t158 t159).bind fun t174 => (if t165 = 0 then (if t169 = 0 then ((downpourref01_Numbers.f k t162 t174).bind fun t177 => (if t177 = true then (if t168 = (t174.length : Int) then ((downpourlaw01_alive.f k).bind fun t178 => (downpourlaw01_BitrowTells.j0 k a1 t166 t167 t170 t171 t174 (!t178) t158 t159)) else (downpourlaw01_BitrowTells.j0 k a1 t166 t167 t170 t171 t174 true t158 t159)) else (downpourlaw01_BitrowTells.j0 k a1 t166 t167 t170 t171 t174 true t158 t159))) else (downpourlaw01_BitrowTells.j0 k a1 t166 t167 t170 t171 t174 true t158 t159)) else (downpourlaw01_BitrowTells.j0 k a1 t166 t167 t170 t171 t174 true t158 t159))) else ((downpourlaw01_alive.f k).bind fun t173 => (if t173 = true then (if t165 = 1 then (if t167 = 1 then (if t169 = 1 then (if t171 = 1 then (if (t162.length : Int) = 0 then (some ((wrap64 ((wrap64 (t166 + t168)) + t170)) == 0)) else (none)) else (none)) else (none)) else (none)) else (none)) else (none))))) = some r := H
 have A7 := Aside0.mk A70
 clear A70
 replace H := Option.bind_eq_some_iff.mp H
 obtain ⟨t172, A80, H⟩ := H
 replace H : (if t172 = true then ((downpourref01_Places.f k t158 t159).bind fun t174 => (if t165 = 0 then (if t169 = 0 then ((downpourref01_Numbers.f k t162 t174).bind fun t177 => (if t177 = true then (if t168 = (t174.length : Int) then ((downpourlaw01_alive.f k).bind fun t178 => (downpourlaw01_BitrowTells.j0 k a1 t166 t167 t170 t171 t174 (!t178) t158 t159)) else (downpourlaw01_BitrowTells.j0 k a1 t166 t167 t170 t171 t174 true t158 t159)) else (downpourlaw01_BitrowTells.j0 k a1 t166 t167 t170 t171 t174 true t158 t159))) else (downpourlaw01_BitrowTells.j0 k a1 t166 t167 t170 t171 t174 true t158 t159)) else (downpourlaw01_BitrowTells.j0 k a1 t166 t167 t170 t171 t174 true t158 t159))) else ((downpourlaw01_alive.f k).bind fun t173 => (if t173 = true then (if t165 = 1 then (if t167 = 1 then (if t169 = 1 then (if t171 = 1 then (if (t162.length : Int) = 0 then (some ((wrap64 ((wrap64 (t166 + t168)) + t170)) == 0)) else (none)) else (none)) else (none)) else (none)) else (none)) else (none)))) = some r := H
 have A8 := Aside0.mk A80
 clear A80
 by_cases c9 : t172 = true
 ·
  subst c9
  have H1 : ((downpourref01_Places.f k t158 t159).bind fun t174 => (if t165 = 0 then (if t169 = 0 then ((downpourref01_Numbers.f k t162 t174).bind fun t177 => (if t177 = true then (if t168 = (t174.length : Int) then ((downpourlaw01_alive.f k).bind fun t178 => (downpourlaw01_BitrowTells.j0 k a1 t166 t167 t170 t171 t174 (!t178) t158 t159)) else (downpourlaw01_BitrowTells.j0 k a1 t166 t167 t170 t171 t174 true t158 t159)) else (downpourlaw01_BitrowTells.j0 k a1 t166 t167 t170 t171 t174 true t158 t159))) else (downpourlaw01_BitrowTells.j0 k a1 t166 t167 t170 t171 t174 true t158 t159)) else (downpourlaw01_BitrowTells.j0 k a1 t166 t167 t170 t171 t174 true t158 t159))) = some r := by rw [if_pos rfl] at H; exact H
  clear H
  have H := H1
  clear H1
  replace H := Option.bind_eq_some_iff.mp H
  obtain ⟨t174, A100, H⟩ := H
  replace H : (if t165 = 0 then (if t169 = 0 then ((downpourref01_Numbers.f k t162 t174).bind fun t177 => (if t177 = true then (if t168 = (t174.length : Int) then ((downpourlaw01_alive.f k).bind fun t178 => (downpourlaw01_BitrowTells.j0 k a1 t166 t167 t170 t171 t174 (!t178) t158 t159)) else (downpourlaw01_BitrowTells.j0 k a1 t166 t167 t170 t171 t174 true t158 t159)) else (downpourlaw01_BitrowTells.j0 k a1 t166 t167 t170 t171 t174 true t158 t159))) else (downpourlaw01_BitrowTells.j0 k a1 t166 t167 t170 t171 t174 true t158 t159)) else (downpourlaw01_BitrowTells.j0 k a1 t166 t167 t170 t171 t174 true t158 t159)) = some r := H
  have A10 := Aside0.mk A100
  clear A100
  have HC11 := Aside0.mk H
  clear H
  go_enter Tryd.func4, Tryd.ntmps4
  go_upto_region 9 with (first | ((with_reducible refine gate_dst (N := 2) rfl ?_); (try (refine gate_guard (by rfl) ?_; dsimp only)); refine box_event ?hg (N := 2) ?hd (cs := #[.int .i64 a0_0, .slice A0_1 l0_1.length c0_1]) (t := 25) ?hr ?_; (case hd => rfl); (case hg => rfl); (case hr => first | (go_simp; done) | (go_simp; rfl)); intro gb157 hg w12 hbox hb; have n0_ := am (below_step (pb HB) hb); have n1_ := am (hbox); have n2_ := am ((by rw [hg]; exact (below_size (pb HB)) : w.heap.size ≤ gb157)); have n3_ := am ((by rw [hg]; exact (below_size (pb HB)) : w.heap.size ≤ gb157)); clear HB; have HB := n0_; have BK157 := n1_; have GW157 := n2_; have GE157 := n3_; clear n0_ n1_ n2_ n3_ hb hbox hg; have hcz13_0 : w12.cell? ⟨gb157, 0, none⟩ = some (.int .i64 a0_0) := (blk_cell BK157.out 0).trans rfl; have hcz13_1 : w12.cell? ⟨gb157, 1, none⟩ = some (.slice A0_1 l0_1.length c0_1) := (blk_cell BK157.out 1).trans rfl; have hfz13_0 := blk_frozen BK157.out 0; have hfz13_1 := blk_frozen BK157.out 1) | ((with_reducible refine gate_callee (f := 18) rfl ?_); refine goesL_ (some 16) rfl rfl Tryd.func18 (by kernel_rfl) rfl #[.agg #[.int .i64 a0_0, .slice A0_1 l0_1.length c0_1]] rfl (by (try simp only [List.map_toArray, List.map_cons, List.map_nil]); first | done | rfl | (simp only [List.length_drop, List.length_take]; rfl)) ?_; (with_reducible refine (downpourlaw01_few.calls a0_0 (fun k_ => k_ < w.heap.size) _ _ l0_1 t158 t159 _ ?side1 A3.out).mono ?_); (case side1 => exact Kd.V_mk HC0_1.out (Kd.F_below (Kd.C_F (Kd.heap_int .u64) HR0_1.out) (pb HB))); rintro e w14 ⟨v160, rfl, ho0, hb⟩; refine ⟨_, rfl, ?_⟩; have n0_ := am (Kd.V_lower (Kd.V_mono (ok' := fun k_ => k_ ≠ gb157) ho0 (fun k_ hk_ => Or.elim hk_ (fun hs_ => fun e_ => Nat.not_le.2 hs_ (by rw [e_]; exact GW157.out)) (fun hn_ => (Kd.freshB (g := gb157) (o := .cells #[.int .i64 a0_0, .slice A0_1 l0_1.length c0_1] 25 (0, 0)) (pk BK157) k_ hn_)))) (below_size (pb HB))); have n1_ := bb BK157 hb; have n2_ := am (below_step (pb HB) hb); clear BK157 HB; have HO161 := n0_; have BK157 := n1_; have HB := n2_; clear n0_ n1_ n2_; (try clear hb); (try clear hb2); (try clear hk); (try clear hi); (try clear ho0); have hcz15_0 : w14.cell? ⟨gb157, 0, none⟩ = some (.int .i64 a0_0) := (blk_cell BK157.out 0).trans rfl; have hcz15_1 : w14.cell? ⟨gb157, 1, none⟩ = some (.slice A0_1 l0_1.length c0_1) := (blk_cell BK157.out 1).trans rfl; have hfz15_0 := blk_frozen BK157.out 0; have hfz15_1 := blk_frozen BK157.out 1; obtain ⟨Ao16, co16, eo16⟩ := Kd.V_slice HO161.out; subst eo16) | ((with_reducible refine gate_callee (f := 19) rfl ?_); refine goesL_ (some 19) rfl rfl Tryd.func19 (by kernel_rfl) rfl #[.agg #[.int .i64 t158, .slice Ao16 t159.length co16]] rfl (by (try simp only [List.map_toArray, List.map_cons, List.map_nil]); first | done | rfl | (simp only [List.length_drop, List.length_take]; rfl)) ?_; (with_reducible refine (bitrow_Places.calls t158 _ _ t159 t162 t165 _ ?side3 ?side1 ?side2 A4.out).mono ?_); (case side1 => refine (Kd.V_reads' (e := 90) (base := w.heap.size) (ok := fun k_ => k_ ≠ gb157) (n := t159.length) (c := co16) ?_).2.2; exact (by (with_reducible repeat (first | apply Kd.V_alloc | apply Kd.V_drewN | apply Kd.V_drew)); exact (Kd.V_mono (Kd.V_far (p := ⟨gb157, 1, none⟩) (Kd.V_far (p := ⟨gb157, 0, none⟩) (Kd.V_mono HO161.out (fun k_ hk => (⟨hk, hk⟩ : _ ∧ k_ ≠ gb157))) (fun _ hk => hk.2) (.int .i64 t158)) (fun _ hk => hk.2) (.slice Ao16 t159.length co16)) (fun _ h_ => h_.1)))); (case side2 => exact (Kd.V_reads' HO161.out).2.1); (case side3 => exact TabOk.below HT.out (pb HB)); rintro e w17 ⟨v163, rfl, ho0, hb⟩; refine ⟨_, rfl, ?_⟩; have n0_ := am (Kd.V_elder' (by (with_reducible repeat (first | apply Kd.V_alloc | apply Kd.V_drewN | apply Kd.V_drew)); exact (Kd.V_mono (Kd.V_far (p := ⟨gb157, 1, none⟩) (Kd.V_far (p := ⟨gb157, 0, none⟩) (Kd.V_mono HO161.out (fun k_ hk => (⟨hk, hk⟩ : _ ∧ k_ ≠ gb157))) (fun _ hk => hk.2) (.int .i64 t158)) (fun _ hk => hk.2) (.slice Ao16 t159.length co16)) (fun _ h_ => h_.1))) (Kd.R_base ho0) hb); have n1_ := am (Kd.R_lower ho0 (below_size (pb HB))); have n2_ := am (blk_below (g := gb157) (o := .cells #[.int .i64 t158, .slice Ao16 t159.length co16] 25 (0, 0)) (by (with_reducible repeat (first | refine blk_drewN ?_ _ | refine blk_drew ?_ | refine blk_alloc ?_ _)); refine blk_put (cs := #[.int .i64 t158, .slice A0_1 l0_1.length c0_1]) ?_ 1 _ rfl; (with_reducible repeat (first | refine blk_drewN ?_ _ | refine blk_drew ?_ | refine blk_alloc ?_ _)); refine blk_put (cs := #[.int .i64 a0_0, .slice A0_1 l0_1.length c0_1]) ?_ 0 _ rfl; (with_reducible repeat (first | refine blk_drewN ?_ _ | refine blk_drew ?_ | refine blk_alloc ?_ _)); exact BK157.out) hb); have n3_ := am (below_step (pb HB) hb); clear HO161 BK157 HB; have HO161 := n0_; have HO164 := n1_; have BK157 := n2_; have HB := n3_; clear n0_ n1_ n2_ n3_; (try clear hb); (try clear hb2); (try clear hk); (try clear hi); (try clear ho0); have hcz18_0 : w17.cell? ⟨gb157, 0, none⟩ = some (.int .i64 t158) := (blk_cell BK157.out 0).trans rfl; have hcz18_1 : w17.cell? ⟨gb157, 1, none⟩ = some (.slice Ao16 t159.length co16) := (blk_cell BK157.out 1).trans rfl; have hfz18_0 := blk_frozen BK157.out 0; have hfz18_1 := blk_frozen BK157.out 1) | ((with_reducible refine gate_callee (f := 20) rfl ?_); refine goesL_ (some 24) rfl rfl Tryd.func20 (by kernel_rfl) rfl #[.agg #[.int .i64 t158, .slice Ao16 t159.length co16]] rfl (by (try simp only [List.map_toArray, List.map_cons, List.map_nil]); first | done | rfl | (simp only [List.length_drop, List.length_take]; rfl)) ?_; (with_reducible refine (bitrow_First.calls t158 _ _ t159 t166 t167 _ ?side3 ?side1 ?side2 A5.out).mono ?_); (case side1 => repeat (first | exact (Kd.V_reads' HO161.out).2.2 | (with_reducible refine Kd.C_alloc ?_ _) | (with_reducible refine Kd.C_drewN ?_ _) | (with_reducible refine Kd.C_drew ?_))); (case side2 => exact (Kd.V_reads' HO161.out).2.1); (case side3 => exact TabOk.below HT.out (pb HB)); rintro e w19 ⟨rfl, hb⟩; refine ⟨_, rfl, ?_⟩; have n0_ := am (Kd.V_below (pv HO161) hb); have n1_ := am (Kd.R_below (pr HO164) hb); have n2_ := bb BK157 hb; have n3_ := am (below_step (pb HB) hb); clear HO161 HO164 BK157 HB; have HO161 := n0_; have HO164 := n1_; have BK157 := n2_; have HB := n3_; clear n0_ n1_ n2_ n3_; (try clear hb); (try clear hb2); (try clear hk); (try clear hi); have hcz20_0 : w19.cell? ⟨gb157, 0, none⟩ = some (.int .i64 t158) := (blk_cell BK157.out 0).trans rfl; have hcz20_1 : w19.cell? ⟨gb157, 1, none⟩ = some (.slice Ao16 t159.length co16) := (blk_cell BK157.out 1).trans rfl; have hfz20_0 := blk_frozen BK157.out 0; have hfz20_1 := blk_frozen BK157.out 1) | ((with_reducible refine gate_callee (f := 21) rfl ?_); refine goesL_ (some 29) rfl rfl Tryd.func21 (by kernel_rfl) rfl #[.agg #[.int .i64 t158, .slice Ao16 t159.length co16]] rfl (by (try simp only [List.map_toArray, List.map_cons, List.map_nil]); first | done | rfl | (simp only [List.length_drop, List.length_take]; rfl)) ?_; (with_reducible refine (bitrow_Count.calls k t158 _ _ t159 t168 t169 _ ?side1 ?side2 A6.out).mono ?_); (case side1 => repeat (first | exact (Kd.V_reads' HO161.out).2.2 | (with_reducible refine Kd.C_alloc ?_ _) | (with_reducible refine Kd.C_drewN ?_ _) | (with_reducible refine Kd.C_drew ?_))); (case side2 => exact (Kd.V_reads' HO161.out).2.1); rintro e w21 ⟨rfl, hb⟩; refine ⟨_, rfl, ?_⟩; have n0_ := am (Kd.V_below (pv HO161) hb); have n1_ := am (Kd.R_below (pr HO164) hb); have n2_ := bb BK157 hb; have n3_ := am (below_step (pb HB) hb); clear HO161 HO164 BK157 HB; have HO161 := n0_; have HO164 := n1_; have BK157 := n2_; have HB := n3_; clear n0_ n1_ n2_ n3_; (try clear hb); (try clear hb2); (try clear hk); (try clear hi); have hcz22_0 : w21.cell? ⟨gb157, 0, none⟩ = some (.int .i64 t158) := (blk_cell BK157.out 0).trans rfl; have hcz22_1 : w21.cell? ⟨gb157, 1, none⟩ = some (.slice Ao16 t159.length co16) := (blk_cell BK157.out 1).trans rfl; have hfz22_0 := blk_frozen BK157.out 0; have hfz22_1 := blk_frozen BK157.out 1) | ((with_reducible refine gate_callee (f := 22) rfl ?_); refine goesL_ (some 35) rfl rfl Tryd.func22 (by kernel_rfl) rfl #[.agg #[.int .i64 t158, .slice Ao16 t159.length co16], .int .i64 a1] rfl (by (try simp only [List.map_toArray, List.map_cons, List.map_nil]); first | done | rfl | (simp only [List.length_drop, List.length_take]; rfl)) ?_; (with_reducible refine (bitrow_Get.calls t158 _ _ t159 a1 t170 t171 _ ?side1 ?side2 A7.out).mono ?_); (case side1 => repeat (first | exact (Kd.V_reads' HO161.out).2.2 | (with_reducible refine Kd.C_alloc ?_ _) | (with_reducible refine Kd.C_drewN ?_ _) | (with_reducible refine Kd.C_drew ?_))); (case side2 => exact (Kd.V_reads' HO161.out).2.1); rintro e w23 ⟨rfl, hb⟩; refine ⟨_, rfl, ?_⟩; have n0_ := am (Kd.V_below (pv HO161) hb); have n1_ := am (Kd.R_below (pr HO164) hb); have n2_ := bb BK157 hb; have n3_ := am (below_step (pb HB) hb); clear HO161 HO164 BK157 HB; have HO161 := n0_; have HO164 := n1_; have BK157 := n2_; have HB := n3_; clear n0_ n1_ n2_ n3_; (try clear hb); (try clear hb2); (try clear hk); (try clear hi); have hcz24_0 : w23.cell? ⟨gb157, 0, none⟩ = some (.int .i64 t158) := (blk_cell BK157.out 0).trans rfl; have hcz24_1 : w23.cell? ⟨gb157, 1, none⟩ = some (.slice Ao16 t159.length co16) := (blk_cell BK157.out 1).trans rfl; have hfz24_0 := blk_frozen BK157.out 0; have hfz24_1 := blk_frozen BK157.out 1) | ((with_reducible refine gate_callee (f := 15) rfl ?_); refine goesL_ (some 39) rfl rfl Tryd.func15 (by kernel_rfl) rfl #[.agg #[.int .i64 t158, .slice Ao16 t159.length co16]] rfl (by (try simp only [List.map_toArray, List.map_cons, List.map_nil]); first | done | rfl | (simp only [List.length_drop, List.length_take]; rfl)) ?_; (with_reducible refine (downpourref01_Right.calls k t158 _ _ t159 true _ ?side1 ?side2 A8.out).mono ?_); (case side1 => repeat (first | exact (Kd.V_reads' HO161.out).2.2 | (with_reducible refine Kd.C_alloc ?_ _) | (with_reducible refine Kd.C_drewN ?_ _) | (with_reducible refine Kd.C_drew ?_))); (case side2 => exact (Kd.V_reads' HO161.out).2.1); rintro e w25 ⟨rfl, hb⟩; refine ⟨_, rfl, ?_⟩; have n0_ := am (Kd.V_below (pv HO161) hb); have n1_ := am (Kd.R_below (pr HO164) hb); have n2_ := bb BK157 hb; have n3_ := am (below_step (pb HB) hb); clear HO161 HO164 BK157 HB; have HO161 := n0_; have HO164 := n1_; have BK157 := n2_; have HB := n3_; clear n0_ n1_ n2_ n3_; (try clear hb); (try clear hb2); (try clear hk); (try clear hi); have hcz26_0 : w25.cell? ⟨gb157, 0, none⟩ = some (.int .i64 t158) := (blk_cell BK157.out 0).trans rfl; have hcz26_1 : w25.cell? ⟨gb157, 1, none⟩ = some (.slice Ao16 t159.length co16) := (blk_cell BK157.out 1).trans rfl; have hfz26_0 := blk_frozen BK157.out 0; have hfz26_1 := blk_frozen BK157.out 1) | ((with_reducible refine gate_callee (f := 24) rfl ?_); refine goesL_ (some 72) rfl rfl Tryd.func24 (by kernel_rfl) rfl #[.agg #[.int .i64 t158, .slice Ao16 t159.length co16]] rfl (by (try simp only [List.map_toArray, List.map_cons, List.map_nil]); first | done | rfl | (simp only [List.length_drop, List.length_take]; rfl)) ?_; (with_reducible refine (downpourref01_Places.calls k t158 _ _ t159 t174 _ ?side1 ?side2 A10.out).mono ?_); (case side1 => repeat (first | exact (Kd.V_reads' HO161.out).2.2 | (with_reducible refine Kd.C_alloc ?_ _) | (with_reducible refine Kd.C_drewN ?_ _) | (with_reducible refine Kd.C_drew ?_))); (case side2 => exact (Kd.V_reads' HO161.out).2.1); rintro e w27 ⟨v175, rfl, ho0, hb⟩; refine ⟨_, rfl, ?_⟩; have n0_ := am (Kd.V_elder' (pv HO161) (Kd.R_base ho0) hb); have n1_ := am (Kd.R_elder' (pr HO164) (Kd.R_base ho0) hb); have n2_ := am (Kd.R_lower (Kd.R_new' ho0 (Kd.R_lt (pr HO164))) (below_size (pb HB))); have n3_ := bb BK157 hb; have n4_ := am (below_step (pb HB) hb); clear HO161 HO164 BK157 HB; have HO161 := n0_; have HO164 := n1_; have HO176 := n2_; have BK157 := n3_; have HB := n4_; clear n0_ n1_ n2_ n3_ n4_; (try clear hb); (try clear hb2); (try clear hk); (try clear hi); (try clear ho0)))
  (try simp only [Act.put, q1, q2, q3])
  go_cut [94] (fun v94 wc => ∃ (kq : Nat) (x94_10 : Bool), v94 = .bool x94_10 ∧ Aside0 (downpourlaw01_BitrowTells.j0 kq a1 t166 t167 t170 t171 t174 x94_10 t158 t159 = some r) ∧ Aside0 (kq ≤ k) ∧ Aside0 (Kd.R (Kd.int .i64) 3 wc w.heap.size (fun _ => True) v175 t174) ∧ Aside0 (Kd.V (Kd.int .u64) 90 wc w.heap.size (fun k_ => some k_ ≠ (v175 : Value).ownBlock ∧ k_ ≠ gb157) (.slice Ao16 t159.length co16) t159) ∧ Aside0 (wc.heap[gb157]? = some (.cells #[.int .i64 t158, (.slice Ao16 t159.length co16)] 25 (0, 0))) ∧ Aside0 (Below w.heap.size w wc))
  case first =>
   have H := HC11.out
   clear HC11
   by_cases c28 : t165 = 0
   ·
    rw [if_pos c28] at H
    have c28b0 : (t165 == 0) = true := beq_iff_eq.mpr c28
    have c28b1 : (t165 != 0) = false := bne_eq_false_iff_eq.mpr c28
    clear c28
    (first | rw [c28b0] | (simp only [i64_w, i32_w]; rw [c28b0]) | skip)
    by_cases c29 : t169 = 0
    ·
     rw [if_pos c29] at H
     have c29b0 : (t169 == 0) = true := beq_iff_eq.mpr c29
     have c29b1 : (t169 != 0) = false := bne_eq_false_iff_eq.mpr c29
     clear c29
     replace H := Option.bind_eq_some_iff.mp H
     obtain ⟨t177, A300, H⟩ := H
     replace H : (if t177 = true then (if t168 = (t174.length : Int) then ((downpourlaw01_alive.f k).bind fun t178 => (downpourlaw01_BitrowTells.j0 k a1 t166 t167 t170 t171 t174 (!t178) t158 t159)) else (downpourlaw01_BitrowTells.j0 k a1 t166 t167 t170 t171 t174 true t158 t159)) else (downpourlaw01_BitrowTells.j0 k a1 t166 t167 t170 t171 t174 true t158 t159)) = some r := H
     have A30 := Aside0.mk A300
     clear A300
     by_cases c31 : t177 = true
     ·
      subst c31
      have H1 : (if t168 = (t174.length : Int) then ((downpourlaw01_alive.f k).bind fun t178 => (downpourlaw01_BitrowTells.j0 k a1 t166 t167 t170 t171 t174 (!t178) t158 t159)) else (downpourlaw01_BitrowTells.j0 k a1 t166 t167 t170 t171 t174 true t158 t159)) = some r := by rw [if_pos rfl] at H; exact H
      clear H
      have H := H1
      clear H1
      by_cases c32 : t168 = (t174.length : Int)
      ·
       rw [if_pos c32] at H
       have c32b0 : (t168 == (t174.length : Int)) = true := beq_iff_eq.mpr c32
       have c32b1 : (t168 != (t174.length : Int)) = false := bne_eq_false_iff_eq.mpr c32
       clear c32
       replace H := Option.bind_eq_some_iff.mp H
       obtain ⟨t178, A330, H⟩ := H
       replace H : (downpourlaw01_BitrowTells.j0 k a1 t166 t167 t170 t171 t174 (!t178) t158 t159) = some r := H
       have A33 := Aside0.mk A330
       clear A330
       have H' := Aside0.mk H
       clear H
       obtain ⟨Ao34, co34, eo34⟩ := Kd.R_slice HO164.out
       subst eo34
       obtain ⟨Ao35, co35, eo35⟩ := Kd.R_slice HO176.out
       subst eo35
       go_wp2_with (first | (go_at_call 25; (with_reducible refine (downpourref01_Numbers.calls k _ _ t162 _ _ t174 true _ ?side1 ?side2 ?side3 ?side4 A30.out).mono ?_); (case side1 => repeat (first | exact (Kd.R_reads' HO164.out).2.2 | (with_reducible refine Kd.C_alloc ?_ _) | (with_reducible refine Kd.C_drewN ?_ _) | (with_reducible refine Kd.C_drew ?_))); (case side2 => exact (Kd.R_reads' HO164.out).2.1); (case side3 => repeat (first | exact (Kd.R_reads' HO176.out).2.2 | (with_reducible refine Kd.C_alloc ?_ _) | (with_reducible refine Kd.C_drewN ?_ _) | (with_reducible refine Kd.C_drew ?_))); (case side4 => exact (Kd.R_reads' HO176.out).2.1); rintro e w' ⟨rfl, ⟨nd, rfl⟩⟩) | (go_at_call 23; (with_reducible refine (downpourlaw01_alive.calls k  t178 _ A33.out).mono ?_); rintro e w36 ⟨rfl, hb⟩; have n0_ := am (Kd.V_below (pv HO161) hb); have n1_ := am (Kd.R_below (pr HO164) hb); have n2_ := am (Kd.R_below (pr HO176) hb); have n3_ := bb BK157 hb; have n4_ := am (below_step (pb HB) hb); clear HO161 HO164 HO176 BK157 HB; have HO161 := n0_; have HO164 := n1_; have HO176 := n2_; have BK157 := n3_; have HB := n4_; clear n0_ n1_ n2_ n3_ n4_; (try clear hb); (try clear hb2); (try clear hk); (try clear hi)))
       go_meet
       case rel => exact ⟨_, (!t178), (by first | rfl | (simp; done) | (simp [*]; done)), H', ⟨by first | omega | exact Nat.le_refl _⟩, ⟨by (with_reducible repeat (first | apply Kd.R_alloc | apply Kd.R_drewN | apply Kd.R_drew)); exact Kd.R_mono HO176.out (fun _ hk => trivial)⟩, ⟨by (with_reducible repeat (first | apply Kd.V_alloc | apply Kd.V_drewN | apply Kd.V_drew)); exact Kd.V_mono HO161.out (fun _ hk => ⟨hk.2, hk.1.1⟩)⟩, ⟨by (with_reducible repeat (first | refine blk_drewN ?_ _ | refine blk_drew ?_ | refine blk_alloc ?_ _)); exact BK157.out⟩, ⟨pb HB⟩⟩
      ·
       rw [if_neg c32] at H
       have c32b0 : (t168 == (t174.length : Int)) = false := beq_eq_false_iff_ne.mpr c32
       have c32b1 : (t168 != (t174.length : Int)) = true := bne_iff_ne.mpr c32
       have H' := Aside0.mk H
       clear H
       obtain ⟨Ao37, co37, eo37⟩ := Kd.R_slice HO164.out
       subst eo37
       obtain ⟨Ao38, co38, eo38⟩ := Kd.R_slice HO176.out
       subst eo38
       go_wp2_with (first | (go_at_call 25; (with_reducible refine (downpourref01_Numbers.calls k _ _ t162 _ _ t174 true _ ?side1 ?side2 ?side3 ?side4 A30.out).mono ?_); (case side1 => repeat (first | exact (Kd.R_reads' HO164.out).2.2 | (with_reducible refine Kd.C_alloc ?_ _) | (with_reducible refine Kd.C_drewN ?_ _) | (with_reducible refine Kd.C_drew ?_))); (case side2 => exact (Kd.R_reads' HO164.out).2.1); (case side3 => repeat (first | exact (Kd.R_reads' HO176.out).2.2 | (with_reducible refine Kd.C_alloc ?_ _) | (with_reducible refine Kd.C_drewN ?_ _) | (with_reducible refine Kd.C_drew ?_))); (case side4 => exact (Kd.R_reads' HO176.out).2.1); rintro e w' ⟨rfl, ⟨nd, rfl⟩⟩))
       go_meet
       case rel => exact ⟨_, (true), (by first | rfl | (simp; done) | (simp [*]; done)), H', ⟨by first | omega | exact Nat.le_refl _⟩, ⟨by (with_reducible repeat (first | apply Kd.R_alloc | apply Kd.R_drewN | apply Kd.R_drew)); exact Kd.R_mono HO176.out (fun _ hk => trivial)⟩, ⟨by (with_reducible repeat (first | apply Kd.V_alloc | apply Kd.V_drewN | apply Kd.V_drew)); exact Kd.V_mono HO161.out (fun _ hk => ⟨hk.2, hk.1.1⟩)⟩, ⟨by (with_reducible repeat (first | refine blk_drewN ?_ _ | refine blk_drew ?_ | refine blk_alloc ?_ _)); exact BK157.out⟩, ⟨pb HB⟩⟩
     ·
      replace c31 := Bool.eq_false_iff.mpr c31
      subst c31
      have H1 : (downpourlaw01_BitrowTells.j0 k a1 t166 t167 t170 t171 t174 true t158 t159) = some r := by rw [if_neg (show ¬ (false = true) by decide)] at H; exact H
      clear H
      have H := H1
      clear H1
      have H' := Aside0.mk H
      clear H
      obtain ⟨Ao39, co39, eo39⟩ := Kd.R_slice HO164.out
      subst eo39
      obtain ⟨Ao40, co40, eo40⟩ := Kd.R_slice HO176.out
      subst eo40
      go_wp2_with (first | (go_at_call 25; (with_reducible refine (downpourref01_Numbers.calls k _ _ t162 _ _ t174 false _ ?side1 ?side2 ?side3 ?side4 A30.out).mono ?_); (case side1 => repeat (first | exact (Kd.R_reads' HO164.out).2.2 | (with_reducible refine Kd.C_alloc ?_ _) | (with_reducible refine Kd.C_drewN ?_ _) | (with_reducible refine Kd.C_drew ?_))); (case side2 => exact (Kd.R_reads' HO164.out).2.1); (case side3 => repeat (first | exact (Kd.R_reads' HO176.out).2.2 | (with_reducible refine Kd.C_alloc ?_ _) | (with_reducible refine Kd.C_drewN ?_ _) | (with_reducible refine Kd.C_drew ?_))); (case side4 => exact (Kd.R_reads' HO176.out).2.1); rintro e w' ⟨rfl, ⟨nd, rfl⟩⟩))
      go_meet
      case rel => exact ⟨_, (true), (by first | rfl | (simp; done) | (simp [*]; done)), H', ⟨by first | omega | exact Nat.le_refl _⟩, ⟨by (with_reducible repeat (first | apply Kd.R_alloc | apply Kd.R_drewN | apply Kd.R_drew)); exact Kd.R_mono HO176.out (fun _ hk => trivial)⟩, ⟨by (with_reducible repeat (first | apply Kd.V_alloc | apply Kd.V_drewN | apply Kd.V_drew)); exact Kd.V_mono HO161.out (fun _ hk => ⟨hk.2, hk.1.1⟩)⟩, ⟨by (with_reducible repeat (first | refine blk_drewN ?_ _ | refine blk_drew ?_ | refine blk_alloc ?_ _)); exact BK157.out⟩, ⟨pb HB⟩⟩
    ·
     rw [if_neg c29] at H
     have c29b0 : (t169 == 0) = false := beq_eq_false_iff_ne.mpr c29
     have c29b1 : (t169 != 0) = true := bne_iff_ne.mpr c29
     have H' := Aside0.mk H
     clear H
     go_wp2
     go_meet
     case rel => exact ⟨_, (true), (by first | rfl | (simp; done) | (simp [*]; done)), H', ⟨by first | omega | exact Nat.le_refl _⟩, ⟨by (with_reducible repeat (first | apply Kd.R_alloc | apply Kd.R_drewN | apply Kd.R_drew)); exact Kd.R_mono HO176.out (fun _ hk => trivial)⟩, ⟨by (with_reducible repeat (first | apply Kd.V_alloc | apply Kd.V_drewN | apply Kd.V_drew)); exact Kd.V_mono HO161.out (fun _ hk => ⟨hk.2, hk.1.1⟩)⟩, ⟨by (with_reducible repeat (first | refine blk_drewN ?_ _ | refine blk_drew ?_ | refine blk_alloc ?_ _)); exact BK157.out⟩, ⟨pb HB⟩⟩
   ·
    rw [if_neg c28] at H
    have c28b0 : (t165 == 0) = false := beq_eq_false_iff_ne.mpr c28
    have c28b1 : (t165 != 0) = true := bne_iff_ne.mpr c28
    (first | rw [c28b0] | (simp only [i64_w, i32_w]; rw [c28b0]) | skip)
    have H' := Aside0.mk H
    clear H
    go_wp2
    go_meet
    case rel => exact ⟨_, (true), (by first | rfl | (simp; done) | (simp [*]; done)), H', ⟨by first | omega | exact Nat.le_refl _⟩, ⟨by (with_reducible repeat (first | apply Kd.R_alloc | apply Kd.R_drewN | apply Kd.R_drew)); exact Kd.R_mono HO176.out (fun _ hk => trivial)⟩, ⟨by (with_reducible repeat (first | apply Kd.V_alloc | apply Kd.V_drewN | apply Kd.V_drew)); exact Kd.V_mono HO161.out (fun _ hk => ⟨hk.2, hk.1.1⟩)⟩, ⟨by (with_reducible repeat (first | refine blk_drewN ?_ _ | refine blk_drew ?_ | refine blk_alloc ?_ _)); exact BK157.out⟩, ⟨pb HB⟩⟩
  case rest =>
   clear HC11
   try clear c1
   try clear c2
   try clear p2
   try clear c3
   try clear c4
   try clear p6
   try clear c9
   try clear c15
   try clear c18
   try clear c19
   try clear c20
   try clear c21
   try clear c22
   try clear c24
   try clear c28
   try clear c28b0
   try clear c28b1
   try clear c29
   try clear c29b0
   try clear c29b1
   try clear c31
   try clear c32
   try clear c32b0
   try clear c32b1
   try clear hcz13_0
   try clear hcz13_1
   try clear hcz15_0
   try clear hcz15_1
   try clear hcz18_0
   try clear hcz18_1
   try clear hcz20_0
   try clear hcz20_1
   try clear hcz22_0
   try clear hcz22_1
   try clear hcz24_0
   try clear hcz24_1
   try clear hcz26_0
   try clear hcz26_1
   try clear hfz13_0
   try clear hfz13_1
   try clear hfz15_0
   try clear hfz15_1
   try clear hfz18_0
   try clear hfz18_1
   try clear hfz20_0
   try clear hfz20_1
   try clear hfz22_0
   try clear hfz22_1
   try clear hfz24_0
   try clear hfz24_1
   try clear hfz26_0
   try clear hfz26_1
   obtain ⟨kq, x94_10, rfl, HA, HJ10, HO_13, HO_158001, BK157, HB⟩ := hcut
   cases kq with
   | zero => exact absurd HA.out (by simp [downpourlaw01_BitrowTells.j0])
   | succ kj10 =>
    have H := HA.out
    clear HA
    simp only [downpourlaw01_BitrowTells.j0] at H
    by_cases c41 : x94_10 = true
    ·
     subst c41
     have H1 : (none) = some r := by rw [if_pos rfl] at H; exact H
     clear H
     have H := H1
     clear H1
     exact absurd H (by simp)
    ·
     replace c41 := Bool.eq_false_iff.mpr c41
     subst c41
     have H1 : (if (t174.length : Int) = 0 then (if t167 = 4 then (if t166 = 0 then (downpourlaw01_BitrowTells.j1 kj10 a1 t170 t171 false t158 t159) else (downpourlaw01_BitrowTells.j1 kj10 a1 t170 t171 true t158 t159)) else (downpourlaw01_BitrowTells.j1 kj10 a1 t170 t171 true t158 t159)) else (if t167 = 0 then (if 0 < (t174.length : Int) then (downpourlaw01_BitrowTells.j1 kj10 a1 t170 t171 (t166 != (rd t174 0)) t158 t159) else (none)) else (downpourlaw01_BitrowTells.j1 kj10 a1 t170 t171 true t158 t159))) = some r := by rw [if_neg (show ¬ (false = true) by decide)] at H; exact H
     clear H
     have H := H1
     clear H1
     have HC42 := Aside0.mk H
     clear H
     obtain ⟨Ao43, co43, eo43⟩ := Kd.R_slice HO_13.out
     subst eo43
     go_upto_region 12 with (fail)
     go_cut [121, 14, 97] (fun v121 v14 v97 wc => ∃ (kq : Nat) (x121_41 : Bool), v121 = .bool x121_41 ∧ v14 = .bool (((t174.length : Int) == 0)) ∧ v97 = .bool (((t174.length : Int) == 0)) ∧ Aside0 (downpourlaw01_BitrowTells.j1 kq a1 t170 t171 x121_41 t158 t159 = some r) ∧ Aside0 (kq ≤ kj10) ∧ Aside0 (Kd.V (Kd.int .u64) 90 wc w.heap.size (fun k_ => k_ ≠ gb157) (.slice Ao16 t159.length co16) t159) ∧ Aside0 (wc.heap[gb157]? = some (.cells #[.int .i64 t158, (.slice Ao16 t159.length co16)] 25 (0, 0))) ∧ Aside0 (Below w.heap.size w wc))
     case first =>
      have H := HC42.out
      clear HC42
      by_cases c44 : (t174.length : Int) = 0
      ·
       rw [if_pos c44] at H
       have c44b0 : ((t174.length : Int) == 0) = true := beq_iff_eq.mpr c44
       have c44b1 : ((t174.length : Int) != 0) = false := bne_eq_false_iff_eq.mpr c44
       clear c44
       (first | rw [c44b0] | (simp only [i64_w, i32_w]; rw [c44b0]) | skip)
       by_cases c45 : t167 = 4
       ·
        rw [if_pos c45] at H
        have c45b0 : (t167 == 4) = true := beq_iff_eq.mpr c45
        have c45b1 : (t167 != 4) = false := bne_eq_false_iff_eq.mpr c45
        clear c45
        by_cases c46 : t166 = 0
        ·
         rw [if_pos c46] at H
         have c46b0 : (t166 == 0) = true := beq_iff_eq.mpr c46
         have c46b1 : (t166 != 0) = false := bne_eq_false_iff_eq.mpr c46
         clear c46
         have H' := Aside0.mk H
         clear H
         go_wp2
         go_meet
         case rel => exact ⟨_, (false), (by first | rfl | (simp; done) | (simp [*]; done)), (by first | rfl | (simp; done) | (simp [*]; done)), (by first | rfl | (simp; done) | (simp [*]; done)), H', ⟨by have := HJ10.out; first | omega | exact Nat.le_refl _⟩, ⟨by (with_reducible repeat (first | apply Kd.V_alloc | apply Kd.V_drewN | apply Kd.V_drew)); exact Kd.V_mono HO_158001.out (fun _ hk => hk.2)⟩, ⟨by (with_reducible repeat (first | refine blk_drewN ?_ _ | refine blk_drew ?_ | refine blk_alloc ?_ _)); exact BK157.out⟩, ⟨pb HB⟩⟩
        ·
         rw [if_neg c46] at H
         have c46b0 : (t166 == 0) = false := beq_eq_false_iff_ne.mpr c46
         have c46b1 : (t166 != 0) = true := bne_iff_ne.mpr c46
         have H' := Aside0.mk H
         clear H
         go_wp2
         go_meet
         case rel => exact ⟨_, (true), (by first | rfl | (simp; done) | (simp [*]; done)), (by first | rfl | (simp; done) | (simp [*]; done)), (by first | rfl | (simp; done) | (simp [*]; done)), H', ⟨by have := HJ10.out; first | omega | exact Nat.le_refl _⟩, ⟨by (with_reducible repeat (first | apply Kd.V_alloc | apply Kd.V_drewN | apply Kd.V_drew)); exact Kd.V_mono HO_158001.out (fun _ hk => hk.2)⟩, ⟨by (with_reducible repeat (first | refine blk_drewN ?_ _ | refine blk_drew ?_ | refine blk_alloc ?_ _)); exact BK157.out⟩, ⟨pb HB⟩⟩
       ·
        rw [if_neg c45] at H
        have c45b0 : (t167 == 4) = false := beq_eq_false_iff_ne.mpr c45
        have c45b1 : (t167 != 4) = true := bne_iff_ne.mpr c45
        have H' := Aside0.mk H
        clear H
        go_wp2
        go_meet
        case rel => exact ⟨_, (true), (by first | rfl | (simp; done) | (simp [*]; done)), (by first | rfl | (simp; done) | (simp [*]; done)), (by first | rfl | (simp; done) | (simp [*]; done)), H', ⟨by have := HJ10.out; first | omega | exact Nat.le_refl _⟩, ⟨by (with_reducible repeat (first | apply Kd.V_alloc | apply Kd.V_drewN | apply Kd.V_drew)); exact Kd.V_mono HO_158001.out (fun _ hk => hk.2)⟩, ⟨by (with_reducible repeat (first | refine blk_drewN ?_ _ | refine blk_drew ?_ | refine blk_alloc ?_ _)); exact BK157.out⟩, ⟨pb HB⟩⟩
      ·
       rw [if_neg c44] at H
       have c44b0 : ((t174.length : Int) == 0) = false := beq_eq_false_iff_ne.mpr c44
       have c44b1 : ((t174.length : Int) != 0) = true := bne_iff_ne.mpr c44
       have c44b2 : ¬ (t174 = []) := fun h_ => c44 (by rw [h_]; rfl)
       (first | rw [c44b0] | (simp only [i64_w, i32_w]; rw [c44b0]) | skip)
       by_cases c47 : t167 = 0
       ·
        rw [if_pos c47] at H
        have c47b0 : (t167 == 0) = true := beq_iff_eq.mpr c47
        have c47b1 : (t167 != 0) = false := bne_eq_false_iff_eq.mpr c47
        clear c47
        by_cases c48 : 0 < (t174.length : Int)
        ·
         rw [if_pos c48] at H
         have c48b0 : decide (0 < (t174.length : Int)) = true := decide_eq_true c48
         have c48b1 : decide (0 < t174.length) = true := decide_eq_true (by omega)
         clear c48
         have H' := Aside0.mk H
         clear H
         have p179 : 0 ≤ (0 : Int) := (by omega)
         have q179 : 0 < (t174.length : Int) := of_decide_eq_true (by first | (with_reducible assumption) | assumption)
         obtain ⟨ad179, e179, hx179_0⟩ := Kd.at_int (Kd.R_reads' HO_13.out).2.2 0 p179 q179
         cases e179
         have qi179 : (0 < t174.length) = True := eq_true (by omega)
         (try rw [show ((0 : Int)).toNat = 0 from rfl] at hx179_0)
         (try rw [Addr.add_zero'] at hx179_0)
         replace p179 := eq_true p179
         replace q179 := eq_true q179
         go_wp2
         go_meet
         case rel => exact ⟨_, ((t166 != (rd t174 0))), (by first | rfl | (simp; done) | (simp [*]; done)), (by first | rfl | (simp; done) | (simp [*]; done)), (by first | rfl | (simp; done) | (simp [*]; done)), H', ⟨by have := HJ10.out; first | omega | exact Nat.le_refl _⟩, ⟨by (with_reducible repeat (first | apply Kd.V_alloc | apply Kd.V_drewN | apply Kd.V_drew)); exact Kd.V_mono HO_158001.out (fun _ hk => hk.2)⟩, ⟨by (with_reducible repeat (first | refine blk_drewN ?_ _ | refine blk_drew ?_ | refine blk_alloc ?_ _)); exact BK157.out⟩, ⟨pb HB⟩⟩
        ·
         rw [if_neg c48] at H
         exact absurd H (by simp)
       ·
        rw [if_neg c47] at H
        have c47b0 : (t167 == 0) = false := beq_eq_false_iff_ne.mpr c47
        have c47b1 : (t167 != 0) = true := bne_iff_ne.mpr c47
        have H' := Aside0.mk H
        clear H
        go_wp2
        go_meet
        case rel => exact ⟨_, (true), (by first | rfl | (simp; done) | (simp [*]; done)), (by first | rfl | (simp; done) | (simp [*]; done)), (by first | rfl | (simp; done) | (simp [*]; done)), H', ⟨by have := HJ10.out; first | omega | exact Nat.le_refl _⟩, ⟨by (with_reducible repeat (first | apply Kd.V_alloc | apply Kd.V_drewN | apply Kd.V_drew)); exact Kd.V_mono HO_158001.out (fun _ hk => hk.2)⟩, ⟨by (with_reducible repeat (first | refine blk_drewN ?_ _ | refine blk_drew ?_ | refine blk_alloc ?_ _)); exact BK157.out⟩, ⟨pb HB⟩⟩
     case rest =>
      clear HC42
      try clear c1
      try clear p1
      try clear q1
      try clear hx1
      try clear qi1
      try clear c2
      try clear p2
      try clear c3
      try clear c4
      try clear p6
      try clear c9
      try clear c15
      try clear p17
      try clear q17
      try clear hx17
      try clear qi17
      try clear c18
      try clear c19
      try clear c20
      try clear c21
      try clear c22
      try clear c24
      try clear c28
      try clear c28b0
      try clear c28b1
      try clear c29
      try clear c29b0
      try clear c29b1
      try clear c31
      try clear c32
      try clear c32b0
      try clear c32b1
      try clear c41
      try clear c44
      try clear c44b0
      try clear c44b1
      try clear c44b2
      try clear c45
      try clear c45b0
      try clear c45b1
      try clear c46
      try clear c46b0
      try clear c46b1
      try clear c47
      try clear c47b0
      try clear c47b1
      try clear c48
      try clear c48b0
      try clear c48b1
      try clear hcz13_0
      try clear hcz13_1
      try clear hcz15_0
      try clear hcz15_1
      try clear hcz18_0
      try clear hcz18_1
      try clear hcz20_0
      try clear hcz20_1
      try clear hcz22_0
      try clear hcz22_1
      try clear hcz24_0
      try clear hcz24_1
      try clear hcz26_0
      try clear hcz26_1
      try clear hfz13_0
      try clear hfz13_1
      try clear hfz15_0
      try clear hfz15_1
      try clear hfz18_0
      try clear hfz18_1
      try clear hfz20_0
      try clear hfz20_1
      try clear hfz22_0
      try clear hfz22_1
      try clear hfz24_0
      try clear hfz24_1
      try clear hfz26_0
      try clear hfz26_1
      try clear hx179_0
      try clear p179
      try clear p2
      try clear p6
      try clear q179
      obtain ⟨kq, x121_41, rfl, rfl, rfl, HA, HJ41, HO_158001, BK157, HB⟩ := hcut
      cases kq with
      | zero => exact absurd HA.out (by simp [downpourlaw01_BitrowTells.j1])
      | succ kj41 =>
       have H := HA.out
       clear HA
       simp only [downpourlaw01_BitrowTells.j1] at H
       by_cases c49 : x121_41 = true
       ·
        subst c49
        have H1 : (none) = some r := by rw [if_pos rfl] at H; exact H
        clear H
        have H := H1
        clear H1
        exact absurd H (by simp)
       ·
        replace c49 := Bool.eq_false_iff.mpr c49
        subst c49
        have H1 : (if a1 < 0 then (if t171 = 3 then (some (t170 == 0)) else (none)) else (if a1 ≥ t158 then (if t171 = 3 then (some (t170 == 0)) else (none)) else (if t171 = 0 then ((downpourref01_Bit.f t158 t159 a1).bind fun t180 => (some (t170 == t180))) else (none)))) = some r := by rw [if_neg (show ¬ (false = true) by decide)] at H; exact H
        clear H
        have H := H1
        clear H1
        by_cases c50 : a1 < 0
        ·
         rw [if_pos c50] at H
         have c50b0 : decide (a1 < 0) = true := decide_eq_true c50
         clear c50
         by_cases c51 : t171 = 3
         ·
          rw [if_pos c51] at H
          have c51b0 : (t171 == 3) = true := beq_iff_eq.mpr c51
          have c51b1 : (t171 != 3) = false := bne_eq_false_iff_eq.mpr c51
          clear c51
          obtain rfl := Option.some.inj H
          go_wp2
          go_ret
          exact ⟨by first | rfl | (simp [errW_none, errW_some] <;> rfl) | (simp [*, errW_none, errW_some] <;> rfl), pb HB⟩
         ·
          rw [if_neg c51] at H
          exact absurd H (by simp)
        ·
         rw [if_neg c50] at H
         have c50b0 : decide (a1 < 0) = false := decide_eq_false c50
         clear c50
         by_cases c52 : a1 ≥ t158
         ·
          rw [if_pos c52] at H
          have c52b0 : decide (t158 ≤ a1) = true := decide_eq_true c52
          clear c52
          by_cases c53 : t171 = 3
          ·
           rw [if_pos c53] at H
           have c53b0 : (t171 == 3) = true := beq_iff_eq.mpr c53
           have c53b1 : (t171 != 3) = false := bne_eq_false_iff_eq.mpr c53
           clear c53
           obtain rfl := Option.some.inj H
           have hcz54_0 : wc.cell? ⟨gb157, 0, none⟩ = some (.int .i64 t158) := (blk_cell BK157.out 0).trans rfl
           have hcz54_1 : wc.cell? ⟨gb157, 1, none⟩ = some (.slice Ao16 t159.length co16) := (blk_cell BK157.out 1).trans rfl
           have hfz54_0 := blk_frozen BK157.out 0
           have hfz54_1 := blk_frozen BK157.out 1
           go_wp2
           go_ret
           exact ⟨by first | rfl | (simp [errW_none, errW_some] <;> rfl) | (simp [*, errW_none, errW_some] <;> rfl), pb HB⟩
          ·
           rw [if_neg c53] at H
           exact absurd H (by simp)
         ·
          rw [if_neg c52] at H
          have c52b0 : decide (t158 ≤ a1) = false := decide_eq_false c52
          clear c52
          by_cases c55 : t171 = 0
          ·
           rw [if_pos c55] at H
           have c55b0 : (t171 == 0) = true := beq_iff_eq.mpr c55
           have c55b1 : (t171 != 0) = false := bne_eq_false_iff_eq.mpr c55
           clear c55
           replace H := Option.bind_eq_some_iff.mp H
           obtain ⟨t180, A560, H⟩ := H
           replace H : (some (t170 == t180)) = some r := H
           have A56 := Aside0.mk A560
           clear A560
           obtain rfl := Option.some.inj H
           have hcz57_0 : wc.cell? ⟨gb157, 0, none⟩ = some (.int .i64 t158) := (blk_cell BK157.out 0).trans rfl
           have hcz57_1 : wc.cell? ⟨gb157, 1, none⟩ = some (.slice Ao16 t159.length co16) := (blk_cell BK157.out 1).trans rfl
           have hfz57_0 := blk_frozen BK157.out 0
           have hfz57_1 := blk_frozen BK157.out 1
           go_wp2_with (first | (go_at_call 26; (with_reducible refine (downpourref01_Bit.calls t158 _ _ t159 a1 t180 _ ?side1 ?side2 A56.out).mono ?_); (case side1 => repeat (first | exact (Kd.V_reads' HO_158001.out).2.2 | (with_reducible refine Kd.C_alloc ?_ _) | (with_reducible refine Kd.C_drewN ?_ _) | (with_reducible refine Kd.C_drew ?_))); (case side2 => exact (Kd.V_reads' HO_158001.out).2.1); rintro e w58 ⟨rfl, hb⟩; have n0_ := am (Kd.V_below (pv HO_158001) hb); have n1_ := bb BK157 hb; have n2_ := am (below_step (pb HB) hb); clear HO_158001 BK157 HB; have HO_158001 := n0_; have BK157 := n1_; have HB := n2_; clear n0_ n1_ n2_; (try clear hb); (try clear hb2); (try clear hk); (try clear hi)))
           go_ret
           exact ⟨by first | rfl | (simp [errW_none, errW_some] <;> rfl) | (simp [*, errW_none, errW_some] <;> rfl), pb HB⟩
          ·
           rw [if_neg c55] at H
           exact absurd H (by simp)
 ·
  replace c9 := Bool.eq_false_iff.mpr c9
  subst c9
  have H1 : ((downpourlaw01_alive.f k).bind fun t173 => (if t173 = true then (if t165 = 1 then (if t167 = 1 then (if t169 = 1 then (if t171 = 1 then (if (t162.length : Int) = 0 then (some ((wrap64 ((wrap64 (t166 + t168)) + t170)) == 0)) else (none)) else (none)) else (none)) else (none)) else (none)) else (none))) = some r := by rw [if_neg (show ¬ (false = true) by decide)] at H; exact H
  clear H
  have H := H1
  clear H1
  replace H := Option.bind_eq_some_iff.mp H
  obtain ⟨t173, A590, H⟩ := H
  replace H : (if t173 = true then (if t165 = 1 then (if t167 = 1 then (if t169 = 1 then (if t171 = 1 then (if (t162.length : Int) = 0 then (some ((wrap64 ((wrap64 (t166 + t168)) + t170)) == 0)) else (none)) else (none)) else (none)) else (none)) else (none)) else (none)) = some r := H
  have A59 := Aside0.mk A590
  clear A590
  by_cases c60 : t173 = true
  ·
   subst c60
   have H1 : (if t165 = 1 then (if t167 = 1 then (if t169 = 1 then (if t171 = 1 then (if (t162.length : Int) = 0 then (some ((wrap64 ((wrap64 (t166 + t168)) + t170)) == 0)) else (none)) else (none)) else (none)) else (none)) else (none)) = some r := by rw [if_pos rfl] at H; exact H
   clear H
   have H := H1
   clear H1
   by_cases c61 : t165 = 1
   ·
    rw [if_pos c61] at H
    have c61b0 : (t165 == 1) = true := beq_iff_eq.mpr c61
    have c61b1 : (t165 != 1) = false := bne_eq_false_iff_eq.mpr c61
    clear c61
    by_cases c62 : t167 = 1
    ·
     rw [if_pos c62] at H
     have c62b0 : (t167 == 1) = true := beq_iff_eq.mpr c62
     have c62b1 : (t167 != 1) = false := bne_eq_false_iff_eq.mpr c62
     clear c62
     by_cases c63 : t169 = 1
     ·
      rw [if_pos c63] at H
      have c63b0 : (t169 == 1) = true := beq_iff_eq.mpr c63
      have c63b1 : (t169 != 1) = false := bne_eq_false_iff_eq.mpr c63
      clear c63
      by_cases c64 : t171 = 1
      ·
       rw [if_pos c64] at H
       have c64b0 : (t171 == 1) = true := beq_iff_eq.mpr c64
       have c64b1 : (t171 != 1) = false := bne_eq_false_iff_eq.mpr c64
       clear c64
       by_cases c65 : (t162.length : Int) = 0
       ·
        rw [if_pos c65] at H
        have c65b0 : ((t162.length : Int) == 0) = true := beq_iff_eq.mpr c65
        have c65b1 : ((t162.length : Int) != 0) = false := bne_eq_false_iff_eq.mpr c65
        clear c65
        obtain rfl := Option.some.inj H
        go_enter Tryd.func4, Tryd.ntmps4
        go_wp2_with (first | ((with_reducible refine gate_dst (N := 2) rfl ?_); (try (refine gate_guard (by rfl) ?_; dsimp only)); refine box_event ?hg (N := 2) ?hd (cs := #[.int .i64 a0_0, .slice A0_1 l0_1.length c0_1]) (t := 25) ?hr ?_; (case hd => rfl); (case hg => rfl); (case hr => first | (go_simp; done) | (go_simp; rfl)); intro gb157 hg w66 hbox hb; have n0_ := am (below_step (pb HB) hb); have n1_ := am (hbox); have n2_ := am ((by rw [hg]; exact (below_size (pb HB)) : w.heap.size ≤ gb157)); have n3_ := am ((by rw [hg]; exact (below_size (pb HB)) : w.heap.size ≤ gb157)); clear HB; have HB := n0_; have BK157 := n1_; have GW157 := n2_; have GE157 := n3_; clear n0_ n1_ n2_ n3_ hb hbox hg; have hcz67_0 : w66.cell? ⟨gb157, 0, none⟩ = some (.int .i64 a0_0) := (blk_cell BK157.out 0).trans rfl; have hcz67_1 : w66.cell? ⟨gb157, 1, none⟩ = some (.slice A0_1 l0_1.length c0_1) := (blk_cell BK157.out 1).trans rfl; have hfz67_0 := blk_frozen BK157.out 0; have hfz67_1 := blk_frozen BK157.out 1) | ((with_reducible refine gate_callee (f := 18) rfl ?_); refine goesL_ (some 16) rfl rfl Tryd.func18 (by kernel_rfl) rfl #[.agg #[.int .i64 a0_0, .slice A0_1 l0_1.length c0_1]] rfl (by (try simp only [List.map_toArray, List.map_cons, List.map_nil]); first | done | rfl | (simp only [List.length_drop, List.length_take]; rfl)) ?_; (with_reducible refine (downpourlaw01_few.calls a0_0 (fun k_ => k_ < w.heap.size) _ _ l0_1 t158 t159 _ ?side1 A3.out).mono ?_); (case side1 => exact Kd.V_mk HC0_1.out (Kd.F_below (Kd.C_F (Kd.heap_int .u64) HR0_1.out) (pb HB))); rintro e w68 ⟨v160, rfl, ho0, hb⟩; refine ⟨_, rfl, ?_⟩; have n0_ := am (Kd.V_lower (Kd.V_mono (ok' := fun k_ => k_ ≠ gb157) ho0 (fun k_ hk_ => Or.elim hk_ (fun hs_ => fun e_ => Nat.not_le.2 hs_ (by rw [e_]; exact GW157.out)) (fun hn_ => (Kd.freshB (g := gb157) (o := .cells #[.int .i64 a0_0, .slice A0_1 l0_1.length c0_1] 25 (0, 0)) (pk BK157) k_ hn_)))) (below_size (pb HB))); have n1_ := bb BK157 hb; have n2_ := am (below_step (pb HB) hb); clear BK157 HB; have HO161 := n0_; have BK157 := n1_; have HB := n2_; clear n0_ n1_ n2_; (try clear hb); (try clear hb2); (try clear hk); (try clear hi); (try clear ho0); have hcz69_0 : w68.cell? ⟨gb157, 0, none⟩ = some (.int .i64 a0_0) := (blk_cell BK157.out 0).trans rfl; have hcz69_1 : w68.cell? ⟨gb157, 1, none⟩ = some (.slice A0_1 l0_1.length c0_1) := (blk_cell BK157.out 1).trans rfl; have hfz69_0 := blk_frozen BK157.out 0; have hfz69_1 := blk_frozen BK157.out 1; obtain ⟨Ao70, co70, eo70⟩ := Kd.V_slice HO161.out; subst eo70) | ((with_reducible refine gate_callee (f := 19) rfl ?_); refine goesL_ (some 19) rfl rfl Tryd.func19 (by kernel_rfl) rfl #[.agg #[.int .i64 t158, .slice Ao70 t159.length co70]] rfl (by (try simp only [List.map_toArray, List.map_cons, List.map_nil]); first | done | rfl | (simp only [List.length_drop, List.length_take]; rfl)) ?_; (with_reducible refine (bitrow_Places.calls t158 _ _ t159 t162 t165 _ ?side3 ?side1 ?side2 A4.out).mono ?_); (case side1 => refine (Kd.V_reads' (e := 90) (base := w.heap.size) (ok := fun k_ => k_ ≠ gb157) (n := t159.length) (c := co70) ?_).2.2; exact (by (with_reducible repeat (first | apply Kd.V_alloc | apply Kd.V_drewN | apply Kd.V_drew)); exact (Kd.V_mono (Kd.V_far (p := ⟨gb157, 1, none⟩) (Kd.V_far (p := ⟨gb157, 0, none⟩) (Kd.V_mono HO161.out (fun k_ hk => (⟨hk, hk⟩ : _ ∧ k_ ≠ gb157))) (fun _ hk => hk.2) (.int .i64 t158)) (fun _ hk => hk.2) (.slice Ao70 t159.length co70)) (fun _ h_ => h_.1)))); (case side2 => exact (Kd.V_reads' HO161.out).2.1); (case side3 => exact TabOk.below HT.out (pb HB)); rintro e w71 ⟨v163, rfl, ho0, hb⟩; refine ⟨_, rfl, ?_⟩; have n0_ := am (Kd.V_elder' (by (with_reducible repeat (first | apply Kd.V_alloc | apply Kd.V_drewN | apply Kd.V_drew)); exact (Kd.V_mono (Kd.V_far (p := ⟨gb157, 1, none⟩) (Kd.V_far (p := ⟨gb157, 0, none⟩) (Kd.V_mono HO161.out (fun k_ hk => (⟨hk, hk⟩ : _ ∧ k_ ≠ gb157))) (fun _ hk => hk.2) (.int .i64 t158)) (fun _ hk => hk.2) (.slice Ao70 t159.length co70)) (fun _ h_ => h_.1))) (Kd.R_base ho0) hb); have n1_ := am (Kd.R_lower ho0 (below_size (pb HB))); have n2_ := am (blk_below (g := gb157) (o := .cells #[.int .i64 t158, .slice Ao70 t159.length co70] 25 (0, 0)) (by (with_reducible repeat (first | refine blk_drewN ?_ _ | refine blk_drew ?_ | refine blk_alloc ?_ _)); refine blk_put (cs := #[.int .i64 t158, .slice A0_1 l0_1.length c0_1]) ?_ 1 _ rfl; (with_reducible repeat (first | refine blk_drewN ?_ _ | refine blk_drew ?_ | refine blk_alloc ?_ _)); refine blk_put (cs := #[.int .i64 a0_0, .slice A0_1 l0_1.length c0_1]) ?_ 0 _ rfl; (with_reducible repeat (first | refine blk_drewN ?_ _ | refine blk_drew ?_ | refine blk_alloc ?_ _)); exact BK157.out) hb); have n3_ := am (below_step (pb HB) hb); clear HO161 BK157 HB; have HO161 := n0_; have HO164 := n1_; have BK157 := n2_; have HB := n3_; clear n0_ n1_ n2_ n3_; (try clear hb); (try clear hb2); (try clear hk); (try clear hi); (try clear ho0); have hcz72_0 : w71.cell? ⟨gb157, 0, none⟩ = some (.int .i64 t158) := (blk_cell BK157.out 0).trans rfl; have hcz72_1 : w71.cell? ⟨gb157, 1, none⟩ = some (.slice Ao70 t159.length co70) := (blk_cell BK157.out 1).trans rfl; have hfz72_0 := blk_frozen BK157.out 0; have hfz72_1 := blk_frozen BK157.out 1) | ((with_reducible refine gate_callee (f := 20) rfl ?_); refine goesL_ (some 24) rfl rfl Tryd.func20 (by kernel_rfl) rfl #[.agg #[.int .i64 t158, .slice Ao70 t159.length co70]] rfl (by (try simp only [List.map_toArray, List.map_cons, List.map_nil]); first | done | rfl | (simp only [List.length_drop, List.length_take]; rfl)) ?_; (with_reducible refine (bitrow_First.calls t158 _ _ t159 t166 t167 _ ?side3 ?side1 ?side2 A5.out).mono ?_); (case side1 => repeat (first | exact (Kd.V_reads' HO161.out).2.2 | (with_reducible refine Kd.C_alloc ?_ _) | (with_reducible refine Kd.C_drewN ?_ _) | (with_reducible refine Kd.C_drew ?_))); (case side2 => exact (Kd.V_reads' HO161.out).2.1); (case side3 => exact TabOk.below HT.out (pb HB)); rintro e w73 ⟨rfl, hb⟩; refine ⟨_, rfl, ?_⟩; have n0_ := am (Kd.V_below (pv HO161) hb); have n1_ := am (Kd.R_below (pr HO164) hb); have n2_ := bb BK157 hb; have n3_ := am (below_step (pb HB) hb); clear HO161 HO164 BK157 HB; have HO161 := n0_; have HO164 := n1_; have BK157 := n2_; have HB := n3_; clear n0_ n1_ n2_ n3_; (try clear hb); (try clear hb2); (try clear hk); (try clear hi); have hcz74_0 : w73.cell? ⟨gb157, 0, none⟩ = some (.int .i64 t158) := (blk_cell BK157.out 0).trans rfl; have hcz74_1 : w73.cell? ⟨gb157, 1, none⟩ = some (.slice Ao70 t159.length co70) := (blk_cell BK157.out 1).trans rfl; have hfz74_0 := blk_frozen BK157.out 0; have hfz74_1 := blk_frozen BK157.out 1) | ((with_reducible refine gate_callee (f := 21) rfl ?_); refine goesL_ (some 29) rfl rfl Tryd.func21 (by kernel_rfl) rfl #[.agg #[.int .i64 t158, .slice Ao70 t159.length co70]] rfl (by (try simp only [List.map_toArray, List.map_cons, List.map_nil]); first | done | rfl | (simp only [List.length_drop, List.length_take]; rfl)) ?_; (with_reducible refine (bitrow_Count.calls k t158 _ _ t159 t168 t169 _ ?side1 ?side2 A6.out).mono ?_); (case side1 => repeat (first | exact (Kd.V_reads' HO161.out).2.2 | (with_reducible refine Kd.C_alloc ?_ _) | (with_reducible refine Kd.C_drewN ?_ _) | (with_reducible refine Kd.C_drew ?_))); (case side2 => exact (Kd.V_reads' HO161.out).2.1); rintro e w75 ⟨rfl, hb⟩; refine ⟨_, rfl, ?_⟩; have n0_ := am (Kd.V_below (pv HO161) hb); have n1_ := am (Kd.R_below (pr HO164) hb); have n2_ := bb BK157 hb; have n3_ := am (below_step (pb HB) hb); clear HO161 HO164 BK157 HB; have HO161 := n0_; have HO164 := n1_; have BK157 := n2_; have HB := n3_; clear n0_ n1_ n2_ n3_; (try clear hb); (try clear hb2); (try clear hk); (try clear hi); have hcz76_0 : w75.cell? ⟨gb157, 0, none⟩ = some (.int .i64 t158) := (blk_cell BK157.out 0).trans rfl; have hcz76_1 : w75.cell? ⟨gb157, 1, none⟩ = some (.slice Ao70 t159.length co70) := (blk_cell BK157.out 1).trans rfl; have hfz76_0 := blk_frozen BK157.out 0; have hfz76_1 := blk_frozen BK157.out 1) | ((with_reducible refine gate_callee (f := 22) rfl ?_); refine goesL_ (some 35) rfl rfl Tryd.func22 (by kernel_rfl) rfl #[.agg #[.int .i64 t158, .slice Ao70 t159.length co70], .int .i64 a1] rfl (by (try simp only [List.map_toArray, List.map_cons, List.map_nil]); first | done | rfl | (simp only [List.length_drop, List.length_take]; rfl)) ?_; (with_reducible refine (bitrow_Get.calls t158 _ _ t159 a1 t170 t171 _ ?side1 ?side2 A7.out).mono ?_); (case side1 => repeat (first | exact (Kd.V_reads' HO161.out).2.2 | (with_reducible refine Kd.C_alloc ?_ _) | (with_reducible refine Kd.C_drewN ?_ _) | (with_reducible refine Kd.C_drew ?_))); (case side2 => exact (Kd.V_reads' HO161.out).2.1); rintro e w77 ⟨rfl, hb⟩; refine ⟨_, rfl, ?_⟩; have n0_ := am (Kd.V_below (pv HO161) hb); have n1_ := am (Kd.R_below (pr HO164) hb); have n2_ := bb BK157 hb; have n3_ := am (below_step (pb HB) hb); clear HO161 HO164 BK157 HB; have HO161 := n0_; have HO164 := n1_; have BK157 := n2_; have HB := n3_; clear n0_ n1_ n2_ n3_; (try clear hb); (try clear hb2); (try clear hk); (try clear hi); have hcz78_0 : w77.cell? ⟨gb157, 0, none⟩ = some (.int .i64 t158) := (blk_cell BK157.out 0).trans rfl; have hcz78_1 : w77.cell? ⟨gb157, 1, none⟩ = some (.slice Ao70 t159.length co70) := (blk_cell BK157.out 1).trans rfl; have hfz78_0 := blk_frozen BK157.out 0; have hfz78_1 := blk_frozen BK157.out 1) | ((with_reducible refine gate_callee (f := 15) rfl ?_); refine goesL_ (some 39) rfl rfl Tryd.func15 (by kernel_rfl) rfl #[.agg #[.int .i64 t158, .slice Ao70 t159.length co70]] rfl (by (try simp only [List.map_toArray, List.map_cons, List.map_nil]); first | done | rfl | (simp only [List.length_drop, List.length_take]; rfl)) ?_; (with_reducible refine (downpourref01_Right.calls k t158 _ _ t159 false _ ?side1 ?side2 A8.out).mono ?_); (case side1 => repeat (first | exact (Kd.V_reads' HO161.out).2.2 | (with_reducible refine Kd.C_alloc ?_ _) | (with_reducible refine Kd.C_drewN ?_ _) | (with_reducible refine Kd.C_drew ?_))); (case side2 => exact (Kd.V_reads' HO161.out).2.1); rintro e w79 ⟨rfl, hb⟩; refine ⟨_, rfl, ?_⟩; have n0_ := am (Kd.V_below (pv HO161) hb); have n1_ := am (Kd.R_below (pr HO164) hb); have n2_ := bb BK157 hb; have n3_ := am (below_step (pb HB) hb); clear HO161 HO164 BK157 HB; have HO161 := n0_; have HO164 := n1_; have BK157 := n2_; have HB := n3_; clear n0_ n1_ n2_ n3_; (try clear hb); (try clear hb2); (try clear hk); (try clear hi)) | ((with_reducible refine gate_callee (f := 23) rfl ?_); refine goesL_ (some 41) rfl rfl Tryd.func23 (by kernel_rfl) rfl #[] rfl (by (try simp only [List.map_toArray, List.map_cons, List.map_nil]); first | done | rfl | (simp only [List.length_drop, List.length_take]; rfl)) ?_; (with_reducible refine (downpourlaw01_alive.calls k  true _ A59.out).mono ?_); rintro e w80 ⟨rfl, hb⟩; refine ⟨_, rfl, ?_⟩; have n0_ := am (Kd.V_below (pv HO161) hb); have n1_ := am (Kd.R_below (pr HO164) hb); have n2_ := bb BK157 hb; have n3_ := am (below_step (pb HB) hb); clear HO161 HO164 BK157 HB; have HO161 := n0_; have HO164 := n1_; have BK157 := n2_; have HB := n3_; clear n0_ n1_ n2_ n3_; (try clear hb); (try clear hb2); (try clear hk); (try clear hi); obtain ⟨Ao81, co81, eo81⟩ := Kd.R_slice HO164.out; subst eo81))
        go_ret
        exact ⟨by first | rfl | (simp [errW_none, errW_some] <;> rfl) | (simp [*, errW_none, errW_some] <;> rfl), pb HB⟩
       ·
        rw [if_neg c65] at H
        exact absurd H (by simp)
      ·
       rw [if_neg c64] at H
       exact absurd H (by simp)
     ·
      rw [if_neg c63] at H
      exact absurd H (by simp)
    ·
     rw [if_neg c62] at H
     exact absurd H (by simp)
   ·
    rw [if_neg c61] at H
    exact absurd H (by simp)
  ·
   replace c60 := Bool.eq_false_iff.mpr c60
   subst c60
   have H1 : (none) = some r := by rw [if_neg (show ¬ (false = true) by decide)] at H; exact H
   clear H
   have H := H1
   clear H1
   exact absurd H (by simp)

/-! ### bitrow_Xor_1: function 69 -/
def bitrow_Xor_1.f (a0 : Int) (a1 : Int) : Option (Int) := some (Go.bits .xor .u64 a0 a1)
set_option maxHeartbeats 8000000 in
set_option maxRecDepth 100000 in
theorem bitrow_Xor_1.calls (a0 : Int) (a1 : Int) (r : Int) (w : World) (h : bitrow_Xor_1.f a0 a1 = some r) :
  Calls Tryd.prog 69 #[.int .u64 a0, .int .u64 a1] w fun e w' => e = .returned (.int .u64 r) ∧ Drawn0 w w' := by
 have H : (some (Go.bits .xor .u64 a0 a1)) = some r := h
 clear h
 obtain rfl := Option.some.inj H
 go_enter Tryd.func69, Tryd.ntmps69
 go_wp2
 go_ret
 exact ⟨by first | rfl | (simp; done) | (simp [*]; done), by repeat (first | exact Drawn0.refl _ | apply Drawn0.step)⟩

end Go.Proofs.YtfcedhejbnoinaaDoor.PA
