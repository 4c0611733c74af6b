-- PRINTED by print.py (a twelfth state) out of the translation. Not trusted: Lean checks it.
import Derived.Test.YtfdcjkhckjnaeaaPAx0
import Derived.Test.YtfdcjkhckjnaeaaPAx1
import Derived.Test.YtfdcjkhckjnaeaaPAx2
import Derived.Test.YtfdcjkhckjnaeaaPAx5
import Derived.Test.YtfdcjkhckjnaeaaPAx6
import Derived.Test.YtfdcjkhckjnaeaaPAx7
namespace Go.Proofs.Ytfdcjkhckjnaeaa.PA
open Go.RowKit Go.Proofs.YtfdcjkhckjnaeaaW.PrintWords Go.Proofs.YtfdcjkhckjnaeaaW.PrintLast Go.Proofs.YtfdcjkhckjnaeaaW.PrintMore
attribute [local go_sem] max2_int min2_int max_two min_two max_three min_three max_four min_four   -- for this text's walks alone
set_option linter.unusedVariables false
set_option linter.unusedSimpArgs false

/-! ### downpourlaw01_BitrowJoins: function 4 -/
mutual
def downpourlaw01_BitrowJoins.j1 : Nat → Int → Int → Int → Int → List Int → Int → List Int → Int → List Int → Int → List Int → Option (Bool)
  | 0, _, _, _, _, _, _, _, _, _, _, _ => none
  | k + 1, x6, x8, x9, x297000, x297001, x298000, x298001, x312000, x312001, x318000, x318001 => if x9 = 0 then ((downpourlaw01_alive.f k).bind fun t323 => (if t323 = true then (if x6 = 0 then (if x8 = 0 then ((downpourref01_Xor.f k x297000 x297001 x298000 x298001).bind fun bt324 => ((downpourref01_Same.f k x312000 x312001 bt324.1 bt324.2).bind fun t328 => (if t328 = true then ((downpourref01_And.f k x297000 x297001 x298000 x298001).bind fun bt329 => ((downpourref01_Same.f k x318000 x318001 bt329.1 bt329.2).bind fun t333 => (some t333))) else (none)))) else (none)) else (none)) else (none))) else ((downpourlaw01_alive.f k).bind fun t320 => (if t320 = true then (if x6 = x9 then (if x8 = x9 then ((downpourref01_Same.f k x312000 x312001 0 ([] : List Int)).bind fun t321 => (if t321 = true then ((downpourref01_Same.f k x318000 x318001 0 ([] : List Int)).bind fun t322 => (some t322)) else (none))) else (none)) else (none)) else (none)))
def downpourlaw01_BitrowJoins.j0 : Nat → Int → Int → Int → Bool → Int → List Int → Int → List Int → Int → List Int → Int → List Int → Option (Bool)
  | 0, _, _, _, _, _, _, _, _, _, _, _, _ => none
  | k + 1, x6, x8, x9, x26, x297000, x297001, x298000, x298001, x312000, x312001, x318000, x318001 => if x26 = true then (downpourlaw01_BitrowJoins.j1 k x6 x8 1 x297000 x297001 x298000 x298001 x312000 x312001 x318000 x318001) else (if x297000 = x298000 then (downpourlaw01_BitrowJoins.j1 k x6 x8 x9 x297000 x297001 x298000 x298001 x312000 x312001 x318000 x318001) else (downpourlaw01_BitrowJoins.j1 k x6 x8 2 x297000 x297001 x298000 x298001 x312000 x312001 x318000 x318001))
end
def downpourlaw01_BitrowJoins.f (k : Nat) (a0_0 : Int) (l0_1 : List Int) (a1_0 : Int) (l1_1 : List Int) : Option (Bool) := (downpourlaw01_few.f a0_0 l0_1).bind fun bt298 => ((downpourlaw01_few.f a1_0 l1_1).bind fun bt302 => ((bitrow_Xor.f k bt298.1 bt298.2 bt302.1 bt302.2).bind fun bt306 => ((bitrow_And.f k bt298.1 bt298.2 bt302.1 bt302.2).bind fun bt312 => ((downpourref01_Right.f k bt298.1 bt298.2).bind fun t318 => (if t318 = true then ((downpourref01_Right.f k bt302.1 bt302.2).bind fun t319 => (downpourlaw01_BitrowJoins.j0 k bt306.2.2 bt312.2.2 0 (!t319) bt298.1 bt298.2 bt302.1 bt302.2 bt306.1 bt306.2.1 bt312.1 bt312.2.1)) else (downpourlaw01_BitrowJoins.j0 k bt306.2.2 bt312.2.2 0 true bt298.1 bt298.2 bt302.1 bt302.2 bt306.1 bt306.2.1 bt312.1 bt312.2.1))))))
theorem downpourlaw01_BitrowJoins.mono_l : ∀ k, (∀ y0 y1 y2 y3 y4 y5 y6 y7 y8 y9 y10, LeO (downpourlaw01_BitrowJoins.j1 k y0 y1 y2 y3 y4 y5 y6 y7 y8 y9 y10) (downpourlaw01_BitrowJoins.j1 (k + 1) y0 y1 y2 y3 y4 y5 y6 y7 y8 y9 y10)) ∧ (∀ y0 y1 y2 y3 y4 y5 y6 y7 y8 y9 y10 y11, LeO (downpourlaw01_BitrowJoins.j0 k y0 y1 y2 y3 y4 y5 y6 y7 y8 y9 y10 y11) (downpourlaw01_BitrowJoins.j0 (k + 1) y0 y1 y2 y3 y4 y5 y6 y7 y8 y9 y10 y11))
  | 0 => ⟨fun _ _ _ _ _ _ _ _ _ _ _ r h => by simp [downpourlaw01_BitrowJoins.j1] at h, fun _ _ _ _ _ _ _ _ _ _ _ _ r h => by simp [downpourlaw01_BitrowJoins.j0] at h⟩
  | k + 1 => by
    obtain ⟨ih0, ih1⟩ := downpourlaw01_BitrowJoins.mono_l k
    refine ⟨?_, ?_⟩
    · intro y0 y1 y2 y3 y4 y5 y6 y7 y8 y9 y10
      unfold downpourlaw01_BitrowJoins.j1
      repeat' first
      | (with_reducible exact ih0 _ _ _ _ _ _ _ _ _ _ _)
      | (with_reducible exact ih1 _ _ _ _ _ _ _ _ _ _ _ _)
      | (with_reducible exact bitrow_And.mono _ _ _ _ _)
      | (with_reducible exact bitrow_Xor.mono _ _ _ _ _)
      | (with_reducible exact downpourlaw01_alive.mono _)
      | (with_reducible exact downpourref01_And.mono _ _ _ _ _)
      | (with_reducible exact downpourref01_Right.mono _ _ _)
      | (with_reducible exact downpourref01_Same.mono _ _ _ _ _)
      | (with_reducible exact downpourref01_Xor.mono _ _ _ _ _)
      | (with_reducible exact LeO.refl _)
      | (with_reducible exact LeO.none _)
      | (with_reducible refine LeO.ite ?_ ?_)
      | (with_reducible refine LeO.bind ?_ (fun _ => ?_))
      | exact ih0 _ _ _ _ _ _ _ _ _ _ _
      | exact ih1 _ _ _ _ _ _ _ _ _ _ _ _
      | exact bitrow_And.mono _ _ _ _ _
      | exact bitrow_Xor.mono _ _ _ _ _
      | exact downpourlaw01_alive.mono _
      | exact downpourref01_And.mono _ _ _ _ _
      | exact downpourref01_Right.mono _ _ _
      | exact downpourref01_Same.mono _ _ _ _ _
      | exact downpourref01_Xor.mono _ _ _ _ _
      | exact LeO.none _
      | refine LeO.ite ?_ ?_
      | refine LeO.bind ?_ (fun _ => ?_)
    · intro y0 y1 y2 y3 y4 y5 y6 y7 y8 y9 y10 y11
      unfold downpourlaw01_BitrowJoins.j0
      repeat' first
      | (with_reducible exact ih0 _ _ _ _ _ _ _ _ _ _ _)
      | (with_reducible exact ih1 _ _ _ _ _ _ _ _ _ _ _ _)
      | (with_reducible exact bitrow_And.mono _ _ _ _ _)
      | (with_reducible exact bitrow_Xor.mono _ _ _ _ _)
      | (with_reducible exact downpourlaw01_alive.mono _)
      | (with_reducible exact downpourref01_And.mono _ _ _ _ _)
      | (with_reducible exact downpourref01_Right.mono _ _ _)
      | (with_reducible exact downpourref01_Same.mono _ _ _ _ _)
      | (with_reducible exact downpourref01_Xor.mono _ _ _ _ _)
      | (with_reducible exact LeO.refl _)
      | (with_reducible exact LeO.none _)
      | (with_reducible refine LeO.ite ?_ ?_)
      | (with_reducible refine LeO.bind ?_ (fun _ => ?_))
      | exact ih0 _ _ _ _ _ _ _ _ _ _ _
      | exact ih1 _ _ _ _ _ _ _ _ _ _ _ _
      | exact bitrow_And.mono _ _ _ _ _
      | exact bitrow_Xor.mono _ _ _ _ _
      | exact downpourlaw01_alive.mono _
      | exact downpourref01_And.mono _ _ _ _ _
      | exact downpourref01_Right.mono _ _ _
      | exact downpourref01_Same.mono _ _ _ _ _
      | exact downpourref01_Xor.mono _ _ _ _ _
      | exact LeO.none _
      | refine LeO.ite ?_ ?_
      | refine LeO.bind ?_ (fun _ => ?_)
theorem downpourlaw01_BitrowJoins.mono : ∀ a0 a1 a2 a3 k, LeO (downpourlaw01_BitrowJoins.f k a0 a1 a2 a3) (downpourlaw01_BitrowJoins.f (k + 1) a0 a1 a2 a3) := by
  intro a0 a1 a2 a3 k
  obtain ⟨ih0, ih1⟩ := downpourlaw01_BitrowJoins.mono_l k
  unfold downpourlaw01_BitrowJoins.f
  repeat' first
      | (with_reducible exact ih0 _ _ _ _ _ _ _ _ _ _ _)
      | (with_reducible exact ih1 _ _ _ _ _ _ _ _ _ _ _ _)
      | (with_reducible exact bitrow_And.mono _ _ _ _ _)
      | (with_reducible exact bitrow_Xor.mono _ _ _ _ _)
      | (with_reducible exact downpourlaw01_alive.mono _)
      | (with_reducible exact downpourref01_And.mono _ _ _ _ _)
      | (with_reducible exact downpourref01_Right.mono _ _ _)
      | (with_reducible exact downpourref01_Same.mono _ _ _ _ _)
      | (with_reducible exact downpourref01_Xor.mono _ _ _ _ _)
      | (with_reducible exact LeO.refl _)
      | (with_reducible exact LeO.none _)
      | (with_reducible refine LeO.ite ?_ ?_)
      | (with_reducible refine LeO.bind ?_ (fun _ => ?_))
      | exact ih0 _ _ _ _ _ _ _ _ _ _ _
      | exact ih1 _ _ _ _ _ _ _ _ _ _ _ _
      | exact bitrow_And.mono _ _ _ _ _
      | exact bitrow_Xor.mono _ _ _ _ _
      | exact downpourlaw01_alive.mono _
      | exact downpourref01_And.mono _ _ _ _ _
      | exact downpourref01_Right.mono _ _ _
      | exact downpourref01_Same.mono _ _ _ _ _
      | exact downpourref01_Xor.mono _ _ _ _ _
      | exact LeO.none _
      | refine LeO.ite ?_ ?_
      | refine LeO.bind ?_ (fun _ => ?_)
def downpourlaw01_BitrowJoins.T11 : Bool × List (List Nat × List Nat) := (true, [([], []), ([0, 0], [0]), ([1], [1]), ([2, 1], [1, 2]), ([1, 3], [1, 3]), ([4, 1], [4]), ([5], [5]), ([6, 5], [5, 6]), ([5, 7], [5, 7]), ([8, 5], [8]), ([9], [9]), ([9], [9]), ([9], [9]), ([11, 12, 9, 9], [9, 11, 12]), ([10, 13, 13, 9], [9, 10, 13]), ([9, 14], [9, 14]), ([15, 14], [15]), ([16], [16]), ([16], [16]), ([16], [16]), ([18, 19, 16, 16], [16, 18, 19]), ([17, 20, 20, 16], [16, 17, 20]), ([16, 21], [16, 21]), ([22, 21, 0, 1, 2, 3, 4, 5, 6, 7, 8, 9, 10, 11, 12, 13, 14, 15, 16, 17, 18, 19, 20, 21, 22], [22])])
def downpourlaw01_BitrowJoins.B11 : List Nat := [0, 1, 3, 7, 15, 31, 63, 127, 255, 511, 1023, 1023, 1023, 7167, 16383, 32767, 65535, 131071, 131071, 131071, 917503, 2097151, 4194303, 8388607]
theorem downpourlaw01_BitrowJoins.tab11 : rtab .any (opsOf Try.f4 11) = downpourlaw01_BitrowJoins.T11 := by kernel_rfl
theorem downpourlaw01_BitrowJoins.bits11 : waitsOk downpourlaw01_BitrowJoins.T11.2 downpourlaw01_BitrowJoins.B11 = true := by kernel_rfl
set_option maxHeartbeats 8000000 in
set_option maxRecDepth 100000 in
theorem downpourlaw01_BitrowJoins.calls (k : Nat) (a0_0 : Int) (A0_1 : Option Addr) (c0_1 : Nat) (l0_1 : List Int) (a1_0 : Int) (A1_1 : Option Addr) (c1_1 : Nat) (l1_1 : List Int) (r : Bool) (w : World) (hr0_1 : Kd.C (Kd.int .u64) w A0_1 l0_1.length l0_1) (hc0_1 : l0_1.length ≤ c0_1) (hr1_1 : Kd.C (Kd.int .u64) w A1_1 l1_1.length l1_1) (hc1_1 : l1_1.length ≤ c1_1) (h : downpourlaw01_BitrowJoins.f k a0_0 l0_1 a1_0 l1_1 = some r) :
    Calls Try.prog 4 #[.agg #[.int .i64 a0_0, .slice A0_1 l0_1.length c0_1], .agg #[.int .i64 a1_0, .slice A1_1 l1_1.length c1_1]] w fun e w' => e = .returned (.bool r) ∧ Below w.heap.size w w' := by
  have hu25 := Try.underlying25
  have HR0_1 := Aside0.mk hr0_1
  have HC0_1 := Aside0.mk hc0_1
  clear hr0_1 hc0_1
  have HR1_1 := Aside0.mk hr1_1
  have HC1_1 := Aside0.mk hc1_1
  clear hr1_1 hc1_1
  have HB := Aside0.mk (Below.refl w.heap.size w)
  have H : ((downpourlaw01_few.f a0_0 l0_1).bind fun bt298 => ((downpourlaw01_few.f a1_0 l1_1).bind fun bt302 => ((bitrow_Xor.f k bt298.1 bt298.2 bt302.1 bt302.2).bind fun bt306 => ((bitrow_And.f k bt298.1 bt298.2 bt302.1 bt302.2).bind fun bt312 => ((downpourref01_Right.f k bt298.1 bt298.2).bind fun t318 => (if t318 = true then ((downpourref01_Right.f k bt302.1 bt302.2).bind fun t319 => (downpourlaw01_BitrowJoins.j0 k bt306.2.2 bt312.2.2 0 (!t319) bt298.1 bt298.2 bt302.1 bt302.2 bt306.1 bt306.2.1 bt312.1 bt312.2.1)) else (downpourlaw01_BitrowJoins.j0 k bt306.2.2 bt312.2.2 0 true bt298.1 bt298.2 bt302.1 bt302.2 bt306.1 bt306.2.1 bt312.1 bt312.2.1))))))) = some r := h
  clear h
  replace H := Option.bind_eq_some_iff.mp H
  obtain ⟨⟨t298, t299⟩, A30, H⟩ := H
  replace H : ((downpourlaw01_few.f a1_0 l1_1).bind fun bt302 => ((bitrow_Xor.f k t298 t299 bt302.1 bt302.2).bind fun bt306 => ((bitrow_And.f k t298 t299 bt302.1 bt302.2).bind fun bt312 => ((downpourref01_Right.f k t298 t299).bind fun t318 => (if t318 = true then ((downpourref01_Right.f k bt302.1 bt302.2).bind fun t319 => (downpourlaw01_BitrowJoins.j0 k bt306.2.2 bt312.2.2 0 (!t319) t298 t299 bt302.1 bt302.2 bt306.1 bt306.2.1 bt312.1 bt312.2.1)) else (downpourlaw01_BitrowJoins.j0 k bt306.2.2 bt312.2.2 0 true t298 t299 bt302.1 bt302.2 bt306.1 bt306.2.1 bt312.1 bt312.2.1)))))) = some r := H
  have A3 := Aside0.mk A30
  clear A30
  replace H := Option.bind_eq_some_iff.mp H
  obtain ⟨⟨t302, t303⟩, A40, H⟩ := H
  replace H : ((bitrow_Xor.f k t298 t299 t302 t303).bind fun bt306 => ((bitrow_And.f k t298 t299 t302 t303).bind fun bt312 => ((downpourref01_Right.f k t298 t299).bind fun t318 => (if t318 = true then ((downpourref01_Right.f k t302 t303).bind fun t319 => (downpourlaw01_BitrowJoins.j0 k bt306.2.2 bt312.2.2 0 (!t319) t298 t299 t302 t303 bt306.1 bt306.2.1 bt312.1 bt312.2.1)) else (downpourlaw01_BitrowJoins.j0 k bt306.2.2 bt312.2.2 0 true t298 t299 t302 t303 bt306.1 bt306.2.1 bt312.1 bt312.2.1))))) = some r := H
  have A4 := Aside0.mk A40
  clear A40
  replace H := Option.bind_eq_some_iff.mp H
  obtain ⟨⟨t306, t307, t310⟩, A50, H⟩ := H
  replace H : ((bitrow_And.f k t298 t299 t302 t303).bind fun bt312 => ((downpourref01_Right.f k t298 t299).bind fun t318 => (if t318 = true then ((downpourref01_Right.f k t302 t303).bind fun t319 => (downpourlaw01_BitrowJoins.j0 k t310 bt312.2.2 0 (!t319) t298 t299 t302 t303 t306 t307 bt312.1 bt312.2.1)) else (downpourlaw01_BitrowJoins.j0 k t310 bt312.2.2 0 true t298 t299 t302 t303 t306 t307 bt312.1 bt312.2.1)))) = some r := H
  have A5 := Aside0.mk A50
  clear A50
  replace H := Option.bind_eq_some_iff.mp H
  obtain ⟨⟨t312, t313, t316⟩, A60, H⟩ := H
  replace H : ((downpourref01_Right.f k t298 t299).bind fun t318 => (if t318 = true then ((downpourref01_Right.f k t302 t303).bind fun t319 => (downpourlaw01_BitrowJoins.j0 k t310 t316 0 (!t319) t298 t299 t302 t303 t306 t307 t312 t313)) else (downpourlaw01_BitrowJoins.j0 k t310 t316 0 true t298 t299 t302 t303 t306 t307 t312 t313))) = some r := H
  have A6 := Aside0.mk A60
  clear A60
  have HC7 := Aside0.mk H
  clear H
  go_enter Try.func4, Try.ntmps4
  try go_wp2_with (first | ((with_reducible refine gate_dst (N := 2) rfl ?_); refine box_event ?hg (N := 2) ?hd (cs := #[.int .i64 a0_0, .slice A0_1 l0_1.length c0_1]) (t := 25) ?hr ?_; (case hd => rfl); (case hg => rfl); (case hr => first | (go_simp; done) | (go_simp; rfl)); intro gb296 hg w8 hbox hb; have n0_ := Aside0.mk (below_step (by repeat (first | (with_reducible first | exact HB.out | apply below_alloc | apply pw_below_drewN | apply below_drew1) | exact HB.out)) hb); have n1_ := Aside0.mk (hbox); have n2_ := Aside0.mk ((by rw [hg]; exact (below_size (by repeat (first | (with_reducible first | exact HB.out | apply below_alloc | apply pw_below_drewN | apply below_drew1) | exact HB.out))) : w.heap.size ≤ gb296)); have n3_ := Aside0.mk ((by rw [hg]; exact (below_size (by repeat (first | (with_reducible first | exact HB.out | apply below_alloc | apply pw_below_drewN | apply below_drew1) | exact HB.out))) : w.heap.size ≤ gb296)); clear HB; have HB := n0_; have BK296 := n1_; have GW296 := n2_; have GE296 := n3_; clear n0_ n1_ n2_ n3_ hb hbox hg) | ((with_reducible refine gate_dst (N := 3) rfl ?_); refine box_event ?hg (N := 3) ?hd (cs := #[.int .i64 a1_0, .slice A1_1 l1_1.length c1_1]) (t := 25) ?hr ?_; (case hd => rfl); (case hg => rfl); (case hr => first | (go_simp; done) | (go_simp; rfl)); intro gb297 hg w9 hbox hb; have n0_ := bb BK296 hb; have n1_ := Aside0.mk (below_step (by repeat (first | (with_reducible first | exact HB.out | apply below_alloc | apply pw_below_drewN | apply below_drew1 | refine below_set ?_ GE296.out) | exact HB.out)) hb); have n2_ := Aside0.mk (hbox); have n3_ := Aside0.mk ((by rw [hg]; exact (below_size (by repeat (first | (with_reducible first | exact HB.out | apply below_alloc | apply pw_below_drewN | apply below_drew1 | refine below_set ?_ GE296.out) | exact HB.out))) : w.heap.size ≤ gb297)); have n4_ := Aside0.mk ((by rw [hg]; exact (below_size (by repeat (first | (with_reducible first | exact HB.out | apply below_alloc | apply pw_below_drewN | apply below_drew1 | refine below_set ?_ GE296.out) | exact HB.out))) : w.heap.size ≤ gb297)); have n5_ := Aside0.mk ((by rw [hg]; exact Nat.ne_of_lt (bl BK296) : gb296 ≠ gb297)); have n6_ := Aside0.mk ((by rw [hg]; exact Nat.ne_of_gt (bl BK296) : gb297 ≠ gb296)); clear BK296 HB; have BK296 := n0_; have HB := n1_; have BK297 := n2_; have GW297 := n3_; have GE297 := n4_; have NB296_297 := n5_; have NB297_296 := n6_; clear n0_ n1_ n2_ n3_ n4_ n5_ n6_ hb hbox hg))
  have n0_ := Aside0.mk (blk_drew BK296.out)
  have n1_ := Aside0.mk (blk_drew BK297.out)
  have n2_ := Aside0.mk (below_drew1 HB.out)
  clear BK296
  clear BK297
  clear HB
  have BK296 := n0_
  have BK297 := n1_
  have HB := n2_
  clear n0_ n1_ n2_
  refine start_ (n := 6) (S := fun w' => w'.cell? ⟨gb296, 0, none⟩ = some (.int .i64 a0_0) ∧ w'.cell? ⟨gb296, 1, none⟩ = some (.slice A0_1 l0_1.length c0_1) ∧ w'.cell? ⟨gb297, 0, none⟩ = some (.int .i64 a1_0) ∧ w'.cell? ⟨gb297, 1, none⟩ = some (.slice A1_1 l1_1.length c1_1)) (ds := [4, 5]) #[false, false, false, false, false, false] (by kernel_rfl) rfl rfl ⟨(blk_cell BK296.out 0).trans rfl, (blk_cell BK296.out 1).trans rfl, (blk_cell BK297.out 0).trans rfl, (blk_cell BK297.out 1).trans rfl⟩ (fun hHeld => ?_)
  generalize w9.drew = w10 at BK296 BK297 HB hHeld ⊢
  refine take_ (i := 0) (N := some 10) (v := ?_) (a' := ?_) #[true, false, false, false, false, false] rfl rfl (by kernel_rfl) (fun _ _ _ h => h) (Or.inl ⟨by rfl, ?_⟩) hHeld ?_ ?_
  rotate_left
  · rintro w' ⟨s0, s1, s2, s3⟩
    go_simp
    with_reducible rfl
  rotate_left
  · simp only [Act.put, List.setIfInBounds_toArray, List.set_cons_zero, List.set_cons_succ, i64_w, i32_w]
    rfl
  refine take_ (i := 2) (N := some 12) (v := ?_) (a' := ?_) #[true, false, true, false, false, false] rfl rfl (by kernel_rfl) (fun _ _ _ h => h) (Or.inl ⟨by rfl, ?_⟩) hHeld ?_ ?_
  rotate_left
  · rintro w' ⟨s0, s1, s2, s3⟩
    go_simp
    with_reducible rfl
  rotate_left
  · simp only [Act.put, List.setIfInBounds_toArray, List.set_cons_zero, List.set_cons_succ, i64_w, i32_w]
    rfl
  refine one_ (i := 1) (N := some 11) #[true, true, true, false, false, false] rfl rfl (by kernel_rfl) (by decide) (fun K hK => ?_)
  refine goes_ Try.func19 (by kernel_rfl) rfl #[.agg #[.int .i64 a0_0, .slice A0_1 l0_1.length c0_1]] (by rfl) rfl rfl (by (try simp only [List.map_toArray, List.map_cons, List.map_nil]); first | done | rfl | (simp only [List.length_drop, List.length_take]; rfl)) ?_
  with_reducible refine (downpourlaw01_few.calls a0_0 (fun k_ => k_ < w.heap.size) _ _ l0_1 t298 t299 _ ?side1 A3.out).mono ?_
  (case side1 => exact Kd.V_mk HC0_1.out (Kd.F_below (Kd.C_F (Kd.heap_int .u64) HR0_1.out) (by repeat (first | (with_reducible first | exact HB.out | apply below_alloc | apply pw_below_drewN | apply below_drew1 | refine below_set ?_ GE296.out | refine below_set ?_ GE297.out) | exact HB.out))))
  rintro e w11 ⟨v300, rfl, ho0, hb⟩
  refine ⟨_, rfl, ?_⟩
  have n0_ := Aside0.mk (Kd.V_lower (Kd.V_mono (ok' := fun k_ => k_ ≠ gb296 ∧ k_ ≠ gb297) ho0 (fun k_ hk_ => ⟨Or.elim hk_ (fun hs_ => fun e_ => Nat.not_le.2 hs_ (by rw [e_]; exact GW296.out)) (fun hn_ => (Kd.freshB (g := gb296) (o := .cells #[.int .i64 a0_0, .slice A0_1 l0_1.length c0_1] 25 (0, 0)) (pk BK296) k_ hn_)), Or.elim hk_ (fun hs_ => fun e_ => Nat.not_le.2 hs_ (by rw [e_]; exact GW297.out)) (fun hn_ => (Kd.freshB (g := gb297) (o := .cells #[.int .i64 a1_0, .slice A1_1 l1_1.length c1_1] 25 (0, 0)) (pk BK297) k_ hn_))⟩)) (below_size (by repeat (first | (with_reducible first | exact HB.out | apply below_alloc | apply pw_below_drewN | apply below_drew1 | refine below_set ?_ GE296.out | refine below_set ?_ GE297.out) | exact HB.out))))
  have n1_ := bb BK296 hb
  have n2_ := bb BK297 hb
  have n3_ := Aside0.mk (below_step (by repeat (first | (with_reducible first | exact HB.out | apply below_alloc | apply pw_below_drewN | apply below_drew1 | refine below_set ?_ GE296.out | refine below_set ?_ GE297.out) | exact HB.out)) hb)
  clear BK296
  clear BK297
  clear HB
  have HO301 := n0_
  have BK296 := n1_
  have BK297 := n2_
  have HB := n3_
  clear n0_ n1_ n2_ n3_
  (try clear hb)
  (try clear hb2)
  (try clear hk)
  (try clear hi)
  (try clear ho0)
  refine hK.out _ _ ⟨(blk_cell BK296.out 0).trans rfl, (blk_cell BK296.out 1).trans rfl, (blk_cell BK297.out 0).trans rfl, (blk_cell BK297.out 1).trans rfl⟩ (fun hHeld => ?_)
  clear hK K
  refine norm_ (a' := ?_) ?_ ?_
  rotate_left
  · show Act.put _ (some 11) _ = _
    simp only [Act.put, List.setIfInBounds_toArray, List.set_cons_zero, List.set_cons_succ, i64_w, i32_w]
    rfl
  refine one_ (i := 3) (N := some 13) #[true, true, true, true, false, false] rfl rfl (by kernel_rfl) (by decide) (fun K hK => ?_)
  refine goes_ Try.func19 (by kernel_rfl) rfl #[.agg #[.int .i64 a1_0, .slice A1_1 l1_1.length c1_1]] (by rfl) rfl rfl (by (try simp only [List.map_toArray, List.map_cons, List.map_nil]); first | done | rfl | (simp only [List.length_drop, List.length_take]; rfl)) ?_
  with_reducible refine (downpourlaw01_few.calls a1_0 (fun k_ => k_ < w.heap.size) _ _ l1_1 t302 t303 _ ?side1 A4.out).mono ?_
  (case side1 => exact Kd.V_mk HC1_1.out (Kd.F_below (Kd.C_F (Kd.heap_int .u64) HR1_1.out) (by repeat (first | (with_reducible first | exact HB.out | apply below_alloc | apply pw_below_drewN | apply below_drew1 | refine below_set ?_ GE296.out | refine below_set ?_ GE297.out) | exact HB.out))))
  rintro e w12 ⟨v304, rfl, ho0, hb⟩
  refine ⟨_, rfl, ?_⟩
  have n0_ := Aside0.mk (Kd.V_below (pv HO301) hb)
  have n1_ := Aside0.mk (Kd.V_lower (Kd.V_mono (ok' := fun k_ => k_ ≠ gb296 ∧ k_ ≠ gb297) ho0 (fun k_ hk_ => ⟨Or.elim hk_ (fun hs_ => fun e_ => Nat.not_le.2 hs_ (by rw [e_]; exact GW296.out)) (fun hn_ => (Kd.freshB (g := gb296) (o := .cells #[.int .i64 a0_0, .slice A0_1 l0_1.length c0_1] 25 (0, 0)) (pk BK296) k_ hn_)), Or.elim hk_ (fun hs_ => fun e_ => Nat.not_le.2 hs_ (by rw [e_]; exact GW297.out)) (fun hn_ => (Kd.freshB (g := gb297) (o := .cells #[.int .i64 a1_0, .slice A1_1 l1_1.length c1_1] 25 (0, 0)) (pk BK297) k_ hn_))⟩)) (below_size (by repeat (first | (with_reducible first | exact HB.out | apply below_alloc | apply pw_below_drewN | apply below_drew1 | refine below_set ?_ GE296.out | refine below_set ?_ GE297.out) | exact HB.out))))
  have n2_ := bb BK296 hb
  have n3_ := bb BK297 hb
  have n4_ := Aside0.mk (below_step (by repeat (first | (with_reducible first | exact HB.out | apply below_alloc | apply pw_below_drewN | apply below_drew1 | refine below_set ?_ GE296.out | refine below_set ?_ GE297.out) | exact HB.out)) hb)
  clear HO301
  clear BK296
  clear BK297
  clear HB
  have HO301 := n0_
  have HO305 := n1_
  have BK296 := n2_
  have BK297 := n3_
  have HB := n4_
  clear n0_ n1_ n2_ n3_ n4_
  (try clear hb)
  (try clear hb2)
  (try clear hk)
  (try clear hi)
  (try clear ho0)
  obtain ⟨Ao14, co14, eo14⟩ := Kd.V_slice HO301.out
  (first | subst eo14 | (injection eo14 with f1_ f2_ f3_; have f4_ := f1_.symm; have f5_ := f3_.symm; clear f1_ f2_ f3_; subst f4_; subst f5_))
  obtain ⟨Ao17, co17, eo17⟩ := Kd.V_slice HO305.out
  (first | subst eo17 | (injection eo17 with f1_ f2_ f3_; have f4_ := f1_.symm; have f5_ := f3_.symm; clear f1_ f2_ f3_; subst f4_; subst f5_))
  refine hK.out _ _ ⟨(blk_cell BK296.out 0).trans rfl, (blk_cell BK296.out 1).trans rfl, (blk_cell BK297.out 0).trans rfl, (blk_cell BK297.out 1).trans rfl⟩ (fun hHeld => ?_)
  clear hK K
  refine norm_ (a' := ?_) ?_ ?_
  rotate_left
  · show Act.put _ (some 13) _ = _
    simp only [Act.put, List.setIfInBounds_toArray, List.set_cons_zero, List.set_cons_succ, i64_w, i32_w]
    rfl
  refine last_ (i := 4) (N := none) #[true, true, true, true, true, false] rfl rfl (by kernel_rfl) (by decide) (fun K hK => ?_)
  have hs13 : w12.cell? ⟨gb296, 0, none⟩ = some (.int .i64 a0_0) := (blk_cell BK296.out 0).trans rfl
  have hfs13 := blk_frozen BK296.out 0
  have hns13_1 := NB297_296.out
  have hms13_1 := NB296_297.out
  have hs15 : w12.cell? ⟨gb296, 1, none⟩ = some (.slice A0_1 l0_1.length c0_1) := (blk_cell BK296.out 1).trans rfl
  have hfs15 := blk_frozen BK296.out 1
  have hns15_1 := NB297_296.out
  have hms15_1 := NB296_297.out
  refine skip_ (w1 := ?_) (by rfl) rfl ?_ ?_
  rotate_left
  · go_simp
    rfl
  refine hK.out _ _ ?_
  clear hK K
  refine last_ (i := 5) (N := none) #[true, true, true, true, true, true] rfl rfl (by kernel_rfl) (by decide) (fun K hK => ?_)
  have hs16 : w12.cell? ⟨gb297, 0, none⟩ = some (.int .i64 a1_0) := (blk_cell BK297.out 0).trans rfl
  have hfs16 := blk_frozen BK297.out 0
  have hns16_0 := NB296_297.out
  have hms16_0 := NB297_296.out
  have hs18 : w12.cell? ⟨gb297, 1, none⟩ = some (.slice A1_1 l1_1.length c1_1) := (blk_cell BK297.out 1).trans rfl
  have hfs18 := blk_frozen BK297.out 1
  have hns18_0 := NB296_297.out
  have hms18_0 := NB297_296.out
  refine skip_ (w1 := ?_) (by rfl) rfl ?_ ?_
  rotate_left
  · go_simp
    rfl
  refine hK.out _ _ ?_
  clear hK K
  refine done_ (by kernel_rfl) ?_
  have hnb19 := NB296_297.out
  have hnc19 := NB297_296.out
  have hcz20_0 : w12.cell? ⟨gb296, 0, none⟩ = some (.int .i64 a0_0) := (blk_cell BK296.out 0).trans rfl
  have hcz20_1 : w12.cell? ⟨gb296, 1, none⟩ = some (.slice A0_1 l0_1.length c0_1) := (blk_cell BK296.out 1).trans rfl
  have hfz20_0 := blk_frozen BK296.out 0
  have hfz20_1 := blk_frozen BK296.out 1
  have hcz21_0 : w12.cell? ⟨gb297, 0, none⟩ = some (.int .i64 a1_0) := (blk_cell BK297.out 0).trans rfl
  have hcz21_1 : w12.cell? ⟨gb297, 1, none⟩ = some (.slice A1_1 l1_1.length c1_1) := (blk_cell BK297.out 1).trans rfl
  have hfz21_0 := blk_frozen BK297.out 0
  have hfz21_1 := blk_frozen BK297.out 1
  go_upto_block 0 with (first | ((with_reducible refine gate_callee (f := 29) rfl ?_); refine goesL_ (some 17) rfl rfl Try.func29 (by kernel_rfl) rfl #[.agg #[.int .i64 t298, .slice Ao14 t299.length co14], .agg #[.int .i64 t302, .slice Ao17 t303.length co17]] rfl (by (try simp only [List.map_toArray, List.map_cons, List.map_nil]); first | done | rfl | (simp only [List.length_drop, List.length_take]; rfl)) ?_; (with_reducible refine (bitrow_Xor.calls k t298 _ _ t299 t302 _ _ t303 t306 t307 t310 _ ?side1 ?side2 ?side3 ?side4 A5.out).mono ?_); (case side1 => refine (Kd.V_reads' (e := 59) (base := w.heap.size) (ok := fun k_ => (k_ ≠ gb296 ∧ k_ ≠ gb297)) (n := t299.length) (c := co14) ?_).2.2; exact (by (with_reducible repeat (first | apply Kd.V_alloc | apply Kd.V_drewN | apply Kd.V_drew)); exact (Kd.V_mono (Kd.V_mono (Kd.V_far (p := ⟨gb297, 1, none⟩) (Kd.V_far (p := ⟨gb297, 0, none⟩) (Kd.V_far (p := ⟨gb296, 1, none⟩) (Kd.V_far (p := ⟨gb296, 0, none⟩) (Kd.V_mono (Kd.V_mono HO301.out (fun k_ hk => (⟨hk, hk.1⟩ : _ ∧ k_ ≠ gb296))) (fun k_ hk => (⟨hk, hk.1.2⟩ : _ ∧ k_ ≠ gb297))) (fun _ hk => hk.1.2) (.int .i64 t298)) (fun _ hk => hk.1.2) (.slice Ao14 t299.length co14)) (fun _ hk => hk.2) (.int .i64 t302)) (fun _ hk => hk.2) (.slice Ao17 t303.length co17)) (fun _ h_ => h_.1)) (fun _ h_ => h_.1)))); (case side2 => exact (Kd.V_reads' HO301.out).2.1); (case side3 => refine (Kd.V_reads' (e := 59) (base := w.heap.size) (ok := fun k_ => (k_ ≠ gb296 ∧ k_ ≠ gb297)) (n := t303.length) (c := co17) ?_).2.2; exact (by (with_reducible repeat (first | apply Kd.V_alloc | apply Kd.V_drewN | apply Kd.V_drew)); exact (Kd.V_mono (Kd.V_mono (Kd.V_far (p := ⟨gb297, 1, none⟩) (Kd.V_far (p := ⟨gb297, 0, none⟩) (Kd.V_far (p := ⟨gb296, 1, none⟩) (Kd.V_far (p := ⟨gb296, 0, none⟩) (Kd.V_mono (Kd.V_mono HO305.out (fun k_ hk => (⟨hk, hk.1⟩ : _ ∧ k_ ≠ gb296))) (fun k_ hk => (⟨hk, hk.1.2⟩ : _ ∧ k_ ≠ gb297))) (fun _ hk => hk.1.2) (.int .i64 t298)) (fun _ hk => hk.1.2) (.slice Ao14 t299.length co14)) (fun _ hk => hk.2) (.int .i64 t302)) (fun _ hk => hk.2) (.slice Ao17 t303.length co17)) (fun _ h_ => h_.1)) (fun _ h_ => h_.1)))); (case side4 => exact (Kd.V_reads' HO305.out).2.1); rintro e w22 ⟨v308, rfl, ho0, hb⟩; refine ⟨_, rfl, ?_⟩; have n0_ := Aside0.mk (Kd.V_elder' (by (with_reducible repeat (first | apply Kd.V_alloc | apply Kd.V_drewN | apply Kd.V_drew)); exact (Kd.V_mono (Kd.V_mono (Kd.V_far (p := ⟨gb297, 1, none⟩) (Kd.V_far (p := ⟨gb297, 0, none⟩) (Kd.V_far (p := ⟨gb296, 1, none⟩) (Kd.V_far (p := ⟨gb296, 0, none⟩) (Kd.V_mono (Kd.V_mono HO301.out (fun k_ hk => (⟨hk, hk.1⟩ : _ ∧ k_ ≠ gb296))) (fun k_ hk => (⟨hk, hk.1.2⟩ : _ ∧ k_ ≠ gb297))) (fun _ hk => hk.1.2) (.int .i64 t298)) (fun _ hk => hk.1.2) (.slice Ao14 t299.length co14)) (fun _ hk => hk.2) (.int .i64 t302)) (fun _ hk => hk.2) (.slice Ao17 t303.length co17)) (fun _ h_ => h_.1)) (fun _ h_ => h_.1))) (Kd.R_base ho0) hb); have n1_ := Aside0.mk (Kd.V_elder' (by (with_reducible repeat (first | apply Kd.V_alloc | apply Kd.V_drewN | apply Kd.V_drew)); exact (Kd.V_mono (Kd.V_mono (Kd.V_far (p := ⟨gb297, 1, none⟩) (Kd.V_far (p := ⟨gb297, 0, none⟩) (Kd.V_far (p := ⟨gb296, 1, none⟩) (Kd.V_far (p := ⟨gb296, 0, none⟩) (Kd.V_mono (Kd.V_mono HO305.out (fun k_ hk => (⟨hk, hk.1⟩ : _ ∧ k_ ≠ gb296))) (fun k_ hk => (⟨hk, hk.1.2⟩ : _ ∧ k_ ≠ gb297))) (fun _ hk => hk.1.2) (.int .i64 t298)) (fun _ hk => hk.1.2) (.slice Ao14 t299.length co14)) (fun _ hk => hk.2) (.int .i64 t302)) (fun _ hk => hk.2) (.slice Ao17 t303.length co17)) (fun _ h_ => h_.1)) (fun _ h_ => h_.1))) (Kd.R_base ho0) hb); have n2_ := Aside0.mk (Kd.R_lower ho0 (below_size (by repeat (first | (with_reducible first | exact HB.out | apply below_alloc | apply pw_below_drewN | apply below_drew1 | refine below_set ?_ GE296.out | refine below_set ?_ GE297.out) | exact HB.out)))); have n3_ := Aside0.mk (blk_below (g := gb296) (o := .cells #[.int .i64 t298, .slice Ao14 t299.length co14] 25 (0, 0)) (by (with_reducible repeat (first | refine blk_drewN ?_ _ | refine blk_drew ?_ | refine blk_alloc ?_ _)); refine blk_far ?_ NB296_297.out _; (with_reducible repeat (first | refine blk_drewN ?_ _ | refine blk_drew ?_ | refine blk_alloc ?_ _)); refine blk_far ?_ NB296_297.out _; (with_reducible repeat (first | refine blk_drewN ?_ _ | refine blk_drew ?_ | refine blk_alloc ?_ _)); refine blk_put (cs := #[.int .i64 t298, .slice A0_1 l0_1.length c0_1]) ?_ 1 _ rfl; (with_reducible repeat (first | refine blk_drewN ?_ _ | refine blk_drew ?_ | refine blk_alloc ?_ _)); refine blk_put (cs := #[.int .i64 a0_0, .slice A0_1 l0_1.length c0_1]) ?_ 0 _ rfl; (with_reducible repeat (first | refine blk_drewN ?_ _ | refine blk_drew ?_ | refine blk_alloc ?_ _)); exact BK296.out) hb); have n4_ := Aside0.mk (blk_below (g := gb297) (o := .cells #[.int .i64 t302, .slice Ao17 t303.length co17] 25 (0, 0)) (by (with_reducible repeat (first | refine blk_drewN ?_ _ | refine blk_drew ?_ | refine blk_alloc ?_ _)); refine blk_put (cs := #[.int .i64 t302, .slice A1_1 l1_1.length c1_1]) ?_ 1 _ rfl; (with_reducible repeat (first | refine blk_drewN ?_ _ | refine blk_drew ?_ | refine blk_alloc ?_ _)); refine blk_put (cs := #[.int .i64 a1_0, .slice A1_1 l1_1.length c1_1]) ?_ 0 _ rfl; (with_reducible repeat (first | refine blk_drewN ?_ _ | refine blk_drew ?_ | refine blk_alloc ?_ _)); refine blk_far ?_ NB297_296.out _; (with_reducible repeat (first | refine blk_drewN ?_ _ | refine blk_drew ?_ | refine blk_alloc ?_ _)); refine blk_far ?_ NB297_296.out _; (with_reducible repeat (first | refine blk_drewN ?_ _ | refine blk_drew ?_ | refine blk_alloc ?_ _)); exact BK297.out) hb); have n5_ := Aside0.mk (below_step (by repeat (first | (with_reducible first | exact HB.out | apply below_alloc | apply pw_below_drewN | apply below_drew1 | refine below_set ?_ GE296.out | refine below_set ?_ GE297.out) | exact HB.out)) hb); clear HO301 HO305 BK296 BK297 HB; have HO301 := n0_; have HO305 := n1_; have HO309 := n2_; have BK296 := n3_; have BK297 := n4_; have HB := n5_; clear n0_ n1_ n2_ n3_ n4_ n5_; (try clear hb); (try clear hb2); (try clear hk); (try clear hi); (try clear ho0)) | ((with_reducible refine gate_dst (N := 5) rfl ?_); refine box_event ?hg (N := 5) ?hd (cs := #[.int .i64 0, .slice none 0 0]) (t := 25) ?hr ?_; (case hd => rfl); (case hg => rfl); (case hr => first | (go_simp; done) | (go_simp; rfl)); intro gb311 hg w23 hbox hb; have n0_ := Aside0.mk (Kd.V_below (Kd.V_elderB (pv HO301) gb311 (Nat.le_of_eq hg.symm)) hb); have n1_ := Aside0.mk (Kd.V_below (Kd.V_elderB (pv HO305) gb311 (Nat.le_of_eq hg.symm)) hb); have n2_ := Aside0.mk (Kd.R_below (pr HO309) hb); have n3_ := bb BK296 hb; have n4_ := bb BK297 hb; have n5_ := Aside0.mk (below_step (by repeat (first | (with_reducible first | exact HB.out | apply below_alloc | apply pw_below_drewN | apply below_drew1 | refine below_set ?_ GE296.out | refine below_set ?_ GE297.out) | exact HB.out)) hb); have n6_ := Aside0.mk (hbox); have n7_ := Aside0.mk ((by rw [hg]; exact (below_size (by repeat (first | (with_reducible first | exact HB.out | apply below_alloc | apply pw_below_drewN | apply below_drew1 | refine below_set ?_ GE296.out | refine below_set ?_ GE297.out) | exact HB.out))) : w.heap.size ≤ gb311)); have n8_ := Aside0.mk ((by rw [hg]; exact (below_size (by repeat (first | (with_reducible first | exact HB.out | apply below_alloc | apply pw_below_drewN | apply below_drew1 | refine below_set ?_ GE296.out | refine below_set ?_ GE297.out) | exact HB.out))) : w.heap.size ≤ gb311)); have n9_ := Aside0.mk ((by rw [hg]; exact Nat.ne_of_lt (bl BK296) : gb296 ≠ gb311)); have n10_ := Aside0.mk ((by rw [hg]; exact Nat.ne_of_gt (bl BK296) : gb311 ≠ gb296)); have n11_ := Aside0.mk ((by rw [hg]; exact Nat.ne_of_lt (bl BK297) : gb297 ≠ gb311)); have n12_ := Aside0.mk ((by rw [hg]; exact Nat.ne_of_gt (bl BK297) : gb311 ≠ gb297)); clear HO301 HO305 HO309 BK296 BK297 HB; have HO301 := n0_; have HO305 := n1_; have HO309 := n2_; have BK296 := n3_; have BK297 := n4_; have HB := n5_; have BK311 := n6_; have GW311 := n7_; have GE311 := n8_; have NB296_311 := n9_; have NB311_296 := n10_; have NB297_311 := n11_; have NB311_297 := n12_; clear n0_ n1_ n2_ n3_ n4_ n5_ n6_ n7_ n8_ n9_ n10_ n11_ n12_ hb hbox hg; have hnb24 := NB311_296.out; have hnc24 := NB296_311.out; have hnb25 := NB311_297.out; have hnc25 := NB297_311.out; have hcz26_0 : w23.cell? ⟨gb311, 0, none⟩ = some (.int .i64 0) := (blk_cell BK311.out 0).trans rfl; have hcz26_1 : w23.cell? ⟨gb311, 1, none⟩ = some (.slice none 0 0) := (blk_cell BK311.out 1).trans rfl; have hfz26_0 := blk_frozen BK311.out 0; have hfz26_1 := blk_frozen BK311.out 1; obtain ⟨Ao27, co27, eo27⟩ := Kd.R_slice HO309.out; subst eo27; have hcz28_0 : w23.cell? ⟨gb296, 0, none⟩ = some (.int .i64 t298) := (blk_cell BK296.out 0).trans rfl; have hcz28_1 : w23.cell? ⟨gb296, 1, none⟩ = some (.slice Ao14 t299.length co14) := (blk_cell BK296.out 1).trans rfl; have hfz28_0 := blk_frozen BK296.out 0; have hfz28_1 := blk_frozen BK296.out 1; have hcz29_0 : w23.cell? ⟨gb297, 0, none⟩ = some (.int .i64 t302) := (blk_cell BK297.out 0).trans rfl; have hcz29_1 : w23.cell? ⟨gb297, 1, none⟩ = some (.slice Ao17 t303.length co17) := (blk_cell BK297.out 1).trans rfl; have hfz29_0 := blk_frozen BK297.out 0; have hfz29_1 := blk_frozen BK297.out 1) | ((with_reducible refine gate_callee (f := 30) rfl ?_); refine goesL_ (some 23) rfl rfl Try.func30 (by kernel_rfl) rfl #[.agg #[.int .i64 t298, .slice Ao14 t299.length co14], .agg #[.int .i64 t302, .slice Ao17 t303.length co17]] rfl (by (try simp only [List.map_toArray, List.map_cons, List.map_nil]); first | done | rfl | (simp only [List.length_drop, List.length_take]; rfl)) ?_; (with_reducible refine (bitrow_And.calls k t298 _ _ t299 t302 _ _ t303 t312 t313 t316 _ ?side1 ?side2 ?side3 ?side4 A6.out).mono ?_); (case side1 => refine (Kd.V_reads' (e := 59) (base := w.heap.size) (ok := fun k_ => (((k_ ≠ gb296 ∧ k_ ≠ gb297) ∧ some k_ ≠ (.slice Ao27 t307.length co27 : Value).ownBlock) ∧ k_ ≠ gb311)) (n := t299.length) (c := co14) ?_).2.2; exact (by (with_reducible repeat (first | apply Kd.V_alloc | apply Kd.V_drewN | apply Kd.V_drew)); exact (Kd.V_mono (Kd.V_far (p := ⟨gb311, 1, none⟩) (Kd.V_far (p := ⟨gb311, 0, none⟩) (Kd.V_mono HO301.out (fun k_ hk => (⟨hk, hk.2⟩ : _ ∧ k_ ≠ gb311))) (fun _ hk => hk.2) (.int .i64 t306)) (fun _ hk => hk.2) (.slice Ao27 t307.length co27)) (fun _ h_ => h_.1)))); (case side2 => exact (Kd.V_reads' HO301.out).2.1); (case side3 => refine (Kd.V_reads' (e := 59) (base := w.heap.size) (ok := fun k_ => (((k_ ≠ gb296 ∧ k_ ≠ gb297) ∧ some k_ ≠ (.slice Ao27 t307.length co27 : Value).ownBlock) ∧ k_ ≠ gb311)) (n := t303.length) (c := co17) ?_).2.2; exact (by (with_reducible repeat (first | apply Kd.V_alloc | apply Kd.V_drewN | apply Kd.V_drew)); exact (Kd.V_mono (Kd.V_far (p := ⟨gb311, 1, none⟩) (Kd.V_far (p := ⟨gb311, 0, none⟩) (Kd.V_mono HO305.out (fun k_ hk => (⟨hk, hk.2⟩ : _ ∧ k_ ≠ gb311))) (fun _ hk => hk.2) (.int .i64 t306)) (fun _ hk => hk.2) (.slice Ao27 t307.length co27)) (fun _ h_ => h_.1)))); (case side4 => exact (Kd.V_reads' HO305.out).2.1); rintro e w30 ⟨v314, rfl, ho0, hb⟩; refine ⟨_, rfl, ?_⟩; have n0_ := Aside0.mk (Kd.V_elder' (by (with_reducible repeat (first | apply Kd.V_alloc | apply Kd.V_drewN | apply Kd.V_drew)); exact (Kd.V_mono (Kd.V_far (p := ⟨gb311, 1, none⟩) (Kd.V_far (p := ⟨gb311, 0, none⟩) (Kd.V_mono HO301.out (fun k_ hk => (⟨hk, hk.2⟩ : _ ∧ k_ ≠ gb311))) (fun _ hk => hk.2) (.int .i64 t306)) (fun _ hk => hk.2) (.slice Ao27 t307.length co27)) (fun _ h_ => h_.1))) (Kd.R_base ho0) hb); have n1_ := Aside0.mk (Kd.V_elder' (by (with_reducible repeat (first | apply Kd.V_alloc | apply Kd.V_drewN | apply Kd.V_drew)); exact (Kd.V_mono (Kd.V_far (p := ⟨gb311, 1, none⟩) (Kd.V_far (p := ⟨gb311, 0, none⟩) (Kd.V_mono HO305.out (fun k_ hk => (⟨hk, hk.2⟩ : _ ∧ k_ ≠ gb311))) (fun _ hk => hk.2) (.int .i64 t306)) (fun _ hk => hk.2) (.slice Ao27 t307.length co27)) (fun _ h_ => h_.1))) (Kd.R_base ho0) hb); have n2_ := Aside0.mk (Kd.R_elder' (by (with_reducible repeat (first | apply Kd.R_alloc | apply Kd.R_drewN | apply Kd.R_drew)); exact (Kd.R_mono (Kd.R_far (p := ⟨gb311, 1, none⟩) (Kd.R_far (p := ⟨gb311, 0, none⟩) (Kd.R_types HO309.out BK311.out (by decide)) (fun _ hk => hk.2) (.int .i64 t306)) (fun _ hk => hk.2) (.slice Ao27 t307.length co27)) (fun _ h_ => h_.1))) (Kd.R_base ho0) hb); have n3_ := Aside0.mk (Kd.R_lower (Kd.R_new' ho0 (Kd.R_lt (by (with_reducible repeat (first | apply Kd.R_alloc | apply Kd.R_drewN | apply Kd.R_drew)); exact (Kd.R_mono (Kd.R_far (p := ⟨gb311, 1, none⟩) (Kd.R_far (p := ⟨gb311, 0, none⟩) (Kd.R_types HO309.out BK311.out (by decide)) (fun _ hk => hk.2) (.int .i64 t306)) (fun _ hk => hk.2) (.slice Ao27 t307.length co27)) (fun _ h_ => h_.1))))) (below_size (by repeat (first | (with_reducible first | exact HB.out | apply below_alloc | apply pw_below_drewN | apply below_drew1 | refine below_set ?_ GE296.out | refine below_set ?_ GE297.out | refine below_set ?_ GE311.out) | exact HB.out)))); have n4_ := Aside0.mk (blk_below (g := gb296) (o := .cells #[.int .i64 t298, .slice Ao14 t299.length co14] 25 (0, 0)) (by (with_reducible repeat (first | refine blk_drewN ?_ _ | refine blk_drew ?_ | refine blk_alloc ?_ _)); refine blk_far ?_ NB296_311.out _; (with_reducible repeat (first | refine blk_drewN ?_ _ | refine blk_drew ?_ | refine blk_alloc ?_ _)); refine blk_far ?_ NB296_311.out _; (with_reducible repeat (first | refine blk_drewN ?_ _ | refine blk_drew ?_ | refine blk_alloc ?_ _)); exact BK296.out) hb); have n5_ := Aside0.mk (blk_below (g := gb297) (o := .cells #[.int .i64 t302, .slice Ao17 t303.length co17] 25 (0, 0)) (by (with_reducible repeat (first | refine blk_drewN ?_ _ | refine blk_drew ?_ | refine blk_alloc ?_ _)); refine blk_far ?_ NB297_311.out _; (with_reducible repeat (first | refine blk_drewN ?_ _ | refine blk_drew ?_ | refine blk_alloc ?_ _)); refine blk_far ?_ NB297_311.out _; (with_reducible repeat (first | refine blk_drewN ?_ _ | refine blk_drew ?_ | refine blk_alloc ?_ _)); exact BK297.out) hb); have n6_ := Aside0.mk (blk_below (g := gb311) (o := .cells #[.int .i64 t306, .slice Ao27 t307.length co27] 25 (0, 0)) (by (with_reducible repeat (first | refine blk_drewN ?_ _ | refine blk_drew ?_ | refine blk_alloc ?_ _)); refine blk_put (cs := #[.int .i64 t306, .slice none 0 0]) ?_ 1 _ rfl; (with_reducible repeat (first | refine blk_drewN ?_ _ | refine blk_drew ?_ | refine blk_alloc ?_ _)); refine blk_put (cs := #[.int .i64 0, .slice none 0 0]) ?_ 0 _ rfl; (with_reducible repeat (first | refine blk_drewN ?_ _ | refine blk_drew ?_ | refine blk_alloc ?_ _)); exact BK311.out) hb); have n7_ := Aside0.mk (below_step (by repeat (first | (with_reducible first | exact HB.out | apply below_alloc | apply pw_below_drewN | apply below_drew1 | refine below_set ?_ GE296.out | refine below_set ?_ GE297.out | refine below_set ?_ GE311.out) | exact HB.out)) hb); clear HO301 HO305 HO309 BK296 BK297 BK311 HB; have HO301 := n0_; have HO305 := n1_; have HO309 := n2_; have HO315 := n3_; have BK296 := n4_; have BK297 := n5_; have BK311 := n6_; have HB := n7_; clear n0_ n1_ n2_ n3_ n4_ n5_ n6_ n7_; (try clear hb); (try clear hb2); (try clear hk); (try clear hi); (try clear ho0)) | ((with_reducible refine gate_dst (N := 7) rfl ?_); refine box_event ?hg (N := 7) ?hd (cs := #[.int .i64 0, .slice none 0 0]) (t := 25) ?hr ?_; (case hd => rfl); (case hg => rfl); (case hr => first | (go_simp; done) | (go_simp; rfl)); intro gb317 hg w31 hbox hb; have n0_ := Aside0.mk (Kd.V_below (Kd.V_elderB (pv HO301) gb317 (Nat.le_of_eq hg.symm)) hb); have n1_ := Aside0.mk (Kd.V_below (Kd.V_elderB (pv HO305) gb317 (Nat.le_of_eq hg.symm)) hb); have n2_ := Aside0.mk (Kd.R_below (pr HO309) hb); have n3_ := Aside0.mk (Kd.R_below (pr HO315) hb); have n4_ := bb BK296 hb; have n5_ := bb BK297 hb; have n6_ := bb BK311 hb; have n7_ := Aside0.mk (below_step (by repeat (first | (with_reducible first | exact HB.out | apply below_alloc | apply pw_below_drewN | apply below_drew1 | refine below_set ?_ GE296.out | refine below_set ?_ GE297.out | refine below_set ?_ GE311.out) | exact HB.out)) hb); have n8_ := Aside0.mk (hbox); have n9_ := Aside0.mk ((by rw [hg]; exact (below_size (by repeat (first | (with_reducible first | exact HB.out | apply below_alloc | apply pw_below_drewN | apply below_drew1 | refine below_set ?_ GE296.out | refine below_set ?_ GE297.out | refine below_set ?_ GE311.out) | exact HB.out))) : w.heap.size ≤ gb317)); have n10_ := Aside0.mk ((by rw [hg]; exact (below_size (by repeat (first | (with_reducible first | exact HB.out | apply below_alloc | apply pw_below_drewN | apply below_drew1 | refine below_set ?_ GE296.out | refine below_set ?_ GE297.out | refine below_set ?_ GE311.out) | exact HB.out))) : w.heap.size ≤ gb317)); have n11_ := Aside0.mk ((by rw [hg]; exact Nat.ne_of_lt (bl BK296) : gb296 ≠ gb317)); have n12_ := Aside0.mk ((by rw [hg]; exact Nat.ne_of_gt (bl BK296) : gb317 ≠ gb296)); have n13_ := Aside0.mk ((by rw [hg]; exact Nat.ne_of_lt (bl BK297) : gb297 ≠ gb317)); have n14_ := Aside0.mk ((by rw [hg]; exact Nat.ne_of_gt (bl BK297) : gb317 ≠ gb297)); have n15_ := Aside0.mk ((by rw [hg]; exact Nat.ne_of_lt (bl BK311) : gb311 ≠ gb317)); have n16_ := Aside0.mk ((by rw [hg]; exact Nat.ne_of_gt (bl BK311) : gb317 ≠ gb311)); clear HO301 HO305 HO309 HO315 BK296 BK297 BK311 HB; have HO301 := n0_; have HO305 := n1_; have HO309 := n2_; have HO315 := n3_; have BK296 := n4_; have BK297 := n5_; have BK311 := n6_; have HB := n7_; have BK317 := n8_; have GW317 := n9_; have GE317 := n10_; have NB296_317 := n11_; have NB317_296 := n12_; have NB297_317 := n13_; have NB317_297 := n14_; have NB311_317 := n15_; have NB317_311 := n16_; clear n0_ n1_ n2_ n3_ n4_ n5_ n6_ n7_ n8_ n9_ n10_ n11_ n12_ n13_ n14_ n15_ n16_ hb hbox hg; have hnb32 := NB317_296.out; have hnc32 := NB296_317.out; have hnb33 := NB317_297.out; have hnc33 := NB297_317.out; have hnb34 := NB317_311.out; have hnc34 := NB311_317.out; have hcz35_0 : w31.cell? ⟨gb317, 0, none⟩ = some (.int .i64 0) := (blk_cell BK317.out 0).trans rfl; have hcz35_1 : w31.cell? ⟨gb317, 1, none⟩ = some (.slice none 0 0) := (blk_cell BK317.out 1).trans rfl; have hfz35_0 := blk_frozen BK317.out 0; have hfz35_1 := blk_frozen BK317.out 1; obtain ⟨Ao36, co36, eo36⟩ := Kd.R_slice HO315.out; subst eo36))
  (try simp only [Act.put, List.setIfInBounds_toArray, List.set_cons_zero, List.set_cons_succ])
  go_cut [9] (fun v9 wc => ∃ (kq : Nat) (x9_6 : Int), v9 = .int .i64 x9_6 ∧ Aside0 (downpourlaw01_BitrowJoins.j1 kq t310 t316 x9_6 t298 t299 t302 t303 t306 t307 t312 t313 = some r) ∧ Aside0 (kq ≤ k) ∧ Aside0 (Kd.V (Kd.int .u64) 59 wc w.heap.size (fun k_ => some k_ ≠ ((.slice Ao27 t307.length co27) : Value).ownBlock ∧ some k_ ≠ ((.slice Ao36 t313.length co36) : Value).ownBlock ∧ k_ ≠ gb296 ∧ k_ ≠ gb297 ∧ k_ ≠ gb311 ∧ k_ ≠ gb317) (.slice Ao14 t299.length co14) t299) ∧ Aside0 (Kd.V (Kd.int .u64) 59 wc w.heap.size (fun k_ => some k_ ≠ ((.slice Ao27 t307.length co27) : Value).ownBlock ∧ some k_ ≠ ((.slice Ao36 t313.length co36) : Value).ownBlock ∧ k_ ≠ gb296 ∧ k_ ≠ gb297 ∧ k_ ≠ gb311 ∧ k_ ≠ gb317) (.slice Ao17 t303.length co17) t303) ∧ Aside0 (Kd.R (Kd.int .u64) 59 wc w.heap.size (fun k_ => some k_ ≠ ((.slice Ao36 t313.length co36) : Value).ownBlock) (.slice Ao27 t307.length co27) t307) ∧ Aside0 (Kd.R (Kd.int .u64) 59 wc w.heap.size (fun k_ => some k_ ≠ ((.slice Ao27 t307.length co27) : Value).ownBlock) (.slice Ao36 t313.length co36) t313) ∧ Aside0 (wc.heap[gb296]? = some (.cells #[.int .i64 t298, (.slice Ao14 t299.length co14)] 25 (0, 0))) ∧ Aside0 (wc.heap[gb297]? = some (.cells #[.int .i64 t302, (.slice Ao17 t303.length co17)] 25 (0, 0))) ∧ Aside0 (wc.heap[gb311]? = some (.cells #[.int .i64 t306, (.slice Ao27 t307.length co27)] 25 (0, 0))) ∧ Aside0 (wc.heap[gb317]? = some (.cells #[.int .i64 t312, (.slice Ao36 t313.length co36)] 25 (0, 0))) ∧ Aside0 (Below w.heap.size w wc))
  case first =>
    have H := HC7.out
    clear HC7
    have HC37 := Aside0.mk H
    clear H
    go_upto_region 5 with (fail)
    go_cut [26] (fun v26 wc => ∃ (kq : Nat) (x26_36 : Bool), v26 = .bool x26_36 ∧ Aside0 (downpourlaw01_BitrowJoins.j0 kq t310 t316 0 x26_36 t298 t299 t302 t303 t306 t307 t312 t313 = some r) ∧ Aside0 (kq ≤ k) ∧ Aside0 (Kd.V (Kd.int .u64) 59 wc w.heap.size (fun k_ => some k_ ≠ ((.slice Ao27 t307.length co27) : Value).ownBlock ∧ some k_ ≠ ((.slice Ao36 t313.length co36) : Value).ownBlock ∧ k_ ≠ gb296 ∧ k_ ≠ gb297 ∧ k_ ≠ gb311 ∧ k_ ≠ gb317) (.slice Ao14 t299.length co14) t299) ∧ Aside0 (Kd.V (Kd.int .u64) 59 wc w.heap.size (fun k_ => some k_ ≠ ((.slice Ao27 t307.length co27) : Value).ownBlock ∧ some k_ ≠ ((.slice Ao36 t313.length co36) : Value).ownBlock ∧ k_ ≠ gb296 ∧ k_ ≠ gb297 ∧ k_ ≠ gb311 ∧ k_ ≠ gb317) (.slice Ao17 t303.length co17) t303) ∧ Aside0 (Kd.R (Kd.int .u64) 59 wc w.heap.size (fun k_ => some k_ ≠ ((.slice Ao36 t313.length co36) : Value).ownBlock) (.slice Ao27 t307.length co27) t307) ∧ Aside0 (Kd.R (Kd.int .u64) 59 wc w.heap.size (fun k_ => some k_ ≠ ((.slice Ao27 t307.length co27) : Value).ownBlock) (.slice Ao36 t313.length co36) t313) ∧ Aside0 (wc.heap[gb296]? = some (.cells #[.int .i64 t298, (.slice Ao14 t299.length co14)] 25 (0, 0))) ∧ Aside0 (wc.heap[gb297]? = some (.cells #[.int .i64 t302, (.slice Ao17 t303.length co17)] 25 (0, 0))) ∧ Aside0 (wc.heap[gb311]? = some (.cells #[.int .i64 t306, (.slice Ao27 t307.length co27)] 25 (0, 0))) ∧ Aside0 (wc.heap[gb317]? = some (.cells #[.int .i64 t312, (.slice Ao36 t313.length co36)] 25 (0, 0))) ∧ Aside0 (Below w.heap.size w wc))
    case first =>
      have H := HC37.out
      clear HC37
      replace H := Option.bind_eq_some_iff.mp H
      obtain ⟨t318, A380, H⟩ := H
      replace H : (if t318 = true then ((downpourref01_Right.f k t302 t303).bind fun t319 => (downpourlaw01_BitrowJoins.j0 k t310 t316 0 (!t319) t298 t299 t302 t303 t306 t307 t312 t313)) else (downpourlaw01_BitrowJoins.j0 k t310 t316 0 true t298 t299 t302 t303 t306 t307 t312 t313)) = some r := H
      have A38 := Aside0.mk A380
      clear A380
      by_cases c39 : t318 = true
      · subst c39
        have H1 : ((downpourref01_Right.f k t302 t303).bind fun t319 => (downpourlaw01_BitrowJoins.j0 k t310 t316 0 (!t319) t298 t299 t302 t303 t306 t307 t312 t313)) = some r := by rw [if_pos rfl] at H; exact H
        clear H
        have H := H1
        clear H1
        replace H := Option.bind_eq_some_iff.mp H
        obtain ⟨t319, A400, H⟩ := H
        replace H : (downpourlaw01_BitrowJoins.j0 k t310 t316 0 (!t319) t298 t299 t302 t303 t306 t307 t312 t313) = some r := H
        have A40 := Aside0.mk A400
        clear A400
        have H' := Aside0.mk H
        clear H
        have hnb41 := NB296_297.out
        have hnc41 := NB297_296.out
        have hnb42 := NB296_311.out
        have hnc42 := NB311_296.out
        have hnb43 := NB296_317.out
        have hnc43 := NB317_296.out
        have hcz44_0 : w31.cell? ⟨gb296, 0, none⟩ = some (.int .i64 t298) := (blk_cell BK296.out 0).trans rfl
        have hcz44_1 : w31.cell? ⟨gb296, 1, none⟩ = some (.slice Ao14 t299.length co14) := (blk_cell BK296.out 1).trans rfl
        have hfz44_0 := blk_frozen BK296.out 0
        have hfz44_1 := blk_frozen BK296.out 1
        go_wp2_with (first | ((with_reducible refine gate_callee (f := 23) rfl ?_); refine goesL_ (some 28) rfl rfl Try.func23 (by kernel_rfl) rfl #[.agg #[.int .i64 t298, .slice Ao14 t299.length co14]] rfl (by (try simp only [List.map_toArray, List.map_cons, List.map_nil]); first | done | rfl | (simp only [List.length_drop, List.length_take]; rfl)) ?_; (with_reducible refine (downpourref01_Right.calls k t298 _ _ t299 true _ ?side1 ?side2 A38.out).mono ?_); (case side1 => refine (Kd.V_reads' (e := 59) (base := w.heap.size) (ok := fun k_ => (((((k_ ≠ gb296 ∧ k_ ≠ gb297) ∧ some k_ ≠ (.slice Ao27 t307.length co27 : Value).ownBlock) ∧ k_ ≠ gb311) ∧ some k_ ≠ (.slice Ao36 t313.length co36 : Value).ownBlock) ∧ k_ ≠ gb317)) (n := t299.length) (c := co14) ?_).2.2; exact (by (with_reducible repeat (first | apply Kd.V_alloc | apply Kd.V_drewN | apply Kd.V_drew)); exact (Kd.V_mono (Kd.V_far (p := ⟨gb317, 1, none⟩) (Kd.V_far (p := ⟨gb317, 0, none⟩) (Kd.V_mono HO301.out (fun k_ hk => (⟨hk, hk.2⟩ : _ ∧ k_ ≠ gb317))) (fun _ hk => hk.2) (.int .i64 t312)) (fun _ hk => hk.2) (.slice Ao36 t313.length co36)) (fun _ h_ => h_.1)))); (case side2 => exact (Kd.V_reads' HO301.out).2.1); rintro e w45 ⟨rfl, hb⟩; refine ⟨_, rfl, ?_⟩; have n0_ := Aside0.mk (Kd.V_below (by (with_reducible repeat (first | apply Kd.V_alloc | apply Kd.V_drewN | apply Kd.V_drew)); exact (Kd.V_mono (Kd.V_far (p := ⟨gb317, 1, none⟩) (Kd.V_far (p := ⟨gb317, 0, none⟩) (Kd.V_mono HO301.out (fun k_ hk => (⟨hk, hk.2⟩ : _ ∧ k_ ≠ gb317))) (fun _ hk => hk.2) (.int .i64 t312)) (fun _ hk => hk.2) (.slice Ao36 t313.length co36)) (fun _ h_ => h_.1))) hb); have n1_ := Aside0.mk (Kd.V_below (by (with_reducible repeat (first | apply Kd.V_alloc | apply Kd.V_drewN | apply Kd.V_drew)); exact (Kd.V_mono (Kd.V_far (p := ⟨gb317, 1, none⟩) (Kd.V_far (p := ⟨gb317, 0, none⟩) (Kd.V_mono HO305.out (fun k_ hk => (⟨hk, hk.2⟩ : _ ∧ k_ ≠ gb317))) (fun _ hk => hk.2) (.int .i64 t312)) (fun _ hk => hk.2) (.slice Ao36 t313.length co36)) (fun _ h_ => h_.1))) hb); have n2_ := Aside0.mk (Kd.R_below (by (with_reducible repeat (first | apply Kd.R_alloc | apply Kd.R_drewN | apply Kd.R_drew)); exact (Kd.R_mono (Kd.R_far (p := ⟨gb317, 1, none⟩) (Kd.R_far (p := ⟨gb317, 0, none⟩) (Kd.R_types HO309.out BK317.out (by decide)) (fun _ hk => hk.2) (.int .i64 t312)) (fun _ hk => hk.2) (.slice Ao36 t313.length co36)) (fun _ h_ => h_.1))) hb); have n3_ := Aside0.mk (Kd.R_below (by (with_reducible repeat (first | apply Kd.R_alloc | apply Kd.R_drewN | apply Kd.R_drew)); exact (Kd.R_mono (Kd.R_far (p := ⟨gb317, 1, none⟩) (Kd.R_far (p := ⟨gb317, 0, none⟩) (Kd.R_types HO315.out BK317.out (by decide)) (fun _ hk => hk.2) (.int .i64 t312)) (fun _ hk => hk.2) (.slice Ao36 t313.length co36)) (fun _ h_ => h_.1))) hb); have n4_ := Aside0.mk (blk_below (g := gb296) (o := .cells #[.int .i64 t298, .slice Ao14 t299.length co14] 25 (0, 0)) (by (with_reducible repeat (first | refine blk_drewN ?_ _ | refine blk_drew ?_ | refine blk_alloc ?_ _)); refine blk_far ?_ NB296_317.out _; (with_reducible repeat (first | refine blk_drewN ?_ _ | refine blk_drew ?_ | refine blk_alloc ?_ _)); refine blk_far ?_ NB296_317.out _; (with_reducible repeat (first | refine blk_drewN ?_ _ | refine blk_drew ?_ | refine blk_alloc ?_ _)); exact BK296.out) hb); have n5_ := Aside0.mk (blk_below (g := gb297) (o := .cells #[.int .i64 t302, .slice Ao17 t303.length co17] 25 (0, 0)) (by (with_reducible repeat (first | refine blk_drewN ?_ _ | refine blk_drew ?_ | refine blk_alloc ?_ _)); refine blk_far ?_ NB297_317.out _; (with_reducible repeat (first | refine blk_drewN ?_ _ | refine blk_drew ?_ | refine blk_alloc ?_ _)); refine blk_far ?_ NB297_317.out _; (with_reducible repeat (first | refine blk_drewN ?_ _ | refine blk_drew ?_ | refine blk_alloc ?_ _)); exact BK297.out) hb); have n6_ := Aside0.mk (blk_below (g := gb311) (o := .cells #[.int .i64 t306, .slice Ao27 t307.length co27] 25 (0, 0)) (by (with_reducible repeat (first | refine blk_drewN ?_ _ | refine blk_drew ?_ | refine blk_alloc ?_ _)); refine blk_far ?_ NB311_317.out _; (with_reducible repeat (first | refine blk_drewN ?_ _ | refine blk_drew ?_ | refine blk_alloc ?_ _)); refine blk_far ?_ NB311_317.out _; (with_reducible repeat (first | refine blk_drewN ?_ _ | refine blk_drew ?_ | refine blk_alloc ?_ _)); exact BK311.out) hb); have n7_ := Aside0.mk (blk_below (g := gb317) (o := .cells #[.int .i64 t312, .slice Ao36 t313.length co36] 25 (0, 0)) (by (with_reducible repeat (first | refine blk_drewN ?_ _ | refine blk_drew ?_ | refine blk_alloc ?_ _)); refine blk_put (cs := #[.int .i64 t312, .slice none 0 0]) ?_ 1 _ rfl; (with_reducible repeat (first | refine blk_drewN ?_ _ | refine blk_drew ?_ | refine blk_alloc ?_ _)); refine blk_put (cs := #[.int .i64 0, .slice none 0 0]) ?_ 0 _ rfl; (with_reducible repeat (first | refine blk_drewN ?_ _ | refine blk_drew ?_ | refine blk_alloc ?_ _)); exact BK317.out) hb); have n8_ := Aside0.mk (below_step (by repeat (first | (with_reducible first | exact HB.out | apply below_alloc | apply pw_below_drewN | apply below_drew1 | refine below_set ?_ GE296.out | refine below_set ?_ GE297.out | refine below_set ?_ GE311.out | refine below_set ?_ GE317.out) | exact HB.out)) hb); clear HO301 HO305 HO309 HO315 BK296 BK297 BK311 BK317 HB; have HO301 := n0_; have HO305 := n1_; have HO309 := n2_; have HO315 := n3_; have BK296 := n4_; have BK297 := n5_; have BK311 := n6_; have BK317 := n7_; have HB := n8_; clear n0_ n1_ n2_ n3_ n4_ n5_ n6_ n7_ n8_; (try clear hb); (try clear hb2); (try clear hk); (try clear hi); have hnb46 := NB297_311.out; have hnc46 := NB311_297.out; have hnb47 := NB297_317.out; have hnc47 := NB317_297.out; have hcz48_0 : w45.cell? ⟨gb297, 0, none⟩ = some (.int .i64 t302) := (blk_cell BK297.out 0).trans rfl; have hcz48_1 : w45.cell? ⟨gb297, 1, none⟩ = some (.slice Ao17 t303.length co17) := (blk_cell BK297.out 1).trans rfl; have hfz48_0 := blk_frozen BK297.out 0; have hfz48_1 := blk_frozen BK297.out 1) | (go_at_call 23; (with_reducible refine (downpourref01_Right.calls k t302 _ _ t303 t319 _ ?side1 ?side2 A40.out).mono ?_); (case side1 => repeat (first | exact (Kd.V_reads' HO305.out).2.2 | (with_reducible refine Kd.C_alloc ?_ _) | (with_reducible refine Kd.C_drewN ?_ _) | (with_reducible refine Kd.C_drew ?_))); (case side2 => exact (Kd.V_reads' HO305.out).2.1); rintro e w49 ⟨rfl, hb⟩; have n0_ := Aside0.mk (Kd.V_below (pv HO301) hb); have n1_ := Aside0.mk (Kd.V_below (pv HO305) hb); have n2_ := Aside0.mk (Kd.R_below (pr HO309) hb); have n3_ := Aside0.mk (Kd.R_below (pr HO315) hb); have n4_ := bb BK296 hb; have n5_ := bb BK297 hb; have n6_ := bb BK311 hb; have n7_ := bb BK317 hb; have n8_ := Aside0.mk (below_step (by repeat (first | (with_reducible first | exact HB.out | apply below_alloc | apply pw_below_drewN | apply below_drew1 | refine below_set ?_ GE296.out | refine below_set ?_ GE297.out | refine below_set ?_ GE311.out | refine below_set ?_ GE317.out) | exact HB.out)) hb); clear HO301 HO305 HO309 HO315 BK296 BK297 BK311 BK317 HB; have HO301 := n0_; have HO305 := n1_; have HO309 := n2_; have HO315 := n3_; have BK296 := n4_; have BK297 := n5_; have BK311 := n6_; have BK317 := n7_; have HB := n8_; clear n0_ n1_ n2_ n3_ n4_ n5_ n6_ n7_ n8_; (try clear hb); (try clear hb2); (try clear hk); (try clear hi)))
        go_meet
        case rel => exact ⟨_, (!t319), (by first | rfl | (simp; done) | (simp [*]; done)), H', ⟨by first | omega | exact Nat.le_refl _⟩, ⟨by (with_reducible repeat (first | apply Kd.V_alloc | apply Kd.V_drewN | apply Kd.V_drew)); exact Kd.V_mono HO301.out (fun _ hk => ⟨hk.1.1.1.2, ⟨hk.1.2, ⟨hk.1.1.1.1.1, ⟨hk.1.1.1.1.2, ⟨hk.1.1.2, hk.2⟩⟩⟩⟩⟩)⟩, ⟨by (with_reducible repeat (first | apply Kd.V_alloc | apply Kd.V_drewN | apply Kd.V_drew)); exact Kd.V_mono HO305.out (fun _ hk => ⟨hk.1.1.1.2, ⟨hk.1.2, ⟨hk.1.1.1.1.1, ⟨hk.1.1.1.1.2, ⟨hk.1.1.2, hk.2⟩⟩⟩⟩⟩)⟩, ⟨by (with_reducible repeat (first | apply Kd.R_alloc | apply Kd.R_drewN | apply Kd.R_drew)); exact Kd.R_mono HO309.out (fun _ hk => hk.2)⟩, ⟨by (with_reducible repeat (first | apply Kd.R_alloc | apply Kd.R_drewN | apply Kd.R_drew)); exact Kd.R_mono HO315.out (fun _ hk => hk.2)⟩, ⟨by (with_reducible repeat (first | refine blk_drewN ?_ _ | refine blk_drew ?_ | refine blk_alloc ?_ _)); exact BK296.out⟩, ⟨by (with_reducible repeat (first | refine blk_drewN ?_ _ | refine blk_drew ?_ | refine blk_alloc ?_ _)); exact BK297.out⟩, ⟨by (with_reducible repeat (first | refine blk_drewN ?_ _ | refine blk_drew ?_ | refine blk_alloc ?_ _)); exact BK311.out⟩, ⟨by (with_reducible repeat (first | refine blk_drewN ?_ _ | refine blk_drew ?_ | refine blk_alloc ?_ _)); exact BK317.out⟩, ⟨by repeat (first | (with_reducible first | exact HB.out | apply below_alloc | apply pw_below_drewN | apply below_drew1 | refine below_set ?_ GE296.out | refine below_set ?_ GE297.out | refine below_set ?_ GE311.out | refine below_set ?_ GE317.out) | exact HB.out)⟩⟩
      · replace c39 := Bool.eq_false_iff.mpr c39
        subst c39
        have H1 : (downpourlaw01_BitrowJoins.j0 k t310 t316 0 true t298 t299 t302 t303 t306 t307 t312 t313) = some r := by rw [if_neg (show ¬ (false = true) by decide)] at H; exact H
        clear H
        have H := H1
        clear H1
        have H' := Aside0.mk H
        clear H
        have hnb50 := NB296_297.out
        have hnc50 := NB297_296.out
        have hnb51 := NB296_311.out
        have hnc51 := NB311_296.out
        have hnb52 := NB296_317.out
        have hnc52 := NB317_296.out
        have hcz53_0 : w31.cell? ⟨gb296, 0, none⟩ = some (.int .i64 t298) := (blk_cell BK296.out 0).trans rfl
        have hcz53_1 : w31.cell? ⟨gb296, 1, none⟩ = some (.slice Ao14 t299.length co14) := (blk_cell BK296.out 1).trans rfl
        have hfz53_0 := blk_frozen BK296.out 0
        have hfz53_1 := blk_frozen BK296.out 1
        go_wp2_with (first | ((with_reducible refine gate_callee (f := 23) rfl ?_); refine goesL_ (some 28) rfl rfl Try.func23 (by kernel_rfl) rfl #[.agg #[.int .i64 t298, .slice Ao14 t299.length co14]] rfl (by (try simp only [List.map_toArray, List.map_cons, List.map_nil]); first | done | rfl | (simp only [List.length_drop, List.length_take]; rfl)) ?_; (with_reducible refine (downpourref01_Right.calls k t298 _ _ t299 false _ ?side1 ?side2 A38.out).mono ?_); (case side1 => refine (Kd.V_reads' (e := 59) (base := w.heap.size) (ok := fun k_ => (((((k_ ≠ gb296 ∧ k_ ≠ gb297) ∧ some k_ ≠ (.slice Ao27 t307.length co27 : Value).ownBlock) ∧ k_ ≠ gb311) ∧ some k_ ≠ (.slice Ao36 t313.length co36 : Value).ownBlock) ∧ k_ ≠ gb317)) (n := t299.length) (c := co14) ?_).2.2; exact (by (with_reducible repeat (first | apply Kd.V_alloc | apply Kd.V_drewN | apply Kd.V_drew)); exact (Kd.V_mono (Kd.V_far (p := ⟨gb317, 1, none⟩) (Kd.V_far (p := ⟨gb317, 0, none⟩) (Kd.V_mono HO301.out (fun k_ hk => (⟨hk, hk.2⟩ : _ ∧ k_ ≠ gb317))) (fun _ hk => hk.2) (.int .i64 t312)) (fun _ hk => hk.2) (.slice Ao36 t313.length co36)) (fun _ h_ => h_.1)))); (case side2 => exact (Kd.V_reads' HO301.out).2.1); rintro e w54 ⟨rfl, hb⟩; refine ⟨_, rfl, ?_⟩; have n0_ := Aside0.mk (Kd.V_below (by (with_reducible repeat (first | apply Kd.V_alloc | apply Kd.V_drewN | apply Kd.V_drew)); exact (Kd.V_mono (Kd.V_far (p := ⟨gb317, 1, none⟩) (Kd.V_far (p := ⟨gb317, 0, none⟩) (Kd.V_mono HO301.out (fun k_ hk => (⟨hk, hk.2⟩ : _ ∧ k_ ≠ gb317))) (fun _ hk => hk.2) (.int .i64 t312)) (fun _ hk => hk.2) (.slice Ao36 t313.length co36)) (fun _ h_ => h_.1))) hb); have n1_ := Aside0.mk (Kd.V_below (by (with_reducible repeat (first | apply Kd.V_alloc | apply Kd.V_drewN | apply Kd.V_drew)); exact (Kd.V_mono (Kd.V_far (p := ⟨gb317, 1, none⟩) (Kd.V_far (p := ⟨gb317, 0, none⟩) (Kd.V_mono HO305.out (fun k_ hk => (⟨hk, hk.2⟩ : _ ∧ k_ ≠ gb317))) (fun _ hk => hk.2) (.int .i64 t312)) (fun _ hk => hk.2) (.slice Ao36 t313.length co36)) (fun _ h_ => h_.1))) hb); have n2_ := Aside0.mk (Kd.R_below (by (with_reducible repeat (first | apply Kd.R_alloc | apply Kd.R_drewN | apply Kd.R_drew)); exact (Kd.R_mono (Kd.R_far (p := ⟨gb317, 1, none⟩) (Kd.R_far (p := ⟨gb317, 0, none⟩) (Kd.R_types HO309.out BK317.out (by decide)) (fun _ hk => hk.2) (.int .i64 t312)) (fun _ hk => hk.2) (.slice Ao36 t313.length co36)) (fun _ h_ => h_.1))) hb); have n3_ := Aside0.mk (Kd.R_below (by (with_reducible repeat (first | apply Kd.R_alloc | apply Kd.R_drewN | apply Kd.R_drew)); exact (Kd.R_mono (Kd.R_far (p := ⟨gb317, 1, none⟩) (Kd.R_far (p := ⟨gb317, 0, none⟩) (Kd.R_types HO315.out BK317.out (by decide)) (fun _ hk => hk.2) (.int .i64 t312)) (fun _ hk => hk.2) (.slice Ao36 t313.length co36)) (fun _ h_ => h_.1))) hb); have n4_ := Aside0.mk (blk_below (g := gb296) (o := .cells #[.int .i64 t298, .slice Ao14 t299.length co14] 25 (0, 0)) (by (with_reducible repeat (first | refine blk_drewN ?_ _ | refine blk_drew ?_ | refine blk_alloc ?_ _)); refine blk_far ?_ NB296_317.out _; (with_reducible repeat (first | refine blk_drewN ?_ _ | refine blk_drew ?_ | refine blk_alloc ?_ _)); refine blk_far ?_ NB296_317.out _; (with_reducible repeat (first | refine blk_drewN ?_ _ | refine blk_drew ?_ | refine blk_alloc ?_ _)); exact BK296.out) hb); have n5_ := Aside0.mk (blk_below (g := gb297) (o := .cells #[.int .i64 t302, .slice Ao17 t303.length co17] 25 (0, 0)) (by (with_reducible repeat (first | refine blk_drewN ?_ _ | refine blk_drew ?_ | refine blk_alloc ?_ _)); refine blk_far ?_ NB297_317.out _; (with_reducible repeat (first | refine blk_drewN ?_ _ | refine blk_drew ?_ | refine blk_alloc ?_ _)); refine blk_far ?_ NB297_317.out _; (with_reducible repeat (first | refine blk_drewN ?_ _ | refine blk_drew ?_ | refine blk_alloc ?_ _)); exact BK297.out) hb); have n6_ := Aside0.mk (blk_below (g := gb311) (o := .cells #[.int .i64 t306, .slice Ao27 t307.length co27] 25 (0, 0)) (by (with_reducible repeat (first | refine blk_drewN ?_ _ | refine blk_drew ?_ | refine blk_alloc ?_ _)); refine blk_far ?_ NB311_317.out _; (with_reducible repeat (first | refine blk_drewN ?_ _ | refine blk_drew ?_ | refine blk_alloc ?_ _)); refine blk_far ?_ NB311_317.out _; (with_reducible repeat (first | refine blk_drewN ?_ _ | refine blk_drew ?_ | refine blk_alloc ?_ _)); exact BK311.out) hb); have n7_ := Aside0.mk (blk_below (g := gb317) (o := .cells #[.int .i64 t312, .slice Ao36 t313.length co36] 25 (0, 0)) (by (with_reducible repeat (first | refine blk_drewN ?_ _ | refine blk_drew ?_ | refine blk_alloc ?_ _)); refine blk_put (cs := #[.int .i64 t312, .slice none 0 0]) ?_ 1 _ rfl; (with_reducible repeat (first | refine blk_drewN ?_ _ | refine blk_drew ?_ | refine blk_alloc ?_ _)); refine blk_put (cs := #[.int .i64 0, .slice none 0 0]) ?_ 0 _ rfl; (with_reducible repeat (first | refine blk_drewN ?_ _ | refine blk_drew ?_ | refine blk_alloc ?_ _)); exact BK317.out) hb); have n8_ := Aside0.mk (below_step (by repeat (first | (with_reducible first | exact HB.out | apply below_alloc | apply pw_below_drewN | apply below_drew1 | refine below_set ?_ GE296.out | refine below_set ?_ GE297.out | refine below_set ?_ GE311.out | refine below_set ?_ GE317.out) | exact HB.out)) hb); clear HO301 HO305 HO309 HO315 BK296 BK297 BK311 BK317 HB; have HO301 := n0_; have HO305 := n1_; have HO309 := n2_; have HO315 := n3_; have BK296 := n4_; have BK297 := n5_; have BK311 := n6_; have BK317 := n7_; have HB := n8_; clear n0_ n1_ n2_ n3_ n4_ n5_ n6_ n7_ n8_; (try clear hb); (try clear hb2); (try clear hk); (try clear hi)))
        go_meet
        case rel => exact ⟨_, (true), (by first | rfl | (simp; done) | (simp [*]; done)), H', ⟨by first | omega | exact Nat.le_refl _⟩, ⟨by (with_reducible repeat (first | apply Kd.V_alloc | apply Kd.V_drewN | apply Kd.V_drew)); exact Kd.V_mono HO301.out (fun _ hk => ⟨hk.1.1.1.2, ⟨hk.1.2, ⟨hk.1.1.1.1.1, ⟨hk.1.1.1.1.2, ⟨hk.1.1.2, hk.2⟩⟩⟩⟩⟩)⟩, ⟨by (with_reducible repeat (first | apply Kd.V_alloc | apply Kd.V_drewN | apply Kd.V_drew)); exact Kd.V_mono HO305.out (fun _ hk => ⟨hk.1.1.1.2, ⟨hk.1.2, ⟨hk.1.1.1.1.1, ⟨hk.1.1.1.1.2, ⟨hk.1.1.2, hk.2⟩⟩⟩⟩⟩)⟩, ⟨by (with_reducible repeat (first | apply Kd.R_alloc | apply Kd.R_drewN | apply Kd.R_drew)); exact Kd.R_mono HO309.out (fun _ hk => hk.2)⟩, ⟨by (with_reducible repeat (first | apply Kd.R_alloc | apply Kd.R_drewN | apply Kd.R_drew)); exact Kd.R_mono HO315.out (fun _ hk => hk.2)⟩, ⟨by (with_reducible repeat (first | refine blk_drewN ?_ _ | refine blk_drew ?_ | refine blk_alloc ?_ _)); exact BK296.out⟩, ⟨by (with_reducible repeat (first | refine blk_drewN ?_ _ | refine blk_drew ?_ | refine blk_alloc ?_ _)); exact BK297.out⟩, ⟨by (with_reducible repeat (first | refine blk_drewN ?_ _ | refine blk_drew ?_ | refine blk_alloc ?_ _)); exact BK311.out⟩, ⟨by (with_reducible repeat (first | refine blk_drewN ?_ _ | refine blk_drew ?_ | refine blk_alloc ?_ _)); exact BK317.out⟩, ⟨by repeat (first | (with_reducible first | exact HB.out | apply below_alloc | apply pw_below_drewN | apply below_drew1 | refine below_set ?_ GE296.out | refine below_set ?_ GE297.out | refine below_set ?_ GE311.out | refine below_set ?_ GE317.out) | exact HB.out)⟩⟩
    case rest =>
      clear HC37
      try clear c1
      try clear c2
      try clear p2
      try clear c3
      try clear c4
      try clear c5
      try clear c19
      try clear c23
      try clear c24
      try clear c25
      try clear c29
      try clear c30
      try clear c32
      try clear c33
      try clear c34
      try clear c39
      try clear c41
      try clear c42
      try clear c43
      try clear c46
      try clear c47
      try clear c50
      try clear c51
      try clear c52
      try clear hcz20_0
      try clear hcz20_1
      try clear hcz21_0
      try clear hcz21_1
      try clear hcz26_0
      try clear hcz26_1
      try clear hcz28_0
      try clear hcz28_1
      try clear hcz29_0
      try clear hcz29_1
      try clear hcz35_0
      try clear hcz35_1
      try clear hcz44_0
      try clear hcz44_1
      try clear hcz48_0
      try clear hcz48_1
      try clear hcz53_0
      try clear hcz53_1
      try clear hfz20_0
      try clear hfz20_1
      try clear hfz21_0
      try clear hfz21_1
      try clear hfz26_0
      try clear hfz26_1
      try clear hfz28_0
      try clear hfz28_1
      try clear hfz29_0
      try clear hfz29_1
      try clear hfz35_0
      try clear hfz35_1
      try clear hfz44_0
      try clear hfz44_1
      try clear hfz48_0
      try clear hfz48_1
      try clear hfz53_0
      try clear hfz53_1
      obtain ⟨kq, x26_36, rfl, HA, HJ36, HO_297001, HO_298001, HO_312001, HO_318001, BK296, BK297, BK311, BK317, HB⟩ := hcut
      cases kq with
      | zero => exact absurd HA.out (by simp [downpourlaw01_BitrowJoins.j0])
      | succ kj36 =>
        have H := HA.out
        clear HA
        simp only [downpourlaw01_BitrowJoins.j0] at H
        by_cases c55 : x26_36 = true
        · subst c55
          have H1 : (downpourlaw01_BitrowJoins.j1 kj36 t310 t316 1 t298 t299 t302 t303 t306 t307 t312 t313) = some r := by rw [if_pos rfl] at H; exact H
          clear H
          have H := H1
          clear H1
          have H' := Aside0.mk H
          clear H
          go_wp2
          go_meet
          case rel => exact ⟨_, (1), (by first | rfl | (simp; done) | (simp [*]; done)), H', ⟨by have := HJ36.out; first | omega | exact Nat.le_refl _⟩, ⟨by (with_reducible repeat (first | apply Kd.V_alloc | apply Kd.V_drewN | apply Kd.V_drew)); exact HO_297001.out⟩, ⟨by (with_reducible repeat (first | apply Kd.V_alloc | apply Kd.V_drewN | apply Kd.V_drew)); exact HO_298001.out⟩, ⟨by (with_reducible repeat (first | apply Kd.R_alloc | apply Kd.R_drewN | apply Kd.R_drew)); exact HO_312001.out⟩, ⟨by (with_reducible repeat (first | apply Kd.R_alloc | apply Kd.R_drewN | apply Kd.R_drew)); exact HO_318001.out⟩, ⟨by (with_reducible repeat (first | refine blk_drewN ?_ _ | refine blk_drew ?_ | refine blk_alloc ?_ _)); exact BK296.out⟩, ⟨by (with_reducible repeat (first | refine blk_drewN ?_ _ | refine blk_drew ?_ | refine blk_alloc ?_ _)); exact BK297.out⟩, ⟨by (with_reducible repeat (first | refine blk_drewN ?_ _ | refine blk_drew ?_ | refine blk_alloc ?_ _)); exact BK311.out⟩, ⟨by (with_reducible repeat (first | refine blk_drewN ?_ _ | refine blk_drew ?_ | refine blk_alloc ?_ _)); exact BK317.out⟩, ⟨by repeat (first | (with_reducible first | exact HB.out | apply below_alloc | apply pw_below_drewN | apply below_drew1 | refine below_set ?_ GE296.out | refine below_set ?_ GE297.out | refine below_set ?_ GE311.out | refine below_set ?_ GE317.out) | exact HB.out)⟩⟩
        · replace c55 := Bool.eq_false_iff.mpr c55
          subst c55
          have H1 : (if t298 = t302 then (downpourlaw01_BitrowJoins.j1 kj36 t310 t316 0 t298 t299 t302 t303 t306 t307 t312 t313) else (downpourlaw01_BitrowJoins.j1 kj36 t310 t316 2 t298 t299 t302 t303 t306 t307 t312 t313)) = some r := by rw [if_neg (show ¬ (false = true) by decide)] at H; exact H
          clear H
          have H := H1
          clear H1
          by_cases c56 : t298 = t302
          · rw [if_pos c56] at H
            have c56b0 : (t298 == t302) = true := beq_iff_eq.mpr c56
            have c56b1 : (t298 != t302) = false := bne_eq_false_iff_eq.mpr c56
            clear c56
            have H' := Aside0.mk H
            clear H
            have hnb57 := NB296_297.out
            have hnc57 := NB297_296.out
            have hnb58 := NB296_311.out
            have hnc58 := NB311_296.out
            have hnb59 := NB296_317.out
            have hnc59 := NB317_296.out
            have hcz60_0 : wc.cell? ⟨gb296, 0, none⟩ = some (.int .i64 t298) := (blk_cell BK296.out 0).trans rfl
            have hcz60_1 : wc.cell? ⟨gb296, 1, none⟩ = some (.slice Ao14 t299.length co14) := (blk_cell BK296.out 1).trans rfl
            have hfz60_0 := blk_frozen BK296.out 0
            have hfz60_1 := blk_frozen BK296.out 1
            have hnb61 := NB297_311.out
            have hnc61 := NB311_297.out
            have hnb62 := NB297_317.out
            have hnc62 := NB317_297.out
            have hcz63_0 : wc.cell? ⟨gb297, 0, none⟩ = some (.int .i64 t302) := (blk_cell BK297.out 0).trans rfl
            have hcz63_1 : wc.cell? ⟨gb297, 1, none⟩ = some (.slice Ao17 t303.length co17) := (blk_cell BK297.out 1).trans rfl
            have hfz63_0 := blk_frozen BK297.out 0
            have hfz63_1 := blk_frozen BK297.out 1
            go_wp2
            go_meet
            case rel => exact ⟨_, (0), (by first | rfl | (simp; done) | (simp [*]; done)), H', ⟨by have := HJ36.out; first | omega | exact Nat.le_refl _⟩, ⟨by (with_reducible repeat (first | apply Kd.V_alloc | apply Kd.V_drewN | apply Kd.V_drew)); exact HO_297001.out⟩, ⟨by (with_reducible repeat (first | apply Kd.V_alloc | apply Kd.V_drewN | apply Kd.V_drew)); exact HO_298001.out⟩, ⟨by (with_reducible repeat (first | apply Kd.R_alloc | apply Kd.R_drewN | apply Kd.R_drew)); exact HO_312001.out⟩, ⟨by (with_reducible repeat (first | apply Kd.R_alloc | apply Kd.R_drewN | apply Kd.R_drew)); exact HO_318001.out⟩, ⟨by (with_reducible repeat (first | refine blk_drewN ?_ _ | refine blk_drew ?_ | refine blk_alloc ?_ _)); exact BK296.out⟩, ⟨by (with_reducible repeat (first | refine blk_drewN ?_ _ | refine blk_drew ?_ | refine blk_alloc ?_ _)); exact BK297.out⟩, ⟨by (with_reducible repeat (first | refine blk_drewN ?_ _ | refine blk_drew ?_ | refine blk_alloc ?_ _)); exact BK311.out⟩, ⟨by (with_reducible repeat (first | refine blk_drewN ?_ _ | refine blk_drew ?_ | refine blk_alloc ?_ _)); exact BK317.out⟩, ⟨by repeat (first | (with_reducible first | exact HB.out | apply below_alloc | apply pw_below_drewN | apply below_drew1 | refine below_set ?_ GE296.out | refine below_set ?_ GE297.out | refine below_set ?_ GE311.out | refine below_set ?_ GE317.out) | exact HB.out)⟩⟩
          · rw [if_neg c56] at H
            have c56b0 : (t298 == t302) = false := beq_eq_false_iff_ne.mpr c56
            have c56b1 : (t298 != t302) = true := bne_iff_ne.mpr c56
            have H' := Aside0.mk H
            clear H
            have hnb64 := NB296_297.out
            have hnc64 := NB297_296.out
            have hnb65 := NB296_311.out
            have hnc65 := NB311_296.out
            have hnb66 := NB296_317.out
            have hnc66 := NB317_296.out
            have hcz67_0 : wc.cell? ⟨gb296, 0, none⟩ = some (.int .i64 t298) := (blk_cell BK296.out 0).trans rfl
            have hcz67_1 : wc.cell? ⟨gb296, 1, none⟩ = some (.slice Ao14 t299.length co14) := (blk_cell BK296.out 1).trans rfl
            have hfz67_0 := blk_frozen BK296.out 0
            have hfz67_1 := blk_frozen BK296.out 1
            have hnb68 := NB297_311.out
            have hnc68 := NB311_297.out
            have hnb69 := NB297_317.out
            have hnc69 := NB317_297.out
            have hcz70_0 : wc.cell? ⟨gb297, 0, none⟩ = some (.int .i64 t302) := (blk_cell BK297.out 0).trans rfl
            have hcz70_1 : wc.cell? ⟨gb297, 1, none⟩ = some (.slice Ao17 t303.length co17) := (blk_cell BK297.out 1).trans rfl
            have hfz70_0 := blk_frozen BK297.out 0
            have hfz70_1 := blk_frozen BK297.out 1
            go_wp2
            go_meet
            case rel => exact ⟨_, (2), (by first | rfl | (simp; done) | (simp [*]; done)), H', ⟨by have := HJ36.out; first | omega | exact Nat.le_refl _⟩, ⟨by (with_reducible repeat (first | apply Kd.V_alloc | apply Kd.V_drewN | apply Kd.V_drew)); exact HO_297001.out⟩, ⟨by (with_reducible repeat (first | apply Kd.V_alloc | apply Kd.V_drewN | apply Kd.V_drew)); exact HO_298001.out⟩, ⟨by (with_reducible repeat (first | apply Kd.R_alloc | apply Kd.R_drewN | apply Kd.R_drew)); exact HO_312001.out⟩, ⟨by (with_reducible repeat (first | apply Kd.R_alloc | apply Kd.R_drewN | apply Kd.R_drew)); exact HO_318001.out⟩, ⟨by (with_reducible repeat (first | refine blk_drewN ?_ _ | refine blk_drew ?_ | refine blk_alloc ?_ _)); exact BK296.out⟩, ⟨by (with_reducible repeat (first | refine blk_drewN ?_ _ | refine blk_drew ?_ | refine blk_alloc ?_ _)); exact BK297.out⟩, ⟨by (with_reducible repeat (first | refine blk_drewN ?_ _ | refine blk_drew ?_ | refine blk_alloc ?_ _)); exact BK311.out⟩, ⟨by (with_reducible repeat (first | refine blk_drewN ?_ _ | refine blk_drew ?_ | refine blk_alloc ?_ _)); exact BK317.out⟩, ⟨by repeat (first | (with_reducible first | exact HB.out | apply below_alloc | apply pw_below_drewN | apply below_drew1 | refine below_set ?_ GE296.out | refine below_set ?_ GE297.out | refine below_set ?_ GE311.out | refine below_set ?_ GE317.out) | exact HB.out)⟩⟩
  case rest =>
    clear HC7
    try clear c1
    try clear c2
    try clear p2
    try clear c3
    try clear c4
    try clear c5
    try clear c6
    try clear c19
    try clear c23
    try clear c24
    try clear c25
    try clear c29
    try clear c30
    try clear c32
    try clear c33
    try clear c34
    try clear c39
    try clear c41
    try clear c42
    try clear c43
    try clear c46
    try clear c47
    try clear c50
    try clear c51
    try clear c52
    try clear c55
    try clear c56
    try clear c56b0
    try clear c56b1
    try clear c57
    try clear c58
    try clear c59
    try clear c61
    try clear c62
    try clear c64
    try clear c65
    try clear c66
    try clear c68
    try clear c69
    try clear hcz20_0
    try clear hcz20_1
    try clear hcz21_0
    try clear hcz21_1
    try clear hcz26_0
    try clear hcz26_1
    try clear hcz28_0
    try clear hcz28_1
    try clear hcz29_0
    try clear hcz29_1
    try clear hcz35_0
    try clear hcz35_1
    try clear hcz44_0
    try clear hcz44_1
    try clear hcz48_0
    try clear hcz48_1
    try clear hcz53_0
    try clear hcz53_1
    try clear hcz60_0
    try clear hcz60_1
    try clear hcz63_0
    try clear hcz63_1
    try clear hcz67_0
    try clear hcz67_1
    try clear hcz70_0
    try clear hcz70_1
    try clear hfz20_0
    try clear hfz20_1
    try clear hfz21_0
    try clear hfz21_1
    try clear hfz26_0
    try clear hfz26_1
    try clear hfz28_0
    try clear hfz28_1
    try clear hfz29_0
    try clear hfz29_1
    try clear hfz35_0
    try clear hfz35_1
    try clear hfz44_0
    try clear hfz44_1
    try clear hfz48_0
    try clear hfz48_1
    try clear hfz53_0
    try clear hfz53_1
    try clear hfz60_0
    try clear hfz60_1
    try clear hfz63_0
    try clear hfz63_1
    try clear hfz67_0
    try clear hfz67_1
    try clear hfz70_0
    try clear hfz70_1
    try clear p2
    obtain ⟨kq, x9_6, rfl, HA, HJ6, HO_297001, HO_298001, HO_312001, HO_318001, BK296, BK297, BK311, BK317, HB⟩ := hcut
    cases kq with
    | zero => exact absurd HA.out (by simp [downpourlaw01_BitrowJoins.j1])
    | succ kj6 =>
      have H := HA.out
      clear HA
      simp only [downpourlaw01_BitrowJoins.j1] at H
      by_cases c71 : x9_6 = 0
      · rw [if_pos c71] at H
        have c71b0 : (x9_6 == 0) = true := beq_iff_eq.mpr c71
        have c71b1 : (x9_6 != 0) = false := bne_eq_false_iff_eq.mpr c71
        clear c71
        replace H := Option.bind_eq_some_iff.mp H
        obtain ⟨t323, A720, H⟩ := H
        replace H : (if t323 = true then (if t310 = 0 then (if t316 = 0 then ((downpourref01_Xor.f kj6 t298 t299 t302 t303).bind fun bt324 => ((downpourref01_Same.f kj6 t306 t307 bt324.1 bt324.2).bind fun t328 => (if t328 = true then ((downpourref01_And.f kj6 t298 t299 t302 t303).bind fun bt329 => ((downpourref01_Same.f kj6 t312 t313 bt329.1 bt329.2).bind fun t333 => (some t333))) else (none)))) else (none)) else (none)) else (none)) = some r := H
        have A72 := Aside0.mk A720
        clear A720
        by_cases c73 : t323 = true
        · subst c73
          have H1 : (if t310 = 0 then (if t316 = 0 then ((downpourref01_Xor.f kj6 t298 t299 t302 t303).bind fun bt324 => ((downpourref01_Same.f kj6 t306 t307 bt324.1 bt324.2).bind fun t328 => (if t328 = true then ((downpourref01_And.f kj6 t298 t299 t302 t303).bind fun bt329 => ((downpourref01_Same.f kj6 t312 t313 bt329.1 bt329.2).bind fun t333 => (some t333))) else (none)))) else (none)) else (none)) = some r := by rw [if_pos rfl] at H; exact H
          clear H
          have H := H1
          clear H1
          by_cases c74 : t310 = 0
          · rw [if_pos c74] at H
            have c74b0 : (t310 == 0) = true := beq_iff_eq.mpr c74
            have c74b1 : (t310 != 0) = false := bne_eq_false_iff_eq.mpr c74
            clear c74
            by_cases c75 : t316 = 0
            · rw [if_pos c75] at H
              have c75b0 : (t316 == 0) = true := beq_iff_eq.mpr c75
              have c75b1 : (t316 != 0) = false := bne_eq_false_iff_eq.mpr c75
              clear c75
              replace H := Option.bind_eq_some_iff.mp H
              obtain ⟨⟨t324, t325⟩, A760, H⟩ := H
              replace H : ((downpourref01_Same.f kj6 t306 t307 t324 t325).bind fun t328 => (if t328 = true then ((downpourref01_And.f kj6 t298 t299 t302 t303).bind fun bt329 => ((downpourref01_Same.f kj6 t312 t313 bt329.1 bt329.2).bind fun t333 => (some t333))) else (none))) = some r := H
              have A76 := Aside0.mk A760
              clear A760
              replace H := Option.bind_eq_some_iff.mp H
              obtain ⟨t328, A770, H⟩ := H
              replace H : (if t328 = true then ((downpourref01_And.f kj6 t298 t299 t302 t303).bind fun bt329 => ((downpourref01_Same.f kj6 t312 t313 bt329.1 bt329.2).bind fun t333 => (some t333))) else (none)) = some r := H
              have A77 := Aside0.mk A770
              clear A770
              by_cases c78 : t328 = true
              · subst c78
                have H1 : ((downpourref01_And.f kj6 t298 t299 t302 t303).bind fun bt329 => ((downpourref01_Same.f kj6 t312 t313 bt329.1 bt329.2).bind fun t333 => (some t333))) = some r := by rw [if_pos rfl] at H; exact H
                clear H
                have H := H1
                clear H1
                replace H := Option.bind_eq_some_iff.mp H
                obtain ⟨⟨t329, t330⟩, A790, H⟩ := H
                replace H : ((downpourref01_Same.f kj6 t312 t313 t329 t330).bind fun t333 => (some t333)) = some r := H
                have A79 := Aside0.mk A790
                clear A790
                replace H := Option.bind_eq_some_iff.mp H
                obtain ⟨t333, A800, H⟩ := H
                replace H : (some t333) = some r := H
                have A80 := Aside0.mk A800
                clear A800
                obtain rfl := Option.some.inj H
                try go_wp2
                have n0_ := Aside0.mk (Kd.V_drew HO_297001.out)
                have n1_ := Aside0.mk (Kd.V_drew HO_298001.out)
                have n2_ := Aside0.mk (Kd.R_drew HO_312001.out)
                have n3_ := Aside0.mk (Kd.R_drew HO_318001.out)
                have n4_ := Aside0.mk (blk_drew BK296.out)
                have n5_ := Aside0.mk (blk_drew BK297.out)
                have n6_ := Aside0.mk (blk_drew BK311.out)
                have n7_ := Aside0.mk (blk_drew BK317.out)
                have n8_ := Aside0.mk (below_drew1 HB.out)
                clear HO_297001
                clear HO_298001
                clear HO_312001
                clear HO_318001
                clear BK296
                clear BK297
                clear BK311
                clear BK317
                clear HB
                have HO_297001 := n0_
                have HO_298001 := n1_
                have HO_312001 := n2_
                have HO_318001 := n3_
                have BK296 := n4_
                have BK297 := n5_
                have BK311 := n6_
                have BK317 := n7_
                have HB := n8_
                clear n0_ n1_ n2_ n3_ n4_ n5_ n6_ n7_ n8_
                refine start_ (n := 24) (S := fun w' => w'.cell? ⟨gb311, 0, none⟩ = some (.int .i64 t306) ∧ w'.cell? ⟨gb311, 1, none⟩ = some (.slice Ao27 t307.length co27) ∧ w'.cell? ⟨gb296, 0, none⟩ = some (.int .i64 t298) ∧ w'.cell? ⟨gb296, 1, none⟩ = some (.slice Ao14 t299.length co14) ∧ w'.cell? ⟨gb297, 0, none⟩ = some (.int .i64 t302) ∧ w'.cell? ⟨gb297, 1, none⟩ = some (.slice Ao17 t303.length co17) ∧ w'.cell? ⟨gb317, 0, none⟩ = some (.int .i64 t312) ∧ w'.cell? ⟨gb317, 1, none⟩ = some (.slice Ao36 t313.length co36)) (ds := []) #[false, false, false, false, false, false, false, false, false, false, false, false, false, false, false, false, false, false, false, false, false, false, false, false] (by kernel_rfl) rfl rfl ⟨(blk_cell BK311.out 0).trans rfl, (blk_cell BK311.out 1).trans rfl, (blk_cell BK296.out 0).trans rfl, (blk_cell BK296.out 1).trans rfl, (blk_cell BK297.out 0).trans rfl, (blk_cell BK297.out 1).trans rfl, (blk_cell BK317.out 0).trans rfl, (blk_cell BK317.out 1).trans rfl⟩ (fun hHeld => ?_); refine with_tabW downpourlaw01_BitrowJoins.tab11 downpourlaw01_BitrowJoins.bits11 (fun HT_ HW_ => ?_)
                generalize wc.drew = w81 at HO_297001 HO_298001 HO_312001 HO_318001 BK296 BK297 BK311 BK317 HB hHeld ⊢
                refine one_ (i := 0) (N := some 64) #[true, false, false, false, false, false, false, false, false, false, false, false, false, false, false, false, false, false, false, false, false, false, false, false] rfl rfl (one_of HT_.out (by kernel_rfl)) (by decide) (fun K hK => ?_)
                refine goes_ Try.func26 (by kernel_rfl) rfl #[] (by rfl) rfl rfl (by (try simp only [List.map_toArray, List.map_cons, List.map_nil]); first | done | rfl | (simp only [List.length_drop, List.length_take]; rfl)) ?_
                with_reducible refine (downpourlaw01_alive.calls kj6  true _ A72.out).mono ?_
                rintro e w82 ⟨rfl, hb⟩
                refine ⟨_, rfl, ?_⟩
                have n0_ := Aside0.mk (Kd.V_below (pv HO_297001) hb)
                have n1_ := Aside0.mk (Kd.V_below (pv HO_298001) hb)
                have n2_ := Aside0.mk (Kd.R_below (pr HO_312001) hb)
                have n3_ := Aside0.mk (Kd.R_below (pr HO_318001) hb)
                have n4_ := bb BK296 hb
                have n5_ := bb BK297 hb
                have n6_ := bb BK311 hb
                have n7_ := bb BK317 hb
                have n8_ := Aside0.mk (below_step (by repeat (first | (with_reducible first | exact HB.out | apply below_alloc | apply pw_below_drewN | apply below_drew1 | refine below_set ?_ GE296.out | refine below_set ?_ GE297.out | refine below_set ?_ GE311.out | refine below_set ?_ GE317.out) | exact HB.out)) hb)
                clear HO_297001
                clear HO_298001
                clear HO_312001
                clear HO_318001
                clear BK296
                clear BK297
                clear BK311
                clear BK317
                clear HB
                have HO_297001 := n0_
                have HO_298001 := n1_
                have HO_312001 := n2_
                have HO_318001 := n3_
                have BK296 := n4_
                have BK297 := n5_
                have BK311 := n6_
                have BK317 := n7_
                have HB := n8_
                clear n0_ n1_ n2_ n3_ n4_ n5_ n6_ n7_ n8_
                (try clear hb)
                (try clear hb2)
                (try clear hk)
                (try clear hi)
                refine hK.out _ _ ⟨(blk_cell BK311.out 0).trans rfl, (blk_cell BK311.out 1).trans rfl, (blk_cell BK296.out 0).trans rfl, (blk_cell BK296.out 1).trans rfl, (blk_cell BK297.out 0).trans rfl, (blk_cell BK297.out 1).trans rfl, (blk_cell BK317.out 0).trans rfl, (blk_cell BK317.out 1).trans rfl⟩ (fun hHeld => ?_)
                clear hK K
                refine norm_ (a' := ?_) ?_ ?_
                rotate_left
                · show Act.put _ (some 64) _ = _
                  simp only [Act.put, List.setIfInBounds_toArray, List.set_cons_zero, List.set_cons_succ, i64_w, i32_w]
                  rfl
                refine pure_ (i := 1) (N := some 65) (v := ?_) (a' := ?_) #[true, true, false, false, false, false, false, false, false, false, false, false, false, false, false, false, false, false, false, false, false, false, false, false] rfl rfl (any_of HT_.out (by kernel_rfl)) (fun _ _ _ h => h) (Or.inl ⟨by rfl, ?_⟩) ?_ ?_
                rotate_left
                · intro w'
                  go_simp
                  with_reducible rfl
                rotate_left
                · simp only [Act.put, List.setIfInBounds_toArray, List.set_cons_zero, List.set_cons_succ, i64_w, i32_w]
                  rfl
                refine pure_ (i := 2) (N := some 66) (v := ?_) (a' := ?_) #[true, true, true, false, false, false, false, false, false, false, false, false, false, false, false, false, false, false, false, false, false, false, false, false] rfl rfl (any_of HT_.out (by kernel_rfl)) (fun _ _ _ h => h) (Or.inl ⟨by rfl, ?_⟩) ?_ ?_
                rotate_left
                · intro w'
                  go_simp
                  with_reducible rfl
                rotate_left
                · simp only [Act.put, List.setIfInBounds_toArray, List.set_cons_zero, List.set_cons_succ, i64_w, i32_w]
                  rfl
                refine pure_ (i := 3) (N := some 67) (v := ?_) (a' := ?_) #[true, true, true, true, false, false, false, false, false, false, false, false, false, false, false, false, false, false, false, false, false, false, false, false] rfl rfl (any_of HT_.out (by kernel_rfl)) (fun _ _ _ h => h) (Or.inl ⟨by rfl, ?_⟩) ?_ ?_
                rotate_left
                · intro w'
                  go_simp
                  with_reducible rfl
                rotate_left
                · simp only [Act.put, List.setIfInBounds_toArray, List.set_cons_zero, List.set_cons_succ, i64_w, i32_w]
                  rfl
                refine pure_ (i := 4) (N := some 68) (v := ?_) (a' := ?_) #[true, true, true, true, true, false, false, false, false, false, false, false, false, false, false, false, false, false, false, false, false, false, false, false] rfl rfl (any_of HT_.out (by kernel_rfl)) (fun _ _ _ h => h) (Or.inl ⟨by rfl, ?_⟩) ?_ ?_
                rotate_left
                · intro w'
                  go_simp
                  with_reducible rfl
                rotate_left
                · simp only [Act.put, List.setIfInBounds_toArray, List.set_cons_zero, List.set_cons_succ, i64_w, i32_w]
                  rfl
                refine pure_ (i := 5) (N := some 69) (v := ?_) (a' := ?_) #[true, true, true, true, true, true, false, false, false, false, false, false, false, false, false, false, false, false, false, false, false, false, false, false] rfl rfl (any_of HT_.out (by kernel_rfl)) (fun _ _ _ h => h) (Or.inl ⟨by rfl, ?_⟩) ?_ ?_
                rotate_left
                · intro w'
                  go_simp
                  with_reducible rfl
                rotate_left
                · simp only [Act.put, List.setIfInBounds_toArray, List.set_cons_zero, List.set_cons_succ, i64_w, i32_w]
                  rfl
                refine pure_ (i := 6) (N := some 70) (v := ?_) (a' := ?_) #[true, true, true, true, true, true, true, false, false, false, false, false, false, false, false, false, false, false, false, false, false, false, false, false] rfl rfl (any_of HT_.out (by kernel_rfl)) (fun _ _ _ h => h) (Or.inl ⟨by rfl, ?_⟩) ?_ ?_
                rotate_left
                · intro w'
                  go_simp
                  with_reducible rfl
                rotate_left
                · simp only [Act.put, List.setIfInBounds_toArray, List.set_cons_zero, List.set_cons_succ, i64_w, i32_w]
                  rfl
                refine pure_ (i := 7) (N := some 71) (v := ?_) (a' := ?_) #[true, true, true, true, true, true, true, true, false, false, false, false, false, false, false, false, false, false, false, false, false, false, false, false] rfl rfl (any_of HT_.out (by kernel_rfl)) (fun _ _ _ h => h) (Or.inl ⟨by rfl, ?_⟩) ?_ ?_
                rotate_left
                · intro w'
                  go_simp
                  with_reducible rfl
                rotate_left
                · simp only [Act.put, List.setIfInBounds_toArray, List.set_cons_zero, List.set_cons_succ, i64_w, i32_w]
                  rfl
                refine pure_ (i := 8) (N := some 72) (v := ?_) (a' := ?_) #[true, true, true, true, true, true, true, true, true, false, false, false, false, false, false, false, false, false, false, false, false, false, false, false] rfl rfl (any_of HT_.out (by kernel_rfl)) (fun _ _ _ h => h) (Or.inl ⟨by rfl, ?_⟩) ?_ ?_
                rotate_left
                · intro w'
                  go_simp
                  with_reducible rfl
                rotate_left
                · simp only [Act.put, List.setIfInBounds_toArray, List.set_cons_zero, List.set_cons_succ, i64_w, i32_w]
                  rfl
                refine pure_ (i := 9) (N := some 73) (v := ?_) (a' := ?_) #[true, true, true, true, true, true, true, true, true, true, false, false, false, false, false, false, false, false, false, false, false, false, false, false] rfl rfl (any_of HT_.out (by kernel_rfl)) (fun _ _ _ h => h) (Or.inl ⟨by rfl, ?_⟩) ?_ ?_
                rotate_left
                · intro w'
                  go_simp
                  with_reducible rfl
                rotate_left
                · simp only [Act.put, List.setIfInBounds_toArray, List.set_cons_zero, List.set_cons_succ, i64_w, i32_w]
                  rfl
                refine take_ (i := 10) (N := some 74) (v := ?_) (a' := ?_) #[true, true, true, true, true, true, true, true, true, true, true, false, false, false, false, false, false, false, false, false, false, false, false, false] rfl rfl (take_ofW HT_.out HW_.out (by kernel_rfl)) (fun _ _ _ h => h) (Or.inl ⟨by rfl, ?_⟩) hHeld ?_ ?_
                rotate_left
                · rintro w' ⟨s0, s1, s2, s3, s4, s5, s6, s7⟩
                  go_simp
                  with_reducible rfl
                rotate_left
                · simp only [Act.put, List.setIfInBounds_toArray, List.set_cons_zero, List.set_cons_succ, i64_w, i32_w]
                  rfl
                refine take_ (i := 11) (N := some 75) (v := ?_) (a' := ?_) #[true, true, true, true, true, true, true, true, true, true, true, true, false, false, false, false, false, false, false, false, false, false, false, false] rfl rfl (take_ofW HT_.out HW_.out (by kernel_rfl)) (fun _ _ _ h => h) (Or.inl ⟨by rfl, ?_⟩) hHeld ?_ ?_
                rotate_left
                · rintro w' ⟨s0, s1, s2, s3, s4, s5, s6, s7⟩
                  go_simp
                  with_reducible rfl
                rotate_left
                · simp only [Act.put, List.setIfInBounds_toArray, List.set_cons_zero, List.set_cons_succ, i64_w, i32_w]
                  rfl
                refine take_ (i := 12) (N := some 76) (v := ?_) (a' := ?_) #[true, true, true, true, true, true, true, true, true, true, true, true, true, false, false, false, false, false, false, false, false, false, false, false] rfl rfl (take_ofW HT_.out HW_.out (by kernel_rfl)) (fun _ _ _ h => h) (Or.inl ⟨by rfl, ?_⟩) hHeld ?_ ?_
                rotate_left
                · rintro w' ⟨s0, s1, s2, s3, s4, s5, s6, s7⟩
                  go_simp
                  with_reducible rfl
                rotate_left
                · simp only [Act.put, List.setIfInBounds_toArray, List.set_cons_zero, List.set_cons_succ, i64_w, i32_w]
                  rfl
                refine one_ (i := 13) (N := some 77) #[true, true, true, true, true, true, true, true, true, true, true, true, true, true, false, false, false, false, false, false, false, false, false, false] rfl rfl (one_of HT_.out (by kernel_rfl)) (by decide) (fun K hK => ?_)
                refine goes_ Try.func31 (by kernel_rfl) rfl #[.agg #[.int .i64 t298, .slice Ao14 t299.length co14], .agg #[.int .i64 t302, .slice Ao17 t303.length co17]] (by rfl) rfl rfl (by (try simp only [List.map_toArray, List.map_cons, List.map_nil]); first | done | rfl | (simp only [List.length_drop, List.length_take]; rfl)) ?_
                with_reducible refine (downpourref01_Xor.calls kj6 t298 _ _ t299 t302 _ _ t303 t324 t325 _ ?side1 ?side2 ?side3 ?side4 A76.out).mono ?_
                (case side1 => repeat (first | exact (Kd.V_reads' HO_297001.out).2.2 | (with_reducible refine Kd.C_alloc ?_ _) | (with_reducible refine Kd.C_drewN ?_ _) | (with_reducible refine Kd.C_drew ?_)))
                (case side2 => exact (Kd.V_reads' HO_297001.out).2.1)
                (case side3 => repeat (first | exact (Kd.V_reads' HO_298001.out).2.2 | (with_reducible refine Kd.C_alloc ?_ _) | (with_reducible refine Kd.C_drewN ?_ _) | (with_reducible refine Kd.C_drew ?_)))
                (case side4 => exact (Kd.V_reads' HO_298001.out).2.1)
                rintro e w83 ⟨v326, rfl, ho0, hb⟩
                refine ⟨_, rfl, ?_⟩
                have n0_ := Aside0.mk (Kd.V_elder' (pv HO_297001) (Kd.R_base ho0) hb)
                have n1_ := Aside0.mk (Kd.V_elder' (pv HO_298001) (Kd.R_base ho0) hb)
                have n2_ := Aside0.mk (Kd.R_elder' (pr HO_312001) (Kd.R_base ho0) hb)
                have n3_ := Aside0.mk (Kd.R_elder' (pr HO_318001) (Kd.R_base ho0) hb)
                have n4_ := Aside0.mk (Kd.R_lower (Kd.R_new' (Kd.R_new' ho0 (Kd.R_lt (pr HO_312001))) (Kd.R_lt (pr HO_318001))) (below_size (by repeat (first | (with_reducible first | exact HB.out | apply below_alloc | apply pw_below_drewN | apply below_drew1 | refine below_set ?_ GE296.out | refine below_set ?_ GE297.out | refine below_set ?_ GE311.out | refine below_set ?_ GE317.out) | exact HB.out))))
                have n5_ := bb BK296 hb
                have n6_ := bb BK297 hb
                have n7_ := bb BK311 hb
                have n8_ := bb BK317 hb
                have n9_ := Aside0.mk (below_step (by repeat (first | (with_reducible first | exact HB.out | apply below_alloc | apply pw_below_drewN | apply below_drew1 | refine below_set ?_ GE296.out | refine below_set ?_ GE297.out | refine below_set ?_ GE311.out | refine below_set ?_ GE317.out) | exact HB.out)) hb)
                clear HO_297001
                clear HO_298001
                clear HO_312001
                clear HO_318001
                clear BK296
                clear BK297
                clear BK311
                clear BK317
                clear HB
                have HO_297001 := n0_
                have HO_298001 := n1_
                have HO_312001 := n2_
                have HO_318001 := n3_
                have HO327 := n4_
                have BK296 := n5_
                have BK297 := n6_
                have BK311 := n7_
                have BK317 := n8_
                have HB := n9_
                clear n0_ n1_ n2_ n3_ n4_ n5_ n6_ n7_ n8_ n9_
                (try clear hb)
                (try clear hb2)
                (try clear hk)
                (try clear hi)
                (try clear ho0)
                obtain ⟨Ao84, co84, eo84⟩ := Kd.R_slice HO327.out
                (first | subst eo84 | (injection eo84 with f1_ f2_ f3_; have f4_ := f1_.symm; have f5_ := f3_.symm; clear f1_ f2_ f3_; subst f4_; subst f5_))
                refine hK.out _ _ ⟨(blk_cell BK311.out 0).trans rfl, (blk_cell BK311.out 1).trans rfl, (blk_cell BK296.out 0).trans rfl, (blk_cell BK296.out 1).trans rfl, (blk_cell BK297.out 0).trans rfl, (blk_cell BK297.out 1).trans rfl, (blk_cell BK317.out 0).trans rfl, (blk_cell BK317.out 1).trans rfl⟩ (fun hHeld => ?_)
                clear hK K
                refine norm_ (a' := ?_) ?_ ?_
                rotate_left
                · show Act.put _ (some 77) _ = _
                  simp only [Act.put, List.setIfInBounds_toArray, List.set_cons_zero, List.set_cons_succ, i64_w, i32_w]
                  rfl
                refine one_ (i := 14) (N := some 78) #[true, true, true, true, true, true, true, true, true, true, true, true, true, true, true, false, false, false, false, false, false, false, false, false] rfl rfl (one_of HT_.out (by kernel_rfl)) (by decide) (fun K hK => ?_)
                refine goes_ Try.func25 (by kernel_rfl) rfl #[.agg #[.int .i64 t306, .slice Ao27 t307.length co27], .agg #[.int .i64 t324, .slice Ao84 t325.length co84]] (by rfl) rfl rfl (by (try simp only [List.map_toArray, List.map_cons, List.map_nil]); first | done | rfl | (simp only [List.length_drop, List.length_take]; rfl)) ?_
                with_reducible refine (downpourref01_Same.calls kj6 t306 _ _ t307 t324 _ _ t325 true _ ?side1 ?side2 ?side3 ?side4 A77.out).mono ?_
                (case side1 => repeat (first | exact (Kd.R_reads' HO_312001.out).2.2 | (with_reducible refine Kd.C_alloc ?_ _) | (with_reducible refine Kd.C_drewN ?_ _) | (with_reducible refine Kd.C_drew ?_)))
                (case side2 => exact (Kd.R_reads' HO_312001.out).2.1)
                (case side3 => repeat (first | exact (Kd.R_reads' HO327.out).2.2 | (with_reducible refine Kd.C_alloc ?_ _) | (with_reducible refine Kd.C_drewN ?_ _) | (with_reducible refine Kd.C_drew ?_)))
                (case side4 => exact (Kd.R_reads' HO327.out).2.1)
                rintro e w85 ⟨rfl, hb⟩
                refine ⟨_, rfl, ?_⟩
                have n0_ := Aside0.mk (Kd.V_below (pv HO_297001) hb)
                have n1_ := Aside0.mk (Kd.V_below (pv HO_298001) hb)
                have n2_ := Aside0.mk (Kd.R_below (pr HO_312001) hb)
                have n3_ := Aside0.mk (Kd.R_below (pr HO_318001) hb)
                have n4_ := Aside0.mk (Kd.R_below (pr HO327) hb)
                have n5_ := bb BK296 hb
                have n6_ := bb BK297 hb
                have n7_ := bb BK311 hb
                have n8_ := bb BK317 hb
                have n9_ := Aside0.mk (below_step (by repeat (first | (with_reducible first | exact HB.out | apply below_alloc | apply pw_below_drewN | apply below_drew1 | refine below_set ?_ GE296.out | refine below_set ?_ GE297.out | refine below_set ?_ GE311.out | refine below_set ?_ GE317.out) | exact HB.out)) hb)
                clear HO_297001
                clear HO_298001
                clear HO_312001
                clear HO_318001
                clear HO327
                clear BK296
                clear BK297
                clear BK311
                clear BK317
                clear HB
                have HO_297001 := n0_
                have HO_298001 := n1_
                have HO_312001 := n2_
                have HO_318001 := n3_
                have HO327 := n4_
                have BK296 := n5_
                have BK297 := n6_
                have BK311 := n7_
                have BK317 := n8_
                have HB := n9_
                clear n0_ n1_ n2_ n3_ n4_ n5_ n6_ n7_ n8_ n9_
                (try clear hb)
                (try clear hb2)
                (try clear hk)
                (try clear hi)
                refine hK.out _ _ ⟨(blk_cell BK311.out 0).trans rfl, (blk_cell BK311.out 1).trans rfl, (blk_cell BK296.out 0).trans rfl, (blk_cell BK296.out 1).trans rfl, (blk_cell BK297.out 0).trans rfl, (blk_cell BK297.out 1).trans rfl, (blk_cell BK317.out 0).trans rfl, (blk_cell BK317.out 1).trans rfl⟩ (fun hHeld => ?_)
                clear hK K
                refine norm_ (a' := ?_) ?_ ?_
                rotate_left
                · show Act.put _ (some 78) _ = _
                  simp only [Act.put, List.setIfInBounds_toArray, List.set_cons_zero, List.set_cons_succ, i64_w, i32_w]
                  rfl
                refine pure_ (i := 15) (N := some 79) (v := ?_) (a' := ?_) #[true, true, true, true, true, true, true, true, true, true, true, true, true, true, true, true, false, false, false, false, false, false, false, false] rfl rfl (any_of HT_.out (by kernel_rfl)) (fun _ _ _ h => h) (Or.inl ⟨by rfl, ?_⟩) ?_ ?_
                rotate_left
                · intro w'
                  go_simp
                  with_reducible rfl
                rotate_left
                · simp only [Act.put, List.setIfInBounds_toArray, List.set_cons_zero, List.set_cons_succ, i64_w, i32_w]
                  rfl
                refine pure_ (i := 16) (N := some 80) (v := ?_) (a' := ?_) #[true, true, true, true, true, true, true, true, true, true, true, true, true, true, true, true, true, false, false, false, false, false, false, false] rfl rfl (any_of HT_.out (by kernel_rfl)) (fun _ _ _ h => h) (Or.inl ⟨by rfl, ?_⟩) ?_ ?_
                rotate_left
                · intro w'
                  go_simp
                  with_reducible rfl
                rotate_left
                · simp only [Act.put, List.setIfInBounds_toArray, List.set_cons_zero, List.set_cons_succ, i64_w, i32_w]
                  rfl
                refine take_ (i := 17) (N := some 81) (v := ?_) (a' := ?_) #[true, true, true, true, true, true, true, true, true, true, true, true, true, true, true, true, true, true, false, false, false, false, false, false] rfl rfl (take_ofW HT_.out HW_.out (by kernel_rfl)) (fun _ _ _ h => h) (Or.inl ⟨by rfl, ?_⟩) hHeld ?_ ?_
                rotate_left
                · rintro w' ⟨s0, s1, s2, s3, s4, s5, s6, s7⟩
                  go_simp
                  with_reducible rfl
                rotate_left
                · simp only [Act.put, List.setIfInBounds_toArray, List.set_cons_zero, List.set_cons_succ, i64_w, i32_w]
                  rfl
                refine take_ (i := 18) (N := some 82) (v := ?_) (a' := ?_) #[true, true, true, true, true, true, true, true, true, true, true, true, true, true, true, true, true, true, true, false, false, false, false, false] rfl rfl (take_ofW HT_.out HW_.out (by kernel_rfl)) (fun _ _ _ h => h) (Or.inl ⟨by rfl, ?_⟩) hHeld ?_ ?_
                rotate_left
                · rintro w' ⟨s0, s1, s2, s3, s4, s5, s6, s7⟩
                  go_simp
                  with_reducible rfl
                rotate_left
                · simp only [Act.put, List.setIfInBounds_toArray, List.set_cons_zero, List.set_cons_succ, i64_w, i32_w]
                  rfl
                refine take_ (i := 19) (N := some 83) (v := ?_) (a' := ?_) #[true, true, true, true, true, true, true, true, true, true, true, true, true, true, true, true, true, true, true, true, false, false, false, false] rfl rfl (take_ofW HT_.out HW_.out (by kernel_rfl)) (fun _ _ _ h => h) (Or.inl ⟨by rfl, ?_⟩) hHeld ?_ ?_
                rotate_left
                · rintro w' ⟨s0, s1, s2, s3, s4, s5, s6, s7⟩
                  go_simp
                  with_reducible rfl
                rotate_left
                · simp only [Act.put, List.setIfInBounds_toArray, List.set_cons_zero, List.set_cons_succ, i64_w, i32_w]
                  rfl
                refine one_ (i := 20) (N := some 84) #[true, true, true, true, true, true, true, true, true, true, true, true, true, true, true, true, true, true, true, true, true, false, false, false] rfl rfl (one_of HT_.out (by kernel_rfl)) (by decide) (fun K hK => ?_)
                refine goes_ Try.func32 (by kernel_rfl) rfl #[.agg #[.int .i64 t298, .slice Ao14 t299.length co14], .agg #[.int .i64 t302, .slice Ao17 t303.length co17]] (by rfl) rfl rfl (by (try simp only [List.map_toArray, List.map_cons, List.map_nil]); first | done | rfl | (simp only [List.length_drop, List.length_take]; rfl)) ?_
                with_reducible refine (downpourref01_And.calls kj6 t298 _ _ t299 t302 _ _ t303 t329 t330 _ ?side1 ?side2 ?side3 ?side4 A79.out).mono ?_
                (case side1 => repeat (first | exact (Kd.V_reads' HO_297001.out).2.2 | (with_reducible refine Kd.C_alloc ?_ _) | (with_reducible refine Kd.C_drewN ?_ _) | (with_reducible refine Kd.C_drew ?_)))
                (case side2 => exact (Kd.V_reads' HO_297001.out).2.1)
                (case side3 => repeat (first | exact (Kd.V_reads' HO_298001.out).2.2 | (with_reducible refine Kd.C_alloc ?_ _) | (with_reducible refine Kd.C_drewN ?_ _) | (with_reducible refine Kd.C_drew ?_)))
                (case side4 => exact (Kd.V_reads' HO_298001.out).2.1)
                rintro e w86 ⟨v331, rfl, ho0, hb⟩
                refine ⟨_, rfl, ?_⟩
                have n0_ := Aside0.mk (Kd.V_elder' (pv HO_297001) (Kd.R_base ho0) hb)
                have n1_ := Aside0.mk (Kd.V_elder' (pv HO_298001) (Kd.R_base ho0) hb)
                have n2_ := Aside0.mk (Kd.R_elder' (pr HO_312001) (Kd.R_base ho0) hb)
                have n3_ := Aside0.mk (Kd.R_elder' (pr HO_318001) (Kd.R_base ho0) hb)
                have n4_ := Aside0.mk (Kd.R_elder' (pr HO327) (Kd.R_base ho0) hb)
                have n5_ := Aside0.mk (Kd.R_lower (Kd.R_new' (Kd.R_new' (Kd.R_new' ho0 (Kd.R_lt (pr HO_312001))) (Kd.R_lt (pr HO_318001))) (Kd.R_lt (pr HO327))) (below_size (by repeat (first | (with_reducible first | exact HB.out | apply below_alloc | apply pw_below_drewN | apply below_drew1 | refine below_set ?_ GE296.out | refine below_set ?_ GE297.out | refine below_set ?_ GE311.out | refine below_set ?_ GE317.out) | exact HB.out))))
                have n6_ := bb BK296 hb
                have n7_ := bb BK297 hb
                have n8_ := bb BK311 hb
                have n9_ := bb BK317 hb
                have n10_ := Aside0.mk (below_step (by repeat (first | (with_reducible first | exact HB.out | apply below_alloc | apply pw_below_drewN | apply below_drew1 | refine below_set ?_ GE296.out | refine below_set ?_ GE297.out | refine below_set ?_ GE311.out | refine below_set ?_ GE317.out) | exact HB.out)) hb)
                clear HO_297001
                clear HO_298001
                clear HO_312001
                clear HO_318001
                clear HO327
                clear BK296
                clear BK297
                clear BK311
                clear BK317
                clear HB
                have HO_297001 := n0_
                have HO_298001 := n1_
                have HO_312001 := n2_
                have HO_318001 := n3_
                have HO327 := n4_
                have HO332 := n5_
                have BK296 := n6_
                have BK297 := n7_
                have BK311 := n8_
                have BK317 := n9_
                have HB := n10_
                clear n0_ n1_ n2_ n3_ n4_ n5_ n6_ n7_ n8_ n9_ n10_
                (try clear hb)
                (try clear hb2)
                (try clear hk)
                (try clear hi)
                (try clear ho0)
                obtain ⟨Ao87, co87, eo87⟩ := Kd.R_slice HO332.out
                (first | subst eo87 | (injection eo87 with f1_ f2_ f3_; have f4_ := f1_.symm; have f5_ := f3_.symm; clear f1_ f2_ f3_; subst f4_; subst f5_))
                refine hK.out _ _ ⟨(blk_cell BK311.out 0).trans rfl, (blk_cell BK311.out 1).trans rfl, (blk_cell BK296.out 0).trans rfl, (blk_cell BK296.out 1).trans rfl, (blk_cell BK297.out 0).trans rfl, (blk_cell BK297.out 1).trans rfl, (blk_cell BK317.out 0).trans rfl, (blk_cell BK317.out 1).trans rfl⟩ (fun hHeld => ?_)
                clear hK K
                refine norm_ (a' := ?_) ?_ ?_
                rotate_left
                · show Act.put _ (some 84) _ = _
                  simp only [Act.put, List.setIfInBounds_toArray, List.set_cons_zero, List.set_cons_succ, i64_w, i32_w]
                  rfl
                refine one_ (i := 21) (N := some 85) #[true, true, true, true, true, true, true, true, true, true, true, true, true, true, true, true, true, true, true, true, true, true, false, false] rfl rfl (one_of HT_.out (by kernel_rfl)) (by decide) (fun K hK => ?_)
                refine goes_ Try.func25 (by kernel_rfl) rfl #[.agg #[.int .i64 t312, .slice Ao36 t313.length co36], .agg #[.int .i64 t329, .slice Ao87 t330.length co87]] (by rfl) rfl rfl (by (try simp only [List.map_toArray, List.map_cons, List.map_nil]); first | done | rfl | (simp only [List.length_drop, List.length_take]; rfl)) ?_
                with_reducible refine (downpourref01_Same.calls kj6 t312 _ _ t313 t329 _ _ t330 t333 _ ?side1 ?side2 ?side3 ?side4 A80.out).mono ?_
                (case side1 => repeat (first | exact (Kd.R_reads' HO_318001.out).2.2 | (with_reducible refine Kd.C_alloc ?_ _) | (with_reducible refine Kd.C_drewN ?_ _) | (with_reducible refine Kd.C_drew ?_)))
                (case side2 => exact (Kd.R_reads' HO_318001.out).2.1)
                (case side3 => repeat (first | exact (Kd.R_reads' HO332.out).2.2 | (with_reducible refine Kd.C_alloc ?_ _) | (with_reducible refine Kd.C_drewN ?_ _) | (with_reducible refine Kd.C_drew ?_)))
                (case side4 => exact (Kd.R_reads' HO332.out).2.1)
                rintro e w88 ⟨rfl, hb⟩
                refine ⟨_, rfl, ?_⟩
                have n0_ := Aside0.mk (Kd.V_below (pv HO_297001) hb)
                have n1_ := Aside0.mk (Kd.V_below (pv HO_298001) hb)
                have n2_ := Aside0.mk (Kd.R_below (pr HO_312001) hb)
                have n3_ := Aside0.mk (Kd.R_below (pr HO_318001) hb)
                have n4_ := Aside0.mk (Kd.R_below (pr HO327) hb)
                have n5_ := Aside0.mk (Kd.R_below (pr HO332) hb)
                have n6_ := bb BK296 hb
                have n7_ := bb BK297 hb
                have n8_ := bb BK311 hb
                have n9_ := bb BK317 hb
                have n10_ := Aside0.mk (below_step (by repeat (first | (with_reducible first | exact HB.out | apply below_alloc | apply pw_below_drewN | apply below_drew1 | refine below_set ?_ GE296.out | refine below_set ?_ GE297.out | refine below_set ?_ GE311.out | refine below_set ?_ GE317.out) | exact HB.out)) hb)
                clear HO_297001
                clear HO_298001
                clear HO_312001
                clear HO_318001
                clear HO327
                clear HO332
                clear BK296
                clear BK297
                clear BK311
                clear BK317
                clear HB
                have HO_297001 := n0_
                have HO_298001 := n1_
                have HO_312001 := n2_
                have HO_318001 := n3_
                have HO327 := n4_
                have HO332 := n5_
                have BK296 := n6_
                have BK297 := n7_
                have BK311 := n8_
                have BK317 := n9_
                have HB := n10_
                clear n0_ n1_ n2_ n3_ n4_ n5_ n6_ n7_ n8_ n9_ n10_
                (try clear hb)
                (try clear hb2)
                (try clear hk)
                (try clear hi)
                refine hK.out _ _ ⟨(blk_cell BK311.out 0).trans rfl, (blk_cell BK311.out 1).trans rfl, (blk_cell BK296.out 0).trans rfl, (blk_cell BK296.out 1).trans rfl, (blk_cell BK297.out 0).trans rfl, (blk_cell BK297.out 1).trans rfl, (blk_cell BK317.out 0).trans rfl, (blk_cell BK317.out 1).trans rfl⟩ (fun hHeld => ?_)
                clear hK K
                refine norm_ (a' := ?_) ?_ ?_
                rotate_left
                · show Act.put _ (some 85) _ = _
                  simp only [Act.put, List.setIfInBounds_toArray, List.set_cons_zero, List.set_cons_succ, i64_w, i32_w]
                  rfl
                refine pure_ (i := 22) (N := some 86) (v := ?_) (a' := ?_) #[true, true, true, true, true, true, true, true, true, true, true, true, true, true, true, true, true, true, true, true, true, true, true, false] rfl rfl (any_of HT_.out (by kernel_rfl)) (fun _ _ _ h => h) (Or.inl ⟨by rfl, ?_⟩) ?_ ?_
                rotate_left
                · intro w'
                  go_simp
                  with_reducible rfl
                rotate_left
                · simp only [Act.put, List.setIfInBounds_toArray, List.set_cons_zero, List.set_cons_succ, i64_w, i32_w]
                  rfl
                refine pure_ (i := 23) (N := some 4) (v := ?_) (a' := ?_) #[true, true, true, true, true, true, true, true, true, true, true, true, true, true, true, true, true, true, true, true, true, true, true, true] rfl rfl (any_of HT_.out (by kernel_rfl)) (fun _ _ _ h => h) (Or.inl ⟨by rfl, ?_⟩) ?_ ?_
                rotate_left
                · intro w'
                  go_simp
                  with_reducible rfl
                rotate_left
                · simp only [Act.put, List.setIfInBounds_toArray, List.set_cons_zero, List.set_cons_succ, i64_w, i32_w]
                  rfl
                refine done_ (done_of HT_.out (by kernel_rfl)) ?_
                try go_wp2
                go_ret
                exact ⟨by first | rfl | (simp [errW_none, errW_some] <;> rfl) | (simp [*, errW_none, errW_some] <;> rfl), by repeat (first | (with_reducible first | exact HB.out | apply below_alloc | apply pw_below_drewN | apply below_drew1 | refine below_set ?_ GE296.out | refine below_set ?_ GE297.out | refine below_set ?_ GE311.out | refine below_set ?_ GE317.out) | exact HB.out)⟩
              · replace c78 := Bool.eq_false_iff.mpr c78
                subst c78
                have H1 : (none) = some r := by rw [if_neg (show ¬ (false = true) by decide)] at H; exact H
                clear H
                have H := H1
                clear H1
                exact absurd H (by simp)
            · rw [if_neg c75] at H
              exact absurd H (by simp)
          · rw [if_neg c74] at H
            exact absurd H (by simp)
        · replace c73 := Bool.eq_false_iff.mpr c73
          subst c73
          have H1 : (none) = some r := by rw [if_neg (show ¬ (false = true) by decide)] at H; exact H
          clear H
          have H := H1
          clear H1
          exact absurd H (by simp)
      · rw [if_neg c71] at H
        have c71b0 : (x9_6 == 0) = false := beq_eq_false_iff_ne.mpr c71
        have c71b1 : (x9_6 != 0) = true := bne_iff_ne.mpr c71
        replace H := Option.bind_eq_some_iff.mp H
        obtain ⟨t320, A890, H⟩ := H
        replace H : (if t320 = true then (if t310 = x9_6 then (if t316 = x9_6 then ((downpourref01_Same.f kj6 t306 t307 0 ([] : List Int)).bind fun t321 => (if t321 = true then ((downpourref01_Same.f kj6 t312 t313 0 ([] : List Int)).bind fun t322 => (some t322)) else (none))) else (none)) else (none)) else (none)) = some r := H
        have A89 := Aside0.mk A890
        clear A890
        by_cases c90 : t320 = true
        · subst c90
          have H1 : (if t310 = x9_6 then (if t316 = x9_6 then ((downpourref01_Same.f kj6 t306 t307 0 ([] : List Int)).bind fun t321 => (if t321 = true then ((downpourref01_Same.f kj6 t312 t313 0 ([] : List Int)).bind fun t322 => (some t322)) else (none))) else (none)) else (none)) = some r := by rw [if_pos rfl] at H; exact H
          clear H
          have H := H1
          clear H1
          by_cases c91 : t310 = x9_6
          · rw [if_pos c91] at H
            have c91b0 : (t310 == x9_6) = true := beq_iff_eq.mpr c91
            have c91b1 : (t310 != x9_6) = false := bne_eq_false_iff_eq.mpr c91
            clear c91
            by_cases c92 : t316 = x9_6
            · rw [if_pos c92] at H
              have c92b0 : (t316 == x9_6) = true := beq_iff_eq.mpr c92
              have c92b1 : (t316 != x9_6) = false := bne_eq_false_iff_eq.mpr c92
              clear c92
              replace H := Option.bind_eq_some_iff.mp H
              obtain ⟨t321, A930, H⟩ := H
              replace H : (if t321 = true then ((downpourref01_Same.f kj6 t312 t313 0 ([] : List Int)).bind fun t322 => (some t322)) else (none)) = some r := H
              have A93 := Aside0.mk A930
              clear A930
              by_cases c94 : t321 = true
              · subst c94
                have H1 : ((downpourref01_Same.f kj6 t312 t313 0 ([] : List Int)).bind fun t322 => (some t322)) = some r := by rw [if_pos rfl] at H; exact H
                clear H
                have H := H1
                clear H1
                replace H := Option.bind_eq_some_iff.mp H
                obtain ⟨t322, A950, H⟩ := H
                replace H : (some t322) = some r := H
                have A95 := Aside0.mk A950
                clear A950
                obtain rfl := Option.some.inj H
                go_wp2_with (first | ((with_reducible refine gate_callee (f := 26) rfl ?_); refine goesL_ (some 43) rfl rfl Try.func26 (by kernel_rfl) rfl #[] rfl (by (try simp only [List.map_toArray, List.map_cons, List.map_nil]); first | done | rfl | (simp only [List.length_drop, List.length_take]; rfl)) ?_; (with_reducible refine (downpourlaw01_alive.calls kj6  true _ A89.out).mono ?_); rintro e w96 ⟨rfl, hb⟩; refine ⟨_, rfl, ?_⟩; have n0_ := Aside0.mk (Kd.V_below (pv HO_297001) hb); have n1_ := Aside0.mk (Kd.V_below (pv HO_298001) hb); have n2_ := Aside0.mk (Kd.R_below (pr HO_312001) hb); have n3_ := Aside0.mk (Kd.R_below (pr HO_318001) hb); have n4_ := bb BK296 hb; have n5_ := bb BK297 hb; have n6_ := bb BK311 hb; have n7_ := bb BK317 hb; have n8_ := Aside0.mk (below_step (by repeat (first | (with_reducible first | exact HB.out | apply below_alloc | apply pw_below_drewN | apply below_drew1 | refine below_set ?_ GE296.out | refine below_set ?_ GE297.out | refine below_set ?_ GE311.out | refine below_set ?_ GE317.out) | exact HB.out)) hb); clear HO_297001 HO_298001 HO_312001 HO_318001 BK296 BK297 BK311 BK317 HB; have HO_297001 := n0_; have HO_298001 := n1_; have HO_312001 := n2_; have HO_318001 := n3_; have BK296 := n4_; have BK297 := n5_; have BK311 := n6_; have BK317 := n7_; have HB := n8_; clear n0_ n1_ n2_ n3_ n4_ n5_ n6_ n7_ n8_; (try clear hb); (try clear hb2); (try clear hk); (try clear hi); have hnb97 := NB311_296.out; have hnc97 := NB296_311.out; have hnb98 := NB311_297.out; have hnc98 := NB297_311.out; have hnb99 := NB311_317.out; have hnc99 := NB317_311.out; have hcz100_0 : w96.cell? ⟨gb311, 0, none⟩ = some (.int .i64 t306) := (blk_cell BK311.out 0).trans rfl; have hcz100_1 : w96.cell? ⟨gb311, 1, none⟩ = some (.slice Ao27 t307.length co27) := (blk_cell BK311.out 1).trans rfl; have hfz100_0 := blk_frozen BK311.out 0; have hfz100_1 := blk_frozen BK311.out 1) | (go_at_call 25; (refine calls_of_args (args' := #[.agg #[.int .i64 t306, .slice Ao27 t307.length co27], .agg #[.int .i64 0, .slice none ([] : List Int).length 0]]) (by rfl) ?_; with_reducible refine (downpourref01_Same.calls kj6 t306 _ _ t307 0 _ _ ([] : List Int) true _ ?side1 ?side2 ?side3 ?side4 A93.out).mono ?_); (case side1 => repeat (first | exact (Kd.R_reads' HO_312001.out).2.2 | (with_reducible refine Kd.C_alloc ?_ _) | (with_reducible refine Kd.C_drewN ?_ _) | (with_reducible refine Kd.C_drew ?_))); (case side2 => exact (Kd.R_reads' HO_312001.out).2.1); (case side3 => exact Kd.C_nil _ _); (case side4 => exact Nat.le_refl _); rintro e w101 ⟨rfl, hb⟩; have n0_ := Aside0.mk (Kd.V_below (pv HO_297001) hb); have n1_ := Aside0.mk (Kd.V_below (pv HO_298001) hb); have n2_ := Aside0.mk (Kd.R_below (pr HO_312001) hb); have n3_ := Aside0.mk (Kd.R_below (pr HO_318001) hb); have n4_ := bb BK296 hb; have n5_ := bb BK297 hb; have n6_ := bb BK311 hb; have n7_ := bb BK317 hb; have n8_ := Aside0.mk (below_step (by repeat (first | (with_reducible first | exact HB.out | apply below_alloc | apply pw_below_drewN | apply below_drew1 | refine below_set ?_ GE296.out | refine below_set ?_ GE297.out | refine below_set ?_ GE311.out | refine below_set ?_ GE317.out) | exact HB.out)) hb); clear HO_297001 HO_298001 HO_312001 HO_318001 BK296 BK297 BK311 BK317 HB; have HO_297001 := n0_; have HO_298001 := n1_; have HO_312001 := n2_; have HO_318001 := n3_; have BK296 := n4_; have BK297 := n5_; have BK311 := n6_; have BK317 := n7_; have HB := n8_; clear n0_ n1_ n2_ n3_ n4_ n5_ n6_ n7_ n8_; (try clear hb); (try clear hb2); (try clear hk); (try clear hi); have hnb102 := NB317_296.out; have hnc102 := NB296_317.out; have hnb103 := NB317_297.out; have hnc103 := NB297_317.out; have hcz104_0 : w101.cell? ⟨gb317, 0, none⟩ = some (.int .i64 t312) := (blk_cell BK317.out 0).trans rfl; have hcz104_1 : w101.cell? ⟨gb317, 1, none⟩ = some (.slice Ao36 t313.length co36) := (blk_cell BK317.out 1).trans rfl; have hfz104_0 := blk_frozen BK317.out 0; have hfz104_1 := blk_frozen BK317.out 1) | (go_at_call 25; (refine calls_of_args (args' := #[.agg #[.int .i64 t312, .slice Ao36 t313.length co36], .agg #[.int .i64 0, .slice none ([] : List Int).length 0]]) (by rfl) ?_; with_reducible refine (downpourref01_Same.calls kj6 t312 _ _ t313 0 _ _ ([] : List Int) t322 _ ?side1 ?side2 ?side3 ?side4 A95.out).mono ?_); (case side1 => repeat (first | exact (Kd.R_reads' HO_318001.out).2.2 | (with_reducible refine Kd.C_alloc ?_ _) | (with_reducible refine Kd.C_drewN ?_ _) | (with_reducible refine Kd.C_drew ?_))); (case side2 => exact (Kd.R_reads' HO_318001.out).2.1); (case side3 => exact Kd.C_nil _ _); (case side4 => exact Nat.le_refl _); rintro e w105 ⟨rfl, hb⟩; have n0_ := Aside0.mk (Kd.V_below (pv HO_297001) hb); have n1_ := Aside0.mk (Kd.V_below (pv HO_298001) hb); have n2_ := Aside0.mk (Kd.R_below (pr HO_312001) hb); have n3_ := Aside0.mk (Kd.R_below (pr HO_318001) hb); have n4_ := bb BK296 hb; have n5_ := bb BK297 hb; have n6_ := bb BK311 hb; have n7_ := bb BK317 hb; have n8_ := Aside0.mk (below_step (by repeat (first | (with_reducible first | exact HB.out | apply below_alloc | apply pw_below_drewN | apply below_drew1 | refine below_set ?_ GE296.out | refine below_set ?_ GE297.out | refine below_set ?_ GE311.out | refine below_set ?_ GE317.out) | exact HB.out)) hb); clear HO_297001 HO_298001 HO_312001 HO_318001 BK296 BK297 BK311 BK317 HB; have HO_297001 := n0_; have HO_298001 := n1_; have HO_312001 := n2_; have HO_318001 := n3_; have BK296 := n4_; have BK297 := n5_; have BK311 := n6_; have BK317 := n7_; have HB := n8_; clear n0_ n1_ n2_ n3_ n4_ n5_ n6_ n7_ n8_; (try clear hb); (try clear hb2); (try clear hk); (try clear hi)))
                go_ret
                exact ⟨by first | rfl | (simp [errW_none, errW_some] <;> rfl) | (simp [*, errW_none, errW_some] <;> rfl), by repeat (first | (with_reducible first | exact HB.out | apply below_alloc | apply pw_below_drewN | apply below_drew1 | refine below_set ?_ GE296.out | refine below_set ?_ GE297.out | refine below_set ?_ GE311.out | refine below_set ?_ GE317.out) | exact HB.out)⟩
              · replace c94 := Bool.eq_false_iff.mpr c94
                subst c94
                have H1 : (none) = some r := by rw [if_neg (show ¬ (false = true) by decide)] at H; exact H
                clear H
                have H := H1
                clear H1
                exact absurd H (by simp)
            · rw [if_neg c92] at H
              exact absurd H (by simp)
          · rw [if_neg c91] at H
            exact absurd H (by simp)
        · replace c90 := Bool.eq_false_iff.mpr c90
          subst c90
          have H1 : (none) = some r := by rw [if_neg (show ¬ (false = true) by decide)] at H; exact H
          clear H
          have H := H1
          clear H1
          exact absurd H (by simp)

end Go.Proofs.Ytfdcjkhckjnaeaa.PA
