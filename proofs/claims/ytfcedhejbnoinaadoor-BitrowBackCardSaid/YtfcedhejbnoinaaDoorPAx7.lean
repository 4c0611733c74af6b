-- PRINTED by print.py (a twelfth state) out of the translation. Not trusted: Lean checks it.
import Derived.Test.YtfcedhejbnoinaaDoorPAx0
import Derived.Test.YtfcedhejbnoinaaDoorPAx1
import Derived.Test.YtfcedhejbnoinaaDoorPAx2
import Derived.Test.YtfcedhejbnoinaaDoorPAx4
import Derived.Test.YtfcedhejbnoinaaDoorPAx5
import Derived.Test.YtfcedhejbnoinaaDoorPAx6
namespace Go.Proofs.YtfcedhejbnoinaaDoor.PA
open Go.RowKit Go.Proofs.YtfcedhejbnoinaaDoorW.PrintWords Go.Proofs.YtfcedhejbnoinaaDoorW.PrintLast Go.Proofs.YtfcedhejbnoinaaDoorW.PrintMore
open Bool renaming true → T, false → F
open List renaming setIfInBounds_toArray → q1, set_cons_zero → q2, set_cons_succ → q3
attribute [local go_sem] run_store_func max2_int min2_int max_two min_two max_three min_three max_four min_four   -- for this text's walks alone
set_option linter.unusedVariables false
set_option linter.unusedSimpArgs false

/-! ### downpourlaw01_BitrowBack: function 5 -/
def downpourlaw01_BitrowBack.j0 : Nat → Int → Bool → Int → List Int → Int → List Int → Int → List Int → Option (Bool)
 | 0, _, _, _, _, _, _, _, _ => none
 | k + 1, x10, x64, x230000, x230001, x231000, x231001, x256000, x256001 => if x64 = true then (none) else (if x10 = 0 then ((bitrow_And.f k x230000 x230001 x231000 x231001).bind fun bt259 => ((bitrow_Xor.f k x256000 x256001 x231000 x231001).bind fun bt265 => ((bitrow_Count.f k x230000 x230001).bind fun bt271 => ((bitrow_Count.f k x231000 x231001).bind fun bt273 => ((bitrow_Count.f k x256000 x256001).bind fun bt275 => ((bitrow_Count.f k bt259.1 bt259.2.1).bind fun bt277 => (if bt259.2.2 = 0 then (if bt265.2.2 = 0 then (if bt271.2 = 0 then (if bt273.2 = 0 then (if bt275.2 = 0 then (if bt277.2 = 0 then ((downpourref01_Same.f k bt265.1 bt265.2.1 x230000 x230001).bind fun t279 => (if t279 = true then (if (wrap64 (bt271.1 + bt273.1)) = (wrap64 (bt275.1 + (wrap64 (2 * bt277.1)))) then ((bitrow_Right.f x256000 x256001).bind fun t280 => (if t280 = true then ((bitrow_Right.f bt259.1 bt259.2.1).bind fun t281 => (some t281)) else (none))) else (none)) else (none))) else (none)) else (none)) else (none)) else (none)) else (none)) else (none)))))))) else ((downpourref01_Same.f k x256000 x256001 0 ([] : List Int)).bind fun t258 => (some t258)))
def downpourlaw01_BitrowBack.f (k : Nat) (a0_0 : Int) (l0_1 : List Int) (a1_0 : Int) (l1_1 : List Int) : Option (Bool) := (downpourlaw01_few.f a0_0 l0_1).bind fun bt231 => ((downpourlaw01_few.f a1_0 l1_1).bind fun bt235 => ((bitrow_Places.f bt231.1 bt231.2).bind fun bt239 => (if bt239.2 = 0 then ((bitrow_Of.f k bt231.1 bt239.1).bind fun bt244 => ((bitrow_Xor.f k bt231.1 bt231.2 bt235.1 bt235.2).bind fun bt250 => (if bt244.2.2 = 0 then ((downpourref01_Same.f k bt244.1 bt244.2.1 bt231.1 bt231.2).bind fun t256 => (if t256 = true then ((downpourlaw01_alive.f k).bind fun t257 => (downpourlaw01_BitrowBack.j0 k bt250.2.2 (!t257) bt231.1 bt231.2 bt235.1 bt235.2 bt250.1 bt250.2.1)) else (downpourlaw01_BitrowBack.j0 k bt250.2.2 true bt231.1 bt231.2 bt235.1 bt235.2 bt250.1 bt250.2.1))) else (downpourlaw01_BitrowBack.j0 k bt250.2.2 true bt231.1 bt231.2 bt235.1 bt235.2 bt250.1 bt250.2.1)))) else ((downpourlaw01_alive.f k).bind fun t243 => (if t243 = true then (some ((bt239.1.length : Int) == 0)) else (none))))))
theorem downpourlaw01_BitrowBack.mono_l : ∀ k, (∀ y0 y1 y2 y3 y4 y5 y6 y7, LeO (downpourlaw01_BitrowBack.j0 k y0 y1 y2 y3 y4 y5 y6 y7) (downpourlaw01_BitrowBack.j0 (k + 1) y0 y1 y2 y3 y4 y5 y6 y7))
 | 0 => fun _ _ _ _ _ _ _ _ r h => by simp [downpourlaw01_BitrowBack.j0] at h
 | k + 1 => by
  have ih0 := downpourlaw01_BitrowBack.mono_l k
  ·
   intro y0 y1 y2 y3 y4 y5 y6 y7
   unfold downpourlaw01_BitrowBack.j0
   repeat' first
   | (with_reducible exact ih0 _ _ _ _ _ _ _ _)
   | (with_reducible exact bitrow_And.mono _ _ _ _ _)
   | (with_reducible exact bitrow_Count.mono _ _ _)
   | (with_reducible exact bitrow_Of.mono _ _ _)
   | (with_reducible exact bitrow_Xor.mono _ _ _ _ _)
   | (with_reducible exact downpourlaw01_alive.mono _)
   | (with_reducible exact downpourref01_Same.mono _ _ _ _ _)
   | (with_reducible exact LeO.refl _)
   | (with_reducible exact LeO.none _)
   | (with_reducible refine LeO.ite ?_ ?_)
   | (with_reducible refine LeO.bind ?_ (fun _ => ?_))
   | exact ih0 _ _ _ _ _ _ _ _
   | exact bitrow_And.mono _ _ _ _ _
   | exact bitrow_Count.mono _ _ _
   | exact bitrow_Of.mono _ _ _
   | exact bitrow_Xor.mono _ _ _ _ _
   | exact downpourlaw01_alive.mono _
   | exact downpourref01_Same.mono _ _ _ _ _
   | exact LeO.none _
   | refine LeO.ite ?_ ?_
   | refine LeO.bind ?_ (fun _ => ?_)
theorem downpourlaw01_BitrowBack.mono : ∀ a0 a1 a2 a3 k, LeO (downpourlaw01_BitrowBack.f k a0 a1 a2 a3) (downpourlaw01_BitrowBack.f (k + 1) a0 a1 a2 a3) := by
 intro a0 a1 a2 a3 k
 have ih0 := downpourlaw01_BitrowBack.mono_l k
 unfold downpourlaw01_BitrowBack.f
 repeat' first
   | (with_reducible exact ih0 _ _ _ _ _ _ _ _)
   | (with_reducible exact bitrow_And.mono _ _ _ _ _)
   | (with_reducible exact bitrow_Count.mono _ _ _)
   | (with_reducible exact bitrow_Of.mono _ _ _)
   | (with_reducible exact bitrow_Xor.mono _ _ _ _ _)
   | (with_reducible exact downpourlaw01_alive.mono _)
   | (with_reducible exact downpourref01_Same.mono _ _ _ _ _)
   | (with_reducible exact LeO.refl _)
   | (with_reducible exact LeO.none _)
   | (with_reducible refine LeO.ite ?_ ?_)
   | (with_reducible refine LeO.bind ?_ (fun _ => ?_))
   | exact ih0 _ _ _ _ _ _ _ _
   | exact bitrow_And.mono _ _ _ _ _
   | exact bitrow_Count.mono _ _ _
   | exact bitrow_Of.mono _ _ _
   | exact bitrow_Xor.mono _ _ _ _ _
   | exact downpourlaw01_alive.mono _
   | exact downpourref01_Same.mono _ _ _ _ _
   | exact LeO.none _
   | refine LeO.ite ?_ ?_
   | refine LeO.bind ?_ (fun _ => ?_)
set_option maxHeartbeats 8000000 in
set_option maxRecDepth 100000 in
theorem downpourlaw01_BitrowBack.calls (k : Nat) (a0_0 : Int) (A0_1 : Option Addr) (c0_1 : Nat) (l0_1 : List Int) (a1_0 : Int) (A1_1 : Option Addr) (c1_1 : Nat) (l1_1 : List Int) (r : Bool) (w : World) (hT_ : TabOk w) (hr0_1 : Kd.C (Kd.int .u64) w A0_1 l0_1.length l0_1) (hc0_1 : l0_1.length ≤ c0_1) (hr1_1 : Kd.C (Kd.int .u64) w A1_1 l1_1.length l1_1) (hc1_1 : l1_1.length ≤ c1_1) (h : downpourlaw01_BitrowBack.f k a0_0 l0_1 a1_0 l1_1 = some r) :
  Calls Tryd.prog 5 #[.agg #[.int .i64 a0_0, .slice A0_1 l0_1.length c0_1], .agg #[.int .i64 a1_0, .slice A1_1 l1_1.length c1_1]] w fun e w' => e = .returned (.bool r) ∧ Below w.heap.size w w' := by
 have hu25 := Tryd.underlying25
 have HR0_1 := Aside0.mk hr0_1
 have HC0_1 := Aside0.mk hc0_1
 clear hr0_1 hc0_1
 have HR1_1 := Aside0.mk hr1_1
 have HC1_1 := Aside0.mk hc1_1
 clear hr1_1 hc1_1
 have HT := Aside0.mk hT_
 clear hT_
 have HB := am (Below.refl w.heap.size w)
 have H : ((downpourlaw01_few.f a0_0 l0_1).bind fun bt231 => ((downpourlaw01_few.f a1_0 l1_1).bind fun bt235 => ((bitrow_Places.f bt231.1 bt231.2).bind fun bt239 => (if bt239.2 = 0 then ((bitrow_Of.f k bt231.1 bt239.1).bind fun bt244 => ((bitrow_Xor.f k bt231.1 bt231.2 bt235.1 bt235.2).bind fun bt250 => (if bt244.2.2 = 0 then ((downpourref01_Same.f k bt244.1 bt244.2.1 bt231.1 bt231.2).bind fun t256 => (if t256 = true then ((downpourlaw01_alive.f k).bind fun t257 => (downpourlaw01_BitrowBack.j0 k bt250.2.2 (!t257) bt231.1 bt231.2 bt235.1 bt235.2 bt250.1 bt250.2.1)) else (downpourlaw01_BitrowBack.j0 k bt250.2.2 true bt231.1 bt231.2 bt235.1 bt235.2 bt250.1 bt250.2.1))) else (downpourlaw01_BitrowBack.j0 k bt250.2.2 true bt231.1 bt231.2 bt235.1 bt235.2 bt250.1 bt250.2.1)))) else ((downpourlaw01_alive.f k).bind fun t243 => (if t243 = true then (some ((bt239.1.length : Int) == 0)) else (none))))))) = some r := h
 clear h
 replace H := Option.bind_eq_some_iff.mp H
 obtain ⟨⟨t231, t232⟩, A30, H⟩ := H
 replace H : ((downpourlaw01_few.f a1_0 l1_1).bind fun bt235 => ((bitrow_Places.f t231 t232).bind fun bt239 => (if bt239.2 = 0 then ((bitrow_Of.f k t231 bt239.1).bind fun bt244 => ((bitrow_Xor.f k t231 t232 bt235.1 bt235.2).bind fun bt250 => (if bt244.2.2 = 0 then ((downpourref01_Same.f k bt244.1 bt244.2.1 t231 t232).bind fun t256 => (if t256 = true then ((downpourlaw01_alive.f k).bind fun t257 => (downpourlaw01_BitrowBack.j0 k bt250.2.2 (!t257) t231 t232 bt235.1 bt235.2 bt250.1 bt250.2.1)) else (downpourlaw01_BitrowBack.j0 k bt250.2.2 true t231 t232 bt235.1 bt235.2 bt250.1 bt250.2.1))) else (downpourlaw01_BitrowBack.j0 k bt250.2.2 true t231 t232 bt235.1 bt235.2 bt250.1 bt250.2.1)))) else ((downpourlaw01_alive.f k).bind fun t243 => (if t243 = true then (some ((bt239.1.length : Int) == 0)) else (none)))))) = some r := H
 have A3 := Aside0.mk A30
 clear A30
 replace H := Option.bind_eq_some_iff.mp H
 obtain ⟨⟨t235, t236⟩, A40, H⟩ := H
 replace H : ((bitrow_Places.f t231 t232).bind fun bt239 => (if bt239.2 = 0 then ((bitrow_Of.f k t231 bt239.1).bind fun bt244 => ((bitrow_Xor.f k t231 t232 t235 t236).bind fun bt250 => (if bt244.2.2 = 0 then ((downpourref01_Same.f k bt244.1 bt244.2.1 t231 t232).bind fun t256 => (if t256 = true then ((downpourlaw01_alive.f k).bind fun t257 => (downpourlaw01_BitrowBack.j0 k bt250.2.2 (!t257) t231 t232 t235 t236 bt250.1 bt250.2.1)) else (downpourlaw01_BitrowBack.j0 k bt250.2.2 true t231 t232 t235 t236 bt250.1 bt250.2.1))) else (downpourlaw01_BitrowBack.j0 k bt250.2.2 true t231 t232 t235 t236 bt250.1 bt250.2.1)))) else ((downpourlaw01_alive.f k).bind fun t243 => (if t243 = true then (some ((bt239.1.length : Int) == 0)) else (none))))) = some r := H
 have A4 := Aside0.mk A40
 clear A40
 replace H := Option.bind_eq_some_iff.mp H
 obtain ⟨⟨t239, t242⟩, A50, H⟩ := H
 replace H : (if t242 = 0 then ((bitrow_Of.f k t231 t239).bind fun bt244 => ((bitrow_Xor.f k t231 t232 t235 t236).bind fun bt250 => (if bt244.2.2 = 0 then ((downpourref01_Same.f k bt244.1 bt244.2.1 t231 t232).bind fun t256 => (if t256 = true then ((downpourlaw01_alive.f k).bind fun t257 => (downpourlaw01_BitrowBack.j0 k bt250.2.2 (!t257) t231 t232 t235 t236 bt250.1 bt250.2.1)) else (downpourlaw01_BitrowBack.j0 k bt250.2.2 true t231 t232 t235 t236 bt250.1 bt250.2.1))) else (downpourlaw01_BitrowBack.j0 k bt250.2.2 true t231 t232 t235 t236 bt250.1 bt250.2.1)))) else ((downpourlaw01_alive.f k).bind fun t243 => (if t243 = true then (some ((t239.length : Int) == 0)) else (none)))) = some r := H
 have A5 := Aside0.mk A50
 clear A50
 by_cases c6 : t242 = 0
 ·
  rw [if_pos c6] at H
  have c6b0 : (t242 == 0) = true := beq_iff_eq.mpr c6
  have c6b1 : (t242 != 0) = false := bne_eq_false_iff_eq.mpr c6
  clear c6
  replace H := Option.bind_eq_some_iff.mp H
  obtain ⟨⟨t244, t245, t248⟩, A70, H⟩ := H
  replace H : ((bitrow_Xor.f k t231 t232 t235 t236).bind fun bt250 => (if t248 = 0 then ((downpourref01_Same.f k t244 t245 t231 t232).bind fun t256 => (if t256 = true then ((downpourlaw01_alive.f k).bind fun t257 => (downpourlaw01_BitrowBack.j0 k bt250.2.2 (!t257) t231 t232 t235 t236 bt250.1 bt250.2.1)) else (downpourlaw01_BitrowBack.j0 k bt250.2.2 true t231 t232 t235 t236 bt250.1 bt250.2.1))) else (downpourlaw01_BitrowBack.j0 k bt250.2.2 true t231 t232 t235 t236 bt250.1 bt250.2.1))) = some r := H
  have A7 := Aside0.mk A70
  clear A70
  replace H := Option.bind_eq_some_iff.mp H
  obtain ⟨⟨t250, t251, t254⟩, A80, H⟩ := H
  replace H : (if t248 = 0 then ((downpourref01_Same.f k t244 t245 t231 t232).bind fun t256 => (if t256 = true then ((downpourlaw01_alive.f k).bind fun t257 => (downpourlaw01_BitrowBack.j0 k t254 (!t257) t231 t232 t235 t236 t250 t251)) else (downpourlaw01_BitrowBack.j0 k t254 true t231 t232 t235 t236 t250 t251))) else (downpourlaw01_BitrowBack.j0 k t254 true t231 t232 t235 t236 t250 t251)) = some r := H
  have A8 := Aside0.mk A80
  clear A80
  have HC9 := Aside0.mk H
  clear H
  go_enter Tryd.func5, Tryd.ntmps5
  try go_wp2_with (first | ((with_reducible refine gate_dst (N := 2) rfl ?_); (try (refine gate_guard (by rfl) ?_; dsimp only)); refine box_event ?hg (N := 2) ?hd (cs := #[.int .i64 a0_0, .slice A0_1 l0_1.length c0_1]) (t := 25) ?hr ?_; (case hd => rfl); (case hg => rfl); (case hr => first | (go_simp; done) | (go_simp; rfl)); intro gb229 hg w10 hbox hb; have n0_ := am (below_step (pb HB) hb); have n1_ := am (hbox); have n2_ := am ((by rw [hg]; exact (below_size (pb HB)) : w.heap.size ≤ gb229)); have n3_ := am ((by rw [hg]; exact (below_size (pb HB)) : w.heap.size ≤ gb229)); clear HB; have HB := n0_; have BK229 := n1_; have GW229 := n2_; have GE229 := n3_; clear n0_ n1_ n2_ n3_ hb hbox hg) | ((with_reducible refine gate_dst (N := 3) rfl ?_); (try (refine gate_guard (by rfl) ?_; dsimp only)); refine box_event ?hg (N := 3) ?hd (cs := #[.int .i64 a1_0, .slice A1_1 l1_1.length c1_1]) (t := 25) ?hr ?_; (case hd => rfl); (case hg => rfl); (case hr => first | (go_simp; done) | (go_simp; rfl)); intro gb230 hg w11 hbox hb; have n0_ := bb BK229 hb; have n1_ := am (below_step (pb HB) hb); have n2_ := am (hbox); have n3_ := am ((by rw [hg]; exact (below_size (pb HB)) : w.heap.size ≤ gb230)); have n4_ := am ((by rw [hg]; exact (below_size (pb HB)) : w.heap.size ≤ gb230)); have n5_ := am ((by rw [hg]; exact Nat.ne_of_lt (bl BK229) : gb229 ≠ gb230)); have n6_ := am ((by rw [hg]; exact Nat.ne_of_gt (bl BK229) : gb230 ≠ gb229)); clear BK229 HB; have BK229 := n0_; have HB := n1_; have BK230 := n2_; have GW230 := n3_; have GE230 := n4_; have NB229_230 := n5_; have NB230_229 := n6_; clear n0_ n1_ n2_ n3_ n4_ n5_ n6_ hb hbox hg))
  have n0_ := am (blk_drew BK229.out)
  have n1_ := am (blk_drew BK230.out)
  have n2_ := am (below_drew1 HB.out)
  clear BK229
  clear BK230
  clear HB
  have BK229 := n0_
  have BK230 := n1_
  have HB := n2_
  clear n0_ n1_ n2_
  refine start_ (n := 6) (S := fun w' => w'.cell? ⟨gb229, 0, none⟩ = some (.int .i64 a0_0) ∧ w'.cell? ⟨gb229, 1, none⟩ = some (.slice A0_1 l0_1.length c0_1) ∧ w'.cell? ⟨gb230, 0, none⟩ = some (.int .i64 a1_0) ∧ w'.cell? ⟨gb230, 1, none⟩ = some (.slice A1_1 l1_1.length c1_1)) (ds := [4, 5]) #[F, F, F, F, F, F] (by kernel_rfl) rfl rfl ⟨(blk_cell BK229.out 0).trans rfl, (blk_cell BK229.out 1).trans rfl, (blk_cell BK230.out 0).trans rfl, (blk_cell BK230.out 1).trans rfl⟩ (fun hHeld => ?_)
  generalize w11.drew = w12 at BK229 BK230 HB hHeld ⊢
  refine take_ (i := 0) (N := some 23) (v := ?_) (a' := ?_) #[T, F, F, F, F, F] rfl rfl (by kernel_rfl) (fun _ _ _ h => h) (Or.inl ⟨by rfl, ?_⟩) hHeld ?_ ?_
  rotate_left
  ·
   rintro w' ⟨s0, s1, s2, s3⟩
   go_simp
   with_reducible rfl
  rotate_left
  ·
   simp only [Act.put, q1, q2, q3, i64_w, i32_w]
   rfl
  refine take_ (i := 2) (N := some 25) (v := ?_) (a' := ?_) #[T, F, T, F, F, F] rfl rfl (by kernel_rfl) (fun _ _ _ h => h) (Or.inl ⟨by rfl, ?_⟩) hHeld ?_ ?_
  rotate_left
  ·
   rintro w' ⟨s0, s1, s2, s3⟩
   go_simp
   with_reducible rfl
  rotate_left
  ·
   simp only [Act.put, q1, q2, q3, i64_w, i32_w]
   rfl
  refine one_ (i := 1) (N := some 24) #[T, T, T, F, F, F] rfl rfl (by kernel_rfl) (by decide) (fun K hK => ?_)
  refine goes_ Tryd.func18 (by kernel_rfl) rfl #[.agg #[.int .i64 a0_0, .slice A0_1 l0_1.length c0_1]] (by rfl) rfl rfl (by (try simp only [List.map_toArray, List.map_cons, List.map_nil]); first | done | rfl | (simp only [List.length_drop, List.length_take]; rfl)) ?_
  with_reducible refine (downpourlaw01_few.calls a0_0 (fun k_ => k_ < w.heap.size) _ _ l0_1 t231 t232 _ ?side1 A3.out).mono ?_
  (case side1 => exact Kd.V_mk HC0_1.out (Kd.F_below (Kd.C_F (Kd.heap_int .u64) HR0_1.out) (pb HB)))
  rintro e w13 ⟨v233, rfl, ho0, hb⟩
  refine ⟨_, rfl, ?_⟩
  have n0_ := am (Kd.V_lower (Kd.V_mono (ok' := fun k_ => k_ ≠ gb229 ∧ k_ ≠ gb230) ho0 (fun k_ hk_ => ⟨Or.elim hk_ (fun hs_ => fun e_ => Nat.not_le.2 hs_ (by rw [e_]; exact GW229.out)) (fun hn_ => (Kd.freshB (g := gb229) (o := .cells #[.int .i64 a0_0, .slice A0_1 l0_1.length c0_1] 25 (0, 0)) (pk BK229) k_ hn_)), Or.elim hk_ (fun hs_ => fun e_ => Nat.not_le.2 hs_ (by rw [e_]; exact GW230.out)) (fun hn_ => (Kd.freshB (g := gb230) (o := .cells #[.int .i64 a1_0, .slice A1_1 l1_1.length c1_1] 25 (0, 0)) (pk BK230) k_ hn_))⟩)) (below_size (pb HB)))
  have n1_ := bb BK229 hb
  have n2_ := bb BK230 hb
  have n3_ := am (below_step (pb HB) hb)
  clear BK229
  clear BK230
  clear HB
  have HO234 := n0_
  have BK229 := n1_
  have BK230 := n2_
  have HB := n3_
  clear n0_ n1_ n2_ n3_
  (try clear hb)
  (try clear hb2)
  (try clear hk)
  (try clear hi)
  (try clear ho0)
  refine hK.out _ _ ⟨(blk_cell BK229.out 0).trans rfl, (blk_cell BK229.out 1).trans rfl, (blk_cell BK230.out 0).trans rfl, (blk_cell BK230.out 1).trans rfl⟩ (fun hHeld => ?_)
  clear hK K
  refine norm_ (a' := ?_) ?_ ?_
  rotate_left
  ·
   show Act.put _ (some 24) _ = _
   simp only [Act.put, q1, q2, q3, i64_w, i32_w]
   rfl
  refine one_ (i := 3) (N := some 26) #[T, T, T, T, F, F] rfl rfl (by kernel_rfl) (by decide) (fun K hK => ?_)
  refine goes_ Tryd.func18 (by kernel_rfl) rfl #[.agg #[.int .i64 a1_0, .slice A1_1 l1_1.length c1_1]] (by rfl) rfl rfl (by (try simp only [List.map_toArray, List.map_cons, List.map_nil]); first | done | rfl | (simp only [List.length_drop, List.length_take]; rfl)) ?_
  with_reducible refine (downpourlaw01_few.calls a1_0 (fun k_ => k_ < w.heap.size) _ _ l1_1 t235 t236 _ ?side1 A4.out).mono ?_
  (case side1 => exact Kd.V_mk HC1_1.out (Kd.F_below (Kd.C_F (Kd.heap_int .u64) HR1_1.out) (pb HB)))
  rintro e w14 ⟨v237, rfl, ho0, hb⟩
  refine ⟨_, rfl, ?_⟩
  have n0_ := am (Kd.V_below (pv HO234) hb)
  have n1_ := am (Kd.V_lower (Kd.V_mono (ok' := fun k_ => k_ ≠ gb229 ∧ k_ ≠ gb230) ho0 (fun k_ hk_ => ⟨Or.elim hk_ (fun hs_ => fun e_ => Nat.not_le.2 hs_ (by rw [e_]; exact GW229.out)) (fun hn_ => (Kd.freshB (g := gb229) (o := .cells #[.int .i64 a0_0, .slice A0_1 l0_1.length c0_1] 25 (0, 0)) (pk BK229) k_ hn_)), Or.elim hk_ (fun hs_ => fun e_ => Nat.not_le.2 hs_ (by rw [e_]; exact GW230.out)) (fun hn_ => (Kd.freshB (g := gb230) (o := .cells #[.int .i64 a1_0, .slice A1_1 l1_1.length c1_1] 25 (0, 0)) (pk BK230) k_ hn_))⟩)) (below_size (pb HB)))
  have n2_ := bb BK229 hb
  have n3_ := bb BK230 hb
  have n4_ := am (below_step (pb HB) hb)
  clear HO234
  clear BK229
  clear BK230
  clear HB
  have HO234 := n0_
  have HO238 := n1_
  have BK229 := n2_
  have BK230 := n3_
  have HB := n4_
  clear n0_ n1_ n2_ n3_ n4_
  (try clear hb)
  (try clear hb2)
  (try clear hk)
  (try clear hi)
  (try clear ho0)
  obtain ⟨Ao16, co16, eo16⟩ := Kd.V_slice HO234.out
  (first | subst eo16 | (injection eo16 with f1_ f2_ f3_; have f4_ := f1_.symm; have f5_ := f3_.symm; clear f1_ f2_ f3_; subst f4_; subst f5_))
  obtain ⟨Ao19, co19, eo19⟩ := Kd.V_slice HO238.out
  (first | subst eo19 | (injection eo19 with f1_ f2_ f3_; have f4_ := f1_.symm; have f5_ := f3_.symm; clear f1_ f2_ f3_; subst f4_; subst f5_))
  refine hK.out _ _ ⟨(blk_cell BK229.out 0).trans rfl, (blk_cell BK229.out 1).trans rfl, (blk_cell BK230.out 0).trans rfl, (blk_cell BK230.out 1).trans rfl⟩ (fun hHeld => ?_)
  clear hK K
  refine norm_ (a' := ?_) ?_ ?_
  rotate_left
  ·
   show Act.put _ (some 26) _ = _
   simp only [Act.put, q1, q2, q3, i64_w, i32_w]
   rfl
  refine last_ (i := 4) (N := none) #[T, T, T, T, T, F] rfl rfl (by kernel_rfl) (by decide) (fun K hK => ?_)
  have hs15 : w14.cell? ⟨gb229, 0, none⟩ = some (.int .i64 a0_0) := (blk_cell BK229.out 0).trans rfl
  have hfs15 := blk_frozen BK229.out 0
  have hns15_1 := NB230_229.out
  have hms15_1 := NB229_230.out
  have hs17 : w14.cell? ⟨gb229, 1, none⟩ = some (.slice A0_1 l0_1.length c0_1) := (blk_cell BK229.out 1).trans rfl
  have hfs17 := blk_frozen BK229.out 1
  have hns17_1 := NB230_229.out
  have hms17_1 := NB229_230.out
  refine skip_ (w1 := ?_) (by rfl) rfl ?_ ?_
  rotate_left
  ·
   go_simp
   rfl
  refine hK.out _ _ ?_
  clear hK K
  refine last_ (i := 5) (N := none) #[T, T, T, T, T, T] rfl rfl (by kernel_rfl) (by decide) (fun K hK => ?_)
  have hs18 : w14.cell? ⟨gb230, 0, none⟩ = some (.int .i64 a1_0) := (blk_cell BK230.out 0).trans rfl
  have hfs18 := blk_frozen BK230.out 0
  have hns18_0 := NB229_230.out
  have hms18_0 := NB230_229.out
  have hs20 : w14.cell? ⟨gb230, 1, none⟩ = some (.slice A1_1 l1_1.length c1_1) := (blk_cell BK230.out 1).trans rfl
  have hfs20 := blk_frozen BK230.out 1
  have hns20_0 := NB229_230.out
  have hms20_0 := NB230_229.out
  refine skip_ (w1 := ?_) (by rfl) rfl ?_ ?_
  rotate_left
  ·
   go_simp
   rfl
  refine hK.out _ _ ?_
  clear hK K
  refine done_ (by kernel_rfl) ?_
  have hnb21 := NB229_230.out
  have hnc21 := NB230_229.out
  have hcz22_0 : w14.cell? ⟨gb229, 0, none⟩ = some (.int .i64 a0_0) := (blk_cell BK229.out 0).trans rfl
  have hcz22_1 : w14.cell? ⟨gb229, 1, none⟩ = some (.slice A0_1 l0_1.length c0_1) := (blk_cell BK229.out 1).trans rfl
  have hfz22_0 := blk_frozen BK229.out 0
  have hfz22_1 := blk_frozen BK229.out 1
  go_upto_region 7 with (first | ((with_reducible refine gate_callee (f := 19) rfl ?_); refine goesL_ (some 29) rfl rfl Tryd.func19 (by kernel_rfl) rfl #[.agg #[.int .i64 t231, .slice Ao16 t232.length co16]] rfl (by (try simp only [List.map_toArray, List.map_cons, List.map_nil]); first | done | rfl | (simp only [List.length_drop, List.length_take]; rfl)) ?_; (with_reducible refine (bitrow_Places.calls t231 _ _ t232 t239 t242 _ ?side3 ?side1 ?side2 A5.out).mono ?_); (case side1 => refine (Kd.V_reads' (e := 90) (base := w.heap.size) (ok := fun k_ => (k_ ≠ gb229 ∧ k_ ≠ gb230)) (n := t232.length) (c := co16) ?_).2.2; exact (by (with_reducible repeat (first | apply Kd.V_alloc | apply Kd.V_drewN | apply Kd.V_drew)); exact (Kd.V_mono (Kd.V_mono (Kd.V_far (p := ⟨gb230, 1, none⟩) (Kd.V_far (p := ⟨gb230, 0, none⟩) (Kd.V_far (p := ⟨gb229, 1, none⟩) (Kd.V_far (p := ⟨gb229, 0, none⟩) (Kd.V_mono (Kd.V_mono HO234.out (fun k_ hk => (⟨hk, hk.1⟩ : _ ∧ k_ ≠ gb229))) (fun k_ hk => (⟨hk, hk.1.2⟩ : _ ∧ k_ ≠ gb230))) (fun _ hk => hk.1.2) (.int .i64 t231)) (fun _ hk => hk.1.2) (.slice Ao16 t232.length co16)) (fun _ hk => hk.2) (.int .i64 t235)) (fun _ hk => hk.2) (.slice Ao19 t236.length co19)) (fun _ h_ => h_.1)) (fun _ h_ => h_.1)))); (case side2 => exact (Kd.V_reads' HO234.out).2.1); (case side3 => exact TabOk.below HT.out (pb HB)); rintro e w23 ⟨v240, rfl, ho0, hb⟩; refine ⟨_, rfl, ?_⟩; have n0_ := am (Kd.V_elder' (by (with_reducible repeat (first | apply Kd.V_alloc | apply Kd.V_drewN | apply Kd.V_drew)); exact (Kd.V_mono (Kd.V_mono (Kd.V_far (p := ⟨gb230, 1, none⟩) (Kd.V_far (p := ⟨gb230, 0, none⟩) (Kd.V_far (p := ⟨gb229, 1, none⟩) (Kd.V_far (p := ⟨gb229, 0, none⟩) (Kd.V_mono (Kd.V_mono HO234.out (fun k_ hk => (⟨hk, hk.1⟩ : _ ∧ k_ ≠ gb229))) (fun k_ hk => (⟨hk, hk.1.2⟩ : _ ∧ k_ ≠ gb230))) (fun _ hk => hk.1.2) (.int .i64 t231)) (fun _ hk => hk.1.2) (.slice Ao16 t232.length co16)) (fun _ hk => hk.2) (.int .i64 t235)) (fun _ hk => hk.2) (.slice Ao19 t236.length co19)) (fun _ h_ => h_.1)) (fun _ h_ => h_.1))) (Kd.R_base ho0) hb); have n1_ := am (Kd.V_elder' (by (with_reducible repeat (first | apply Kd.V_alloc | apply Kd.V_drewN | apply Kd.V_drew)); exact (Kd.V_mono (Kd.V_mono (Kd.V_far (p := ⟨gb230, 1, none⟩) (Kd.V_far (p := ⟨gb230, 0, none⟩) (Kd.V_far (p := ⟨gb229, 1, none⟩) (Kd.V_far (p := ⟨gb229, 0, none⟩) (Kd.V_mono (Kd.V_mono HO238.out (fun k_ hk => (⟨hk, hk.1⟩ : _ ∧ k_ ≠ gb229))) (fun k_ hk => (⟨hk, hk.1.2⟩ : _ ∧ k_ ≠ gb230))) (fun _ hk => hk.1.2) (.int .i64 t231)) (fun _ hk => hk.1.2) (.slice Ao16 t232.length co16)) (fun _ hk => hk.2) (.int .i64 t235)) (fun _ hk => hk.2) (.slice Ao19 t236.length co19)) (fun _ h_ => h_.1)) (fun _ h_ => h_.1))) (Kd.R_base ho0) hb); have n2_ := am (Kd.R_lower ho0 (below_size (pb HB))); have n3_ := am (blk_below (g := gb229) (o := .cells #[.int .i64 t231, .slice Ao16 t232.length co16] 25 (0, 0)) (by (with_reducible repeat (first | refine blk_drewN ?_ _ | refine blk_drew ?_ | refine blk_alloc ?_ _)); refine blk_far ?_ NB229_230.out _; (with_reducible repeat (first | refine blk_drewN ?_ _ | refine blk_drew ?_ | refine blk_alloc ?_ _)); refine blk_far ?_ NB229_230.out _; (with_reducible repeat (first | refine blk_drewN ?_ _ | refine blk_drew ?_ | refine blk_alloc ?_ _)); refine blk_put (cs := #[.int .i64 t231, .slice A0_1 l0_1.length c0_1]) ?_ 1 _ rfl; (with_reducible repeat (first | refine blk_drewN ?_ _ | refine blk_drew ?_ | refine blk_alloc ?_ _)); refine blk_put (cs := #[.int .i64 a0_0, .slice A0_1 l0_1.length c0_1]) ?_ 0 _ rfl; (with_reducible repeat (first | refine blk_drewN ?_ _ | refine blk_drew ?_ | refine blk_alloc ?_ _)); exact BK229.out) hb); have n4_ := am (blk_below (g := gb230) (o := .cells #[.int .i64 t235, .slice Ao19 t236.length co19] 25 (0, 0)) (by (with_reducible repeat (first | refine blk_drewN ?_ _ | refine blk_drew ?_ | refine blk_alloc ?_ _)); refine blk_put (cs := #[.int .i64 t235, .slice A1_1 l1_1.length c1_1]) ?_ 1 _ rfl; (with_reducible repeat (first | refine blk_drewN ?_ _ | refine blk_drew ?_ | refine blk_alloc ?_ _)); refine blk_put (cs := #[.int .i64 a1_0, .slice A1_1 l1_1.length c1_1]) ?_ 0 _ rfl; (with_reducible repeat (first | refine blk_drewN ?_ _ | refine blk_drew ?_ | refine blk_alloc ?_ _)); refine blk_far ?_ NB230_229.out _; (with_reducible repeat (first | refine blk_drewN ?_ _ | refine blk_drew ?_ | refine blk_alloc ?_ _)); refine blk_far ?_ NB230_229.out _; (with_reducible repeat (first | refine blk_drewN ?_ _ | refine blk_drew ?_ | refine blk_alloc ?_ _)); exact BK230.out) hb); have n5_ := am (below_step (pb HB) hb); clear HO234 HO238 BK229 BK230 HB; have HO234 := n0_; have HO238 := n1_; have HO241 := n2_; have BK229 := n3_; have BK230 := n4_; have HB := n5_; clear n0_ n1_ n2_ n3_ n4_ n5_; (try clear hb); (try clear hb2); (try clear hk); (try clear hi); (try clear ho0); have hcz24_0 : w23.cell? ⟨gb229, 0, none⟩ = some (.int .i64 t231) := (blk_cell BK229.out 0).trans rfl; have hcz24_1 : w23.cell? ⟨gb229, 1, none⟩ = some (.slice Ao16 t232.length co16) := (blk_cell BK229.out 1).trans rfl; have hfz24_0 := blk_frozen BK229.out 0; have hfz24_1 := blk_frozen BK229.out 1; obtain ⟨Ao25, co25, eo25⟩ := Kd.R_slice HO241.out; subst eo25) | ((with_reducible refine gate_callee (f := 27) rfl ?_); refine goesL_ (some 44) rfl rfl Tryd.func27 (by kernel_rfl) rfl #[.int .i64 t231, .slice Ao25 t239.length co25] rfl (by (try simp only [List.map_toArray, List.map_cons, List.map_nil]); first | done | rfl | (simp only [List.length_drop, List.length_take]; rfl)) ?_; (with_reducible refine (bitrow_Of.calls k t231 _ _ t239 t244 t245 t248 _ ?side1 ?side2 A7.out).mono ?_); (case side1 => repeat (first | exact (Kd.R_reads' HO241.out).2.2 | (with_reducible refine Kd.C_alloc ?_ _) | (with_reducible refine Kd.C_drewN ?_ _) | (with_reducible refine Kd.C_drew ?_))); (case side2 => exact (Kd.R_reads' HO241.out).2.1); rintro e w26 ⟨v246, rfl, ho0, hb⟩; refine ⟨_, rfl, ?_⟩; have n0_ := am (Kd.V_elder' (pv HO234) (Kd.R_base ho0) hb); have n1_ := am (Kd.V_elder' (pv HO238) (Kd.R_base ho0) hb); have n2_ := am (Kd.R_below (pr HO241) hb); have n3_ := am (Kd.R_lower ho0 (below_size (pb HB))); have n4_ := bb BK229 hb; have n5_ := bb BK230 hb; have n6_ := am (below_step (pb HB) hb); clear HO234 HO238 HO241 BK229 BK230 HB; have HO234 := n0_; have HO238 := n1_; have HO241 := n2_; have HO247 := n3_; have BK229 := n4_; have BK230 := n5_; have HB := n6_; clear n0_ n1_ n2_ n3_ n4_ n5_ n6_; (try clear hb); (try clear hb2); (try clear hk); (try clear hi); (try clear ho0)) | ((with_reducible refine gate_dst (N := 7) rfl ?_); (try (refine gate_guard (by rfl) ?_; dsimp only)); refine box_event ?hg (N := 7) ?hd (cs := #[.int .i64 0, .slice none 0 0]) (t := 25) ?hr ?_; (case hd => rfl); (case hg => rfl); (case hr => first | (go_simp; done) | (go_simp; rfl)); intro gb249 hg w27 hbox hb; have n0_ := am (Kd.V_below (Kd.V_elderB (pv HO234) gb249 (Nat.le_of_eq hg.symm)) hb); have n1_ := am (Kd.V_below (Kd.V_elderB (pv HO238) gb249 (Nat.le_of_eq hg.symm)) hb); have n2_ := am (Kd.R_below (pr HO241) hb); have n3_ := am (Kd.R_below (pr HO247) hb); have n4_ := bb BK229 hb; have n5_ := bb BK230 hb; have n6_ := am (below_step (pb HB) hb); have n7_ := am (hbox); have n8_ := am ((by rw [hg]; exact (below_size (pb HB)) : w.heap.size ≤ gb249)); have n9_ := am ((by rw [hg]; exact (below_size (pb HB)) : w.heap.size ≤ gb249)); have n10_ := am ((by rw [hg]; exact Nat.ne_of_lt (bl BK229) : gb229 ≠ gb249)); have n11_ := am ((by rw [hg]; exact Nat.ne_of_gt (bl BK229) : gb249 ≠ gb229)); have n12_ := am ((by rw [hg]; exact Nat.ne_of_lt (bl BK230) : gb230 ≠ gb249)); have n13_ := am ((by rw [hg]; exact Nat.ne_of_gt (bl BK230) : gb249 ≠ gb230)); clear HO234 HO238 HO241 HO247 BK229 BK230 HB; have HO234 := n0_; have HO238 := n1_; have HO241 := n2_; have HO247 := n3_; have BK229 := n4_; have BK230 := n5_; have HB := n6_; have BK249 := n7_; have GW249 := n8_; have GE249 := n9_; have NB229_249 := n10_; have NB249_229 := n11_; have NB230_249 := n12_; have NB249_230 := n13_; clear n0_ n1_ n2_ n3_ n4_ n5_ n6_ n7_ n8_ n9_ n10_ n11_ n12_ n13_ hb hbox hg; have hnb28 := NB249_229.out; have hnc28 := NB229_249.out; have hnb29 := NB249_230.out; have hnc29 := NB230_249.out; have hcz30_0 : w27.cell? ⟨gb249, 0, none⟩ = some (.int .i64 0) := (blk_cell BK249.out 0).trans rfl; have hcz30_1 : w27.cell? ⟨gb249, 1, none⟩ = some (.slice none 0 0) := (blk_cell BK249.out 1).trans rfl; have hfz30_0 := blk_frozen BK249.out 0; have hfz30_1 := blk_frozen BK249.out 1; obtain ⟨Ao31, co31, eo31⟩ := Kd.R_slice HO247.out; subst eo31; have hcz32_0 : w27.cell? ⟨gb229, 0, none⟩ = some (.int .i64 t231) := (blk_cell BK229.out 0).trans rfl; have hcz32_1 : w27.cell? ⟨gb229, 1, none⟩ = some (.slice Ao16 t232.length co16) := (blk_cell BK229.out 1).trans rfl; have hfz32_0 := blk_frozen BK229.out 0; have hfz32_1 := blk_frozen BK229.out 1; have hcz33_0 : w27.cell? ⟨gb230, 0, none⟩ = some (.int .i64 t235) := (blk_cell BK230.out 0).trans rfl; have hcz33_1 : w27.cell? ⟨gb230, 1, none⟩ = some (.slice Ao19 t236.length co19) := (blk_cell BK230.out 1).trans rfl; have hfz33_0 := blk_frozen BK230.out 0; have hfz33_1 := blk_frozen BK230.out 1) | ((with_reducible refine gate_callee (f := 28) rfl ?_); refine goesL_ (some 50) rfl rfl Tryd.func28 (by kernel_rfl) rfl #[.agg #[.int .i64 t231, .slice Ao16 t232.length co16], .agg #[.int .i64 t235, .slice Ao19 t236.length co19]] rfl (by (try simp only [List.map_toArray, List.map_cons, List.map_nil]); first | done | rfl | (simp only [List.length_drop, List.length_take]; rfl)) ?_; (with_reducible refine (bitrow_Xor.calls k t231 _ _ t232 t235 _ _ t236 t250 t251 t254 _ ?side1 ?side2 ?side3 ?side4 A8.out).mono ?_); (case side1 => refine (Kd.V_reads' (e := 90) (base := w.heap.size) (ok := fun k_ => ((((k_ ≠ gb229 ∧ k_ ≠ gb230) ∧ some k_ ≠ (.slice Ao25 t239.length co25 : Value).ownBlock) ∧ some k_ ≠ (.slice Ao31 t245.length co31 : Value).ownBlock) ∧ k_ ≠ gb249)) (n := t232.length) (c := co16) ?_).2.2; exact (by (with_reducible repeat (first | apply Kd.V_alloc | apply Kd.V_drewN | apply Kd.V_drew)); exact (Kd.V_mono (Kd.V_far (p := ⟨gb249, 1, none⟩) (Kd.V_far (p := ⟨gb249, 0, none⟩) (Kd.V_mono HO234.out (fun k_ hk => (⟨hk, hk.2⟩ : _ ∧ k_ ≠ gb249))) (fun _ hk => hk.2) (.int .i64 t244)) (fun _ hk => hk.2) (.slice Ao31 t245.length co31)) (fun _ h_ => h_.1)))); (case side2 => exact (Kd.V_reads' HO234.out).2.1); (case side3 => refine (Kd.V_reads' (e := 90) (base := w.heap.size) (ok := fun k_ => ((((k_ ≠ gb229 ∧ k_ ≠ gb230) ∧ some k_ ≠ (.slice Ao25 t239.length co25 : Value).ownBlock) ∧ some k_ ≠ (.slice Ao31 t245.length co31 : Value).ownBlock) ∧ k_ ≠ gb249)) (n := t236.length) (c := co19) ?_).2.2; exact (by (with_reducible repeat (first | apply Kd.V_alloc | apply Kd.V_drewN | apply Kd.V_drew)); exact (Kd.V_mono (Kd.V_far (p := ⟨gb249, 1, none⟩) (Kd.V_far (p := ⟨gb249, 0, none⟩) (Kd.V_mono HO238.out (fun k_ hk => (⟨hk, hk.2⟩ : _ ∧ k_ ≠ gb249))) (fun _ hk => hk.2) (.int .i64 t244)) (fun _ hk => hk.2) (.slice Ao31 t245.length co31)) (fun _ h_ => h_.1)))); (case side4 => exact (Kd.V_reads' HO238.out).2.1); rintro e w34 ⟨v252, rfl, ho0, hb⟩; refine ⟨_, rfl, ?_⟩; have n0_ := am (Kd.V_elder' (by (with_reducible repeat (first | apply Kd.V_alloc | apply Kd.V_drewN | apply Kd.V_drew)); exact (Kd.V_mono (Kd.V_far (p := ⟨gb249, 1, none⟩) (Kd.V_far (p := ⟨gb249, 0, none⟩) (Kd.V_mono HO234.out (fun k_ hk => (⟨hk, hk.2⟩ : _ ∧ k_ ≠ gb249))) (fun _ hk => hk.2) (.int .i64 t244)) (fun _ hk => hk.2) (.slice Ao31 t245.length co31)) (fun _ h_ => h_.1))) (Kd.R_base ho0) hb); have n1_ := am (Kd.V_elder' (by (with_reducible repeat (first | apply Kd.V_alloc | apply Kd.V_drewN | apply Kd.V_drew)); exact (Kd.V_mono (Kd.V_far (p := ⟨gb249, 1, none⟩) (Kd.V_far (p := ⟨gb249, 0, none⟩) (Kd.V_mono HO238.out (fun k_ hk => (⟨hk, hk.2⟩ : _ ∧ k_ ≠ gb249))) (fun _ hk => hk.2) (.int .i64 t244)) (fun _ hk => hk.2) (.slice Ao31 t245.length co31)) (fun _ h_ => h_.1))) (Kd.R_base ho0) hb); have n2_ := am (Kd.R_below (by (with_reducible repeat (first | apply Kd.R_alloc | apply Kd.R_drewN | apply Kd.R_drew)); exact (Kd.R_mono (Kd.R_far (p := ⟨gb249, 1, none⟩) (Kd.R_far (p := ⟨gb249, 0, none⟩) (Kd.R_types HO241.out BK249.out (by decide)) (fun _ hk => hk.2) (.int .i64 t244)) (fun _ hk => hk.2) (.slice Ao31 t245.length co31)) (fun _ h_ => h_.1))) hb); have n3_ := am (Kd.R_elder' (by (with_reducible repeat (first | apply Kd.R_alloc | apply Kd.R_drewN | apply Kd.R_drew)); exact (Kd.R_mono (Kd.R_far (p := ⟨gb249, 1, none⟩) (Kd.R_far (p := ⟨gb249, 0, none⟩) (Kd.R_types HO247.out BK249.out (by decide)) (fun _ hk => hk.2) (.int .i64 t244)) (fun _ hk => hk.2) (.slice Ao31 t245.length co31)) (fun _ h_ => h_.1))) (Kd.R_base ho0) hb); have n4_ := am (Kd.R_lower (Kd.R_new' ho0 (Kd.R_lt (by (with_reducible repeat (first | apply Kd.R_alloc | apply Kd.R_drewN | apply Kd.R_drew)); exact (Kd.R_mono (Kd.R_far (p := ⟨gb249, 1, none⟩) (Kd.R_far (p := ⟨gb249, 0, none⟩) (Kd.R_types HO247.out BK249.out (by decide)) (fun _ hk => hk.2) (.int .i64 t244)) (fun _ hk => hk.2) (.slice Ao31 t245.length co31)) (fun _ h_ => h_.1))))) (below_size (pb HB))); have n5_ := am (blk_below (g := gb229) (o := .cells #[.int .i64 t231, .slice Ao16 t232.length co16] 25 (0, 0)) (by (with_reducible repeat (first | refine blk_drewN ?_ _ | refine blk_drew ?_ | refine blk_alloc ?_ _)); refine blk_far ?_ NB229_249.out _; (with_reducible repeat (first | refine blk_drewN ?_ _ | refine blk_drew ?_ | refine blk_alloc ?_ _)); refine blk_far ?_ NB229_249.out _; (with_reducible repeat (first | refine blk_drewN ?_ _ | refine blk_drew ?_ | refine blk_alloc ?_ _)); exact BK229.out) hb); have n6_ := am (blk_below (g := gb230) (o := .cells #[.int .i64 t235, .slice Ao19 t236.length co19] 25 (0, 0)) (by (with_reducible repeat (first | refine blk_drewN ?_ _ | refine blk_drew ?_ | refine blk_alloc ?_ _)); refine blk_far ?_ NB230_249.out _; (with_reducible repeat (first | refine blk_drewN ?_ _ | refine blk_drew ?_ | refine blk_alloc ?_ _)); refine blk_far ?_ NB230_249.out _; (with_reducible repeat (first | refine blk_drewN ?_ _ | refine blk_drew ?_ | refine blk_alloc ?_ _)); exact BK230.out) hb); have n7_ := am (blk_below (g := gb249) (o := .cells #[.int .i64 t244, .slice Ao31 t245.length co31] 25 (0, 0)) (by (with_reducible repeat (first | refine blk_drewN ?_ _ | refine blk_drew ?_ | refine blk_alloc ?_ _)); refine blk_put (cs := #[.int .i64 t244, .slice none 0 0]) ?_ 1 _ rfl; (with_reducible repeat (first | refine blk_drewN ?_ _ | refine blk_drew ?_ | refine blk_alloc ?_ _)); refine blk_put (cs := #[.int .i64 0, .slice none 0 0]) ?_ 0 _ rfl; (with_reducible repeat (first | refine blk_drewN ?_ _ | refine blk_drew ?_ | refine blk_alloc ?_ _)); exact BK249.out) hb); have n8_ := am (below_step (pb HB) hb); clear HO234 HO238 HO241 HO247 BK229 BK230 BK249 HB; have HO234 := n0_; have HO238 := n1_; have HO241 := n2_; have HO247 := n3_; have HO253 := n4_; have BK229 := n5_; have BK230 := n6_; have BK249 := n7_; have HB := n8_; clear n0_ n1_ n2_ n3_ n4_ n5_ n6_ n7_ n8_; (try clear hb); (try clear hb2); (try clear hk); (try clear hi); (try clear ho0)) | ((with_reducible refine gate_dst (N := 9) rfl ?_); (try (refine gate_guard (by rfl) ?_; dsimp only)); refine box_event ?hg (N := 9) ?hd (cs := #[.int .i64 0, .slice none 0 0]) (t := 25) ?hr ?_; (case hd => rfl); (case hg => rfl); (case hr => first | (go_simp; done) | (go_simp; rfl)); intro gb255 hg w35 hbox hb; have n0_ := am (Kd.V_below (Kd.V_elderB (pv HO234) gb255 (Nat.le_of_eq hg.symm)) hb); have n1_ := am (Kd.V_below (Kd.V_elderB (pv HO238) gb255 (Nat.le_of_eq hg.symm)) hb); have n2_ := am (Kd.R_below (pr HO241) hb); have n3_ := am (Kd.R_below (pr HO247) hb); have n4_ := am (Kd.R_below (pr HO253) hb); have n5_ := bb BK229 hb; have n6_ := bb BK230 hb; have n7_ := bb BK249 hb; have n8_ := am (below_step (pb HB) hb); have n9_ := am (hbox); have n10_ := am ((by rw [hg]; exact (below_size (pb HB)) : w.heap.size ≤ gb255)); have n11_ := am ((by rw [hg]; exact (below_size (pb HB)) : w.heap.size ≤ gb255)); have n12_ := am ((by rw [hg]; exact Nat.ne_of_lt (bl BK229) : gb229 ≠ gb255)); have n13_ := am ((by rw [hg]; exact Nat.ne_of_gt (bl BK229) : gb255 ≠ gb229)); have n14_ := am ((by rw [hg]; exact Nat.ne_of_lt (bl BK230) : gb230 ≠ gb255)); have n15_ := am ((by rw [hg]; exact Nat.ne_of_gt (bl BK230) : gb255 ≠ gb230)); have n16_ := am ((by rw [hg]; exact Nat.ne_of_lt (bl BK249) : gb249 ≠ gb255)); have n17_ := am ((by rw [hg]; exact Nat.ne_of_gt (bl BK249) : gb255 ≠ gb249)); clear HO234 HO238 HO241 HO247 HO253 BK229 BK230 BK249 HB; have HO234 := n0_; have HO238 := n1_; have HO241 := n2_; have HO247 := n3_; have HO253 := n4_; have BK229 := n5_; have BK230 := n6_; have BK249 := n7_; have HB := n8_; have BK255 := n9_; have GW255 := n10_; have GE255 := n11_; have NB229_255 := n12_; have NB255_229 := n13_; have NB230_255 := n14_; have NB255_230 := n15_; have NB249_255 := n16_; have NB255_249 := n17_; clear n0_ n1_ n2_ n3_ n4_ n5_ n6_ n7_ n8_ n9_ n10_ n11_ n12_ n13_ n14_ n15_ n16_ n17_ hb hbox hg; have hnb36 := NB255_229.out; have hnc36 := NB229_255.out; have hnb37 := NB255_230.out; have hnc37 := NB230_255.out; have hnb38 := NB255_249.out; have hnc38 := NB249_255.out; have hcz39_0 : w35.cell? ⟨gb255, 0, none⟩ = some (.int .i64 0) := (blk_cell BK255.out 0).trans rfl; have hcz39_1 : w35.cell? ⟨gb255, 1, none⟩ = some (.slice none 0 0) := (blk_cell BK255.out 1).trans rfl; have hfz39_0 := blk_frozen BK255.out 0; have hfz39_1 := blk_frozen BK255.out 1; obtain ⟨Ao40, co40, eo40⟩ := Kd.R_slice HO253.out; subst eo40))
  (try simp only [Act.put, q1, q2, q3])
  go_cut [64] (fun v64 wc => ∃ (kq : Nat) (x64_8 : Bool), v64 = .bool x64_8 ∧ Aside0 (downpourlaw01_BitrowBack.j0 kq t254 x64_8 t231 t232 t235 t236 t250 t251 = some r) ∧ Aside0 (kq ≤ k) ∧ Aside0 (Kd.V (Kd.int .u64) 90 wc w.heap.size (fun k_ => some k_ ≠ ((.slice Ao31 t245.length co31) : Value).ownBlock ∧ some k_ ≠ ((.slice Ao40 t251.length co40) : Value).ownBlock ∧ k_ ≠ gb229 ∧ k_ ≠ gb230 ∧ k_ ≠ gb249 ∧ k_ ≠ gb255) (.slice Ao16 t232.length co16) t232) ∧ Aside0 (Kd.V (Kd.int .u64) 90 wc w.heap.size (fun k_ => some k_ ≠ ((.slice Ao31 t245.length co31) : Value).ownBlock ∧ some k_ ≠ ((.slice Ao40 t251.length co40) : Value).ownBlock ∧ k_ ≠ gb229 ∧ k_ ≠ gb230 ∧ k_ ≠ gb249 ∧ k_ ≠ gb255) (.slice Ao19 t236.length co19) t236) ∧ Aside0 (Kd.R (Kd.int .u64) 90 wc w.heap.size (fun k_ => some k_ ≠ ((.slice Ao40 t251.length co40) : Value).ownBlock) (.slice Ao31 t245.length co31) t245) ∧ Aside0 (Kd.R (Kd.int .u64) 90 wc w.heap.size (fun k_ => some k_ ≠ ((.slice Ao31 t245.length co31) : Value).ownBlock) (.slice Ao40 t251.length co40) t251) ∧ Aside0 (wc.heap[gb229]? = some (.cells #[.int .i64 t231, (.slice Ao16 t232.length co16)] 25 (0, 0))) ∧ Aside0 (wc.heap[gb230]? = some (.cells #[.int .i64 t235, (.slice Ao19 t236.length co19)] 25 (0, 0))) ∧ Aside0 (wc.heap[gb249]? = some (.cells #[.int .i64 t244, (.slice Ao31 t245.length co31)] 25 (0, 0))) ∧ Aside0 (wc.heap[gb255]? = some (.cells #[.int .i64 t250, (.slice Ao40 t251.length co40)] 25 (0, 0))) ∧ Aside0 (Below w.heap.size w wc))
  case first =>
   have H := HC9.out
   clear HC9
   by_cases c41 : t248 = 0
   ·
    rw [if_pos c41] at H
    have c41b0 : (t248 == 0) = true := beq_iff_eq.mpr c41
    have c41b1 : (t248 != 0) = false := bne_eq_false_iff_eq.mpr c41
    clear c41
    (first | rw [c41b0] | (simp only [i64_w, i32_w]; rw [c41b0]) | skip)
    replace H := Option.bind_eq_some_iff.mp H
    obtain ⟨t256, A420, H⟩ := H
    replace H : (if t256 = true then ((downpourlaw01_alive.f k).bind fun t257 => (downpourlaw01_BitrowBack.j0 k t254 (!t257) t231 t232 t235 t236 t250 t251)) else (downpourlaw01_BitrowBack.j0 k t254 true t231 t232 t235 t236 t250 t251)) = some r := H
    have A42 := Aside0.mk A420
    clear A420
    by_cases c43 : t256 = true
    ·
     subst c43
     have H1 : ((downpourlaw01_alive.f k).bind fun t257 => (downpourlaw01_BitrowBack.j0 k t254 (!t257) t231 t232 t235 t236 t250 t251)) = some r := by rw [if_pos rfl] at H; exact H
     clear H
     have H := H1
     clear H1
     replace H := Option.bind_eq_some_iff.mp H
     obtain ⟨t257, A440, H⟩ := H
     replace H : (downpourlaw01_BitrowBack.j0 k t254 (!t257) t231 t232 t235 t236 t250 t251) = some r := H
     have A44 := Aside0.mk A440
     clear A440
     have H' := Aside0.mk H
     clear H
     have hnb45 := NB249_229.out
     have hnc45 := NB229_249.out
     have hnb46 := NB249_230.out
     have hnc46 := NB230_249.out
     have hnb47 := NB249_255.out
     have hnc47 := NB255_249.out
     have hcz48_0 : w35.cell? ⟨gb249, 0, none⟩ = some (.int .i64 t244) := (blk_cell BK249.out 0).trans rfl
     have hcz48_1 : w35.cell? ⟨gb249, 1, none⟩ = some (.slice Ao31 t245.length co31) := (blk_cell BK249.out 1).trans rfl
     have hfz48_0 := blk_frozen BK249.out 0
     have hfz48_1 := blk_frozen BK249.out 1
     have hnb49 := NB229_230.out
     have hnc49 := NB230_229.out
     have hnb50 := NB229_255.out
     have hnc50 := NB255_229.out
     have hcz51_0 : w35.cell? ⟨gb229, 0, none⟩ = some (.int .i64 t231) := (blk_cell BK229.out 0).trans rfl
     have hcz51_1 : w35.cell? ⟨gb229, 1, none⟩ = some (.slice Ao16 t232.length co16) := (blk_cell BK229.out 1).trans rfl
     have hfz51_0 := blk_frozen BK229.out 0
     have hfz51_1 := blk_frozen BK229.out 1
     go_wp2_with (first | (go_at_call 29; (with_reducible refine (downpourref01_Same.calls k t244 _ _ t245 t231 _ _ t232 true _ ?side1 ?side2 ?side3 ?side4 A42.out).mono ?_); (case side1 => refine (Kd.R_reads' (e := 90) (base := w.heap.size) (ok := fun k_ => (True ∧ some k_ ≠ (.slice Ao40 t251.length co40 : Value).ownBlock)) (n := t245.length) (c := co31) ?_).2.2; exact (by (with_reducible repeat (first | apply Kd.R_alloc | apply Kd.R_drewN | apply Kd.R_drew)); exact (Kd.R_mono (Kd.R_far (p := ⟨gb255, 1, none⟩) (Kd.R_far (p := ⟨gb255, 0, none⟩) (Kd.R_types HO247.out BK255.out (by decide)) (fun _ hk => hk.2) (.int .i64 t250)) (fun _ hk => hk.2) (.slice Ao40 t251.length co40)) (fun _ h_ => h_.1)))); (case side2 => exact (Kd.R_reads' HO247.out).2.1); (case side3 => refine (Kd.V_reads' (e := 90) (base := w.heap.size) (ok := fun k_ => ((((((k_ ≠ gb229 ∧ k_ ≠ gb230) ∧ some k_ ≠ (.slice Ao25 t239.length co25 : Value).ownBlock) ∧ some k_ ≠ (.slice Ao31 t245.length co31 : Value).ownBlock) ∧ k_ ≠ gb249) ∧ some k_ ≠ (.slice Ao40 t251.length co40 : Value).ownBlock) ∧ k_ ≠ gb255)) (n := t232.length) (c := co16) ?_).2.2; exact (by (with_reducible repeat (first | apply Kd.V_alloc | apply Kd.V_drewN | apply Kd.V_drew)); exact (Kd.V_mono (Kd.V_far (p := ⟨gb255, 1, none⟩) (Kd.V_far (p := ⟨gb255, 0, none⟩) (Kd.V_mono HO234.out (fun k_ hk => (⟨hk, hk.2⟩ : _ ∧ k_ ≠ gb255))) (fun _ hk => hk.2) (.int .i64 t250)) (fun _ hk => hk.2) (.slice Ao40 t251.length co40)) (fun _ h_ => h_.1)))); (case side4 => exact (Kd.V_reads' HO234.out).2.1); rintro e w52 ⟨rfl, hb⟩; have n0_ := am (Kd.V_below (by (with_reducible repeat (first | apply Kd.V_alloc | apply Kd.V_drewN | apply Kd.V_drew)); exact (Kd.V_mono (Kd.V_far (p := ⟨gb255, 1, none⟩) (Kd.V_far (p := ⟨gb255, 0, none⟩) (Kd.V_mono HO234.out (fun k_ hk => (⟨hk, hk.2⟩ : _ ∧ k_ ≠ gb255))) (fun _ hk => hk.2) (.int .i64 t250)) (fun _ hk => hk.2) (.slice Ao40 t251.length co40)) (fun _ h_ => h_.1))) hb); have n1_ := am (Kd.V_below (by (with_reducible repeat (first | apply Kd.V_alloc | apply Kd.V_drewN | apply Kd.V_drew)); exact (Kd.V_mono (Kd.V_far (p := ⟨gb255, 1, none⟩) (Kd.V_far (p := ⟨gb255, 0, none⟩) (Kd.V_mono HO238.out (fun k_ hk => (⟨hk, hk.2⟩ : _ ∧ k_ ≠ gb255))) (fun _ hk => hk.2) (.int .i64 t250)) (fun _ hk => hk.2) (.slice Ao40 t251.length co40)) (fun _ h_ => h_.1))) hb); have n2_ := am (Kd.R_below (by (with_reducible repeat (first | apply Kd.R_alloc | apply Kd.R_drewN | apply Kd.R_drew)); exact (Kd.R_mono (Kd.R_far (p := ⟨gb255, 1, none⟩) (Kd.R_far (p := ⟨gb255, 0, none⟩) (Kd.R_types HO241.out BK255.out (by decide)) (fun _ hk => hk.2) (.int .i64 t250)) (fun _ hk => hk.2) (.slice Ao40 t251.length co40)) (fun _ h_ => h_.1))) hb); have n3_ := am (Kd.R_below (by (with_reducible repeat (first | apply Kd.R_alloc | apply Kd.R_drewN | apply Kd.R_drew)); exact (Kd.R_mono (Kd.R_far (p := ⟨gb255, 1, none⟩) (Kd.R_far (p := ⟨gb255, 0, none⟩) (Kd.R_types HO247.out BK255.out (by decide)) (fun _ hk => hk.2) (.int .i64 t250)) (fun _ hk => hk.2) (.slice Ao40 t251.length co40)) (fun _ h_ => h_.1))) hb); have n4_ := am (Kd.R_below (by (with_reducible repeat (first | apply Kd.R_alloc | apply Kd.R_drewN | apply Kd.R_drew)); exact (Kd.R_mono (Kd.R_far (p := ⟨gb255, 1, none⟩) (Kd.R_far (p := ⟨gb255, 0, none⟩) (Kd.R_types HO253.out BK255.out (by decide)) (fun _ hk => hk.2) (.int .i64 t250)) (fun _ hk => hk.2) (.slice Ao40 t251.length co40)) (fun _ h_ => h_.1))) hb); have n5_ := am (blk_below (g := gb229) (o := .cells #[.int .i64 t231, .slice Ao16 t232.length co16] 25 (0, 0)) (by (with_reducible repeat (first | refine blk_drewN ?_ _ | refine blk_drew ?_ | refine blk_alloc ?_ _)); refine blk_far ?_ NB229_255.out _; (with_reducible repeat (first | refine blk_drewN ?_ _ | refine blk_drew ?_ | refine blk_alloc ?_ _)); refine blk_far ?_ NB229_255.out _; (with_reducible repeat (first | refine blk_drewN ?_ _ | refine blk_drew ?_ | refine blk_alloc ?_ _)); exact BK229.out) hb); have n6_ := am (blk_below (g := gb230) (o := .cells #[.int .i64 t235, .slice Ao19 t236.length co19] 25 (0, 0)) (by (with_reducible repeat (first | refine blk_drewN ?_ _ | refine blk_drew ?_ | refine blk_alloc ?_ _)); refine blk_far ?_ NB230_255.out _; (with_reducible repeat (first | refine blk_drewN ?_ _ | refine blk_drew ?_ | refine blk_alloc ?_ _)); refine blk_far ?_ NB230_255.out _; (with_reducible repeat (first | refine blk_drewN ?_ _ | refine blk_drew ?_ | refine blk_alloc ?_ _)); exact BK230.out) hb); have n7_ := am (blk_below (g := gb249) (o := .cells #[.int .i64 t244, .slice Ao31 t245.length co31] 25 (0, 0)) (by (with_reducible repeat (first | refine blk_drewN ?_ _ | refine blk_drew ?_ | refine blk_alloc ?_ _)); refine blk_far ?_ NB249_255.out _; (with_reducible repeat (first | refine blk_drewN ?_ _ | refine blk_drew ?_ | refine blk_alloc ?_ _)); refine blk_far ?_ NB249_255.out _; (with_reducible repeat (first | refine blk_drewN ?_ _ | refine blk_drew ?_ | refine blk_alloc ?_ _)); exact BK249.out) hb); have n8_ := am (blk_below (g := gb255) (o := .cells #[.int .i64 t250, .slice Ao40 t251.length co40] 25 (0, 0)) (by (with_reducible repeat (first | refine blk_drewN ?_ _ | refine blk_drew ?_ | refine blk_alloc ?_ _)); refine blk_put (cs := #[.int .i64 t250, .slice none 0 0]) ?_ 1 _ rfl; (with_reducible repeat (first | refine blk_drewN ?_ _ | refine blk_drew ?_ | refine blk_alloc ?_ _)); refine blk_put (cs := #[.int .i64 0, .slice none 0 0]) ?_ 0 _ rfl; (with_reducible repeat (first | refine blk_drewN ?_ _ | refine blk_drew ?_ | refine blk_alloc ?_ _)); exact BK255.out) hb); have n9_ := am (below_step (pb HB) hb); clear HO234 HO238 HO241 HO247 HO253 BK229 BK230 BK249 BK255 HB; have HO234 := n0_; have HO238 := n1_; have HO241 := n2_; have HO247 := n3_; have HO253 := n4_; have BK229 := n5_; have BK230 := n6_; have BK249 := n7_; have BK255 := n8_; have HB := n9_; clear n0_ n1_ n2_ n3_ n4_ n5_ n6_ n7_ n8_ n9_; (try clear hb); (try clear hb2); (try clear hk); (try clear hi)) | (go_at_call 23; (with_reducible refine (downpourlaw01_alive.calls k  t257 _ A44.out).mono ?_); rintro e w53 ⟨rfl, hb⟩; have n0_ := am (Kd.V_below (pv HO234) hb); have n1_ := am (Kd.V_below (pv HO238) hb); have n2_ := am (Kd.R_below (pr HO241) hb); have n3_ := am (Kd.R_below (pr HO247) hb); have n4_ := am (Kd.R_below (pr HO253) hb); have n5_ := bb BK229 hb; have n6_ := bb BK230 hb; have n7_ := bb BK249 hb; have n8_ := bb BK255 hb; have n9_ := am (below_step (pb HB) hb); clear HO234 HO238 HO241 HO247 HO253 BK229 BK230 BK249 BK255 HB; have HO234 := n0_; have HO238 := n1_; have HO241 := n2_; have HO247 := n3_; have HO253 := n4_; have BK229 := n5_; have BK230 := n6_; have BK249 := n7_; have BK255 := n8_; have HB := n9_; clear n0_ n1_ n2_ n3_ n4_ n5_ n6_ n7_ n8_ n9_; (try clear hb); (try clear hb2); (try clear hk); (try clear hi)))
     go_meet
     case rel => exact ⟨_, (!t257), (by first | rfl | (simp; done) | (simp [*]; done)), H', ⟨by first | omega | exact Nat.le_refl _⟩, ⟨by (with_reducible repeat (first | apply Kd.V_alloc | apply Kd.V_drewN | apply Kd.V_drew)); exact Kd.V_mono HO234.out (fun _ hk => ⟨hk.1.1.1.2, ⟨hk.1.2, ⟨hk.1.1.1.1.1.1, ⟨hk.1.1.1.1.1.2, ⟨hk.1.1.2, hk.2⟩⟩⟩⟩⟩)⟩, ⟨by (with_reducible repeat (first | apply Kd.V_alloc | apply Kd.V_drewN | apply Kd.V_drew)); exact Kd.V_mono HO238.out (fun _ hk => ⟨hk.1.1.1.2, ⟨hk.1.2, ⟨hk.1.1.1.1.1.1, ⟨hk.1.1.1.1.1.2, ⟨hk.1.1.2, hk.2⟩⟩⟩⟩⟩)⟩, ⟨by (with_reducible repeat (first | apply Kd.R_alloc | apply Kd.R_drewN | apply Kd.R_drew)); exact Kd.R_mono HO247.out (fun _ hk => hk.2)⟩, ⟨by (with_reducible repeat (first | apply Kd.R_alloc | apply Kd.R_drewN | apply Kd.R_drew)); exact Kd.R_mono HO253.out (fun _ hk => hk.2)⟩, ⟨by (with_reducible repeat (first | refine blk_drewN ?_ _ | refine blk_drew ?_ | refine blk_alloc ?_ _)); exact BK229.out⟩, ⟨by (with_reducible repeat (first | refine blk_drewN ?_ _ | refine blk_drew ?_ | refine blk_alloc ?_ _)); exact BK230.out⟩, ⟨by (with_reducible repeat (first | refine blk_drewN ?_ _ | refine blk_drew ?_ | refine blk_alloc ?_ _)); exact BK249.out⟩, ⟨by (with_reducible repeat (first | refine blk_drewN ?_ _ | refine blk_drew ?_ | refine blk_alloc ?_ _)); exact BK255.out⟩, ⟨pb HB⟩⟩
    ·
     replace c43 := Bool.eq_false_iff.mpr c43
     subst c43
     have H1 : (downpourlaw01_BitrowBack.j0 k t254 true t231 t232 t235 t236 t250 t251) = some r := by rw [if_neg (show ¬ (false = true) by decide)] at H; exact H
     clear H
     have H := H1
     clear H1
     have H' := Aside0.mk H
     clear H
     have hnb54 := NB249_229.out
     have hnc54 := NB229_249.out
     have hnb55 := NB249_230.out
     have hnc55 := NB230_249.out
     have hnb56 := NB249_255.out
     have hnc56 := NB255_249.out
     have hcz57_0 : w35.cell? ⟨gb249, 0, none⟩ = some (.int .i64 t244) := (blk_cell BK249.out 0).trans rfl
     have hcz57_1 : w35.cell? ⟨gb249, 1, none⟩ = some (.slice Ao31 t245.length co31) := (blk_cell BK249.out 1).trans rfl
     have hfz57_0 := blk_frozen BK249.out 0
     have hfz57_1 := blk_frozen BK249.out 1
     have hnb58 := NB229_230.out
     have hnc58 := NB230_229.out
     have hnb59 := NB229_255.out
     have hnc59 := NB255_229.out
     have hcz60_0 : w35.cell? ⟨gb229, 0, none⟩ = some (.int .i64 t231) := (blk_cell BK229.out 0).trans rfl
     have hcz60_1 : w35.cell? ⟨gb229, 1, none⟩ = some (.slice Ao16 t232.length co16) := (blk_cell BK229.out 1).trans rfl
     have hfz60_0 := blk_frozen BK229.out 0
     have hfz60_1 := blk_frozen BK229.out 1
     go_wp2_with (first | (go_at_call 29; (with_reducible refine (downpourref01_Same.calls k t244 _ _ t245 t231 _ _ t232 false _ ?side1 ?side2 ?side3 ?side4 A42.out).mono ?_); (case side1 => refine (Kd.R_reads' (e := 90) (base := w.heap.size) (ok := fun k_ => (True ∧ some k_ ≠ (.slice Ao40 t251.length co40 : Value).ownBlock)) (n := t245.length) (c := co31) ?_).2.2; exact (by (with_reducible repeat (first | apply Kd.R_alloc | apply Kd.R_drewN | apply Kd.R_drew)); exact (Kd.R_mono (Kd.R_far (p := ⟨gb255, 1, none⟩) (Kd.R_far (p := ⟨gb255, 0, none⟩) (Kd.R_types HO247.out BK255.out (by decide)) (fun _ hk => hk.2) (.int .i64 t250)) (fun _ hk => hk.2) (.slice Ao40 t251.length co40)) (fun _ h_ => h_.1)))); (case side2 => exact (Kd.R_reads' HO247.out).2.1); (case side3 => refine (Kd.V_reads' (e := 90) (base := w.heap.size) (ok := fun k_ => ((((((k_ ≠ gb229 ∧ k_ ≠ gb230) ∧ some k_ ≠ (.slice Ao25 t239.length co25 : Value).ownBlock) ∧ some k_ ≠ (.slice Ao31 t245.length co31 : Value).ownBlock) ∧ k_ ≠ gb249) ∧ some k_ ≠ (.slice Ao40 t251.length co40 : Value).ownBlock) ∧ k_ ≠ gb255)) (n := t232.length) (c := co16) ?_).2.2; exact (by (with_reducible repeat (first | apply Kd.V_alloc | apply Kd.V_drewN | apply Kd.V_drew)); exact (Kd.V_mono (Kd.V_far (p := ⟨gb255, 1, none⟩) (Kd.V_far (p := ⟨gb255, 0, none⟩) (Kd.V_mono HO234.out (fun k_ hk => (⟨hk, hk.2⟩ : _ ∧ k_ ≠ gb255))) (fun _ hk => hk.2) (.int .i64 t250)) (fun _ hk => hk.2) (.slice Ao40 t251.length co40)) (fun _ h_ => h_.1)))); (case side4 => exact (Kd.V_reads' HO234.out).2.1); rintro e w61 ⟨rfl, hb⟩; have n0_ := am (Kd.V_below (by (with_reducible repeat (first | apply Kd.V_alloc | apply Kd.V_drewN | apply Kd.V_drew)); exact (Kd.V_mono (Kd.V_far (p := ⟨gb255, 1, none⟩) (Kd.V_far (p := ⟨gb255, 0, none⟩) (Kd.V_mono HO234.out (fun k_ hk => (⟨hk, hk.2⟩ : _ ∧ k_ ≠ gb255))) (fun _ hk => hk.2) (.int .i64 t250)) (fun _ hk => hk.2) (.slice Ao40 t251.length co40)) (fun _ h_ => h_.1))) hb); have n1_ := am (Kd.V_below (by (with_reducible repeat (first | apply Kd.V_alloc | apply Kd.V_drewN | apply Kd.V_drew)); exact (Kd.V_mono (Kd.V_far (p := ⟨gb255, 1, none⟩) (Kd.V_far (p := ⟨gb255, 0, none⟩) (Kd.V_mono HO238.out (fun k_ hk => (⟨hk, hk.2⟩ : _ ∧ k_ ≠ gb255))) (fun _ hk => hk.2) (.int .i64 t250)) (fun _ hk => hk.2) (.slice Ao40 t251.length co40)) (fun _ h_ => h_.1))) hb); have n2_ := am (Kd.R_below (by (with_reducible repeat (first | apply Kd.R_alloc | apply Kd.R_drewN | apply Kd.R_drew)); exact (Kd.R_mono (Kd.R_far (p := ⟨gb255, 1, none⟩) (Kd.R_far (p := ⟨gb255, 0, none⟩) (Kd.R_types HO241.out BK255.out (by decide)) (fun _ hk => hk.2) (.int .i64 t250)) (fun _ hk => hk.2) (.slice Ao40 t251.length co40)) (fun _ h_ => h_.1))) hb); have n3_ := am (Kd.R_below (by (with_reducible repeat (first | apply Kd.R_alloc | apply Kd.R_drewN | apply Kd.R_drew)); exact (Kd.R_mono (Kd.R_far (p := ⟨gb255, 1, none⟩) (Kd.R_far (p := ⟨gb255, 0, none⟩) (Kd.R_types HO247.out BK255.out (by decide)) (fun _ hk => hk.2) (.int .i64 t250)) (fun _ hk => hk.2) (.slice Ao40 t251.length co40)) (fun _ h_ => h_.1))) hb); have n4_ := am (Kd.R_below (by (with_reducible repeat (first | apply Kd.R_alloc | apply Kd.R_drewN | apply Kd.R_drew)); exact (Kd.R_mono (Kd.R_far (p := ⟨gb255, 1, none⟩) (Kd.R_far (p := ⟨gb255, 0, none⟩) (Kd.R_types HO253.out BK255.out (by decide)) (fun _ hk => hk.2) (.int .i64 t250)) (fun _ hk => hk.2) (.slice Ao40 t251.length co40)) (fun _ h_ => h_.1))) hb); have n5_ := am (blk_below (g := gb229) (o := .cells #[.int .i64 t231, .slice Ao16 t232.length co16] 25 (0, 0)) (by (with_reducible repeat (first | refine blk_drewN ?_ _ | refine blk_drew ?_ | refine blk_alloc ?_ _)); refine blk_far ?_ NB229_255.out _; (with_reducible repeat (first | refine blk_drewN ?_ _ | refine blk_drew ?_ | refine blk_alloc ?_ _)); refine blk_far ?_ NB229_255.out _; (with_reducible repeat (first | refine blk_drewN ?_ _ | refine blk_drew ?_ | refine blk_alloc ?_ _)); exact BK229.out) hb); have n6_ := am (blk_below (g := gb230) (o := .cells #[.int .i64 t235, .slice Ao19 t236.length co19] 25 (0, 0)) (by (with_reducible repeat (first | refine blk_drewN ?_ _ | refine blk_drew ?_ | refine blk_alloc ?_ _)); refine blk_far ?_ NB230_255.out _; (with_reducible repeat (first | refine blk_drewN ?_ _ | refine blk_drew ?_ | refine blk_alloc ?_ _)); refine blk_far ?_ NB230_255.out _; (with_reducible repeat (first | refine blk_drewN ?_ _ | refine blk_drew ?_ | refine blk_alloc ?_ _)); exact BK230.out) hb); have n7_ := am (blk_below (g := gb249) (o := .cells #[.int .i64 t244, .slice Ao31 t245.length co31] 25 (0, 0)) (by (with_reducible repeat (first | refine blk_drewN ?_ _ | refine blk_drew ?_ | refine blk_alloc ?_ _)); refine blk_far ?_ NB249_255.out _; (with_reducible repeat (first | refine blk_drewN ?_ _ | refine blk_drew ?_ | refine blk_alloc ?_ _)); refine blk_far ?_ NB249_255.out _; (with_reducible repeat (first | refine blk_drewN ?_ _ | refine blk_drew ?_ | refine blk_alloc ?_ _)); exact BK249.out) hb); have n8_ := am (blk_below (g := gb255) (o := .cells #[.int .i64 t250, .slice Ao40 t251.length co40] 25 (0, 0)) (by (with_reducible repeat (first | refine blk_drewN ?_ _ | refine blk_drew ?_ | refine blk_alloc ?_ _)); refine blk_put (cs := #[.int .i64 t250, .slice none 0 0]) ?_ 1 _ rfl; (with_reducible repeat (first | refine blk_drewN ?_ _ | refine blk_drew ?_ | refine blk_alloc ?_ _)); refine blk_put (cs := #[.int .i64 0, .slice none 0 0]) ?_ 0 _ rfl; (with_reducible repeat (first | refine blk_drewN ?_ _ | refine blk_drew ?_ | refine blk_alloc ?_ _)); exact BK255.out) hb); have n9_ := am (below_step (pb HB) hb); clear HO234 HO238 HO241 HO247 HO253 BK229 BK230 BK249 BK255 HB; have HO234 := n0_; have HO238 := n1_; have HO241 := n2_; have HO247 := n3_; have HO253 := n4_; have BK229 := n5_; have BK230 := n6_; have BK249 := n7_; have BK255 := n8_; have HB := n9_; clear n0_ n1_ n2_ n3_ n4_ n5_ n6_ n7_ n8_ n9_; (try clear hb); (try clear hb2); (try clear hk); (try clear hi)))
     go_meet
     case rel => exact ⟨_, (true), (by first | rfl | (simp; done) | (simp [*]; done)), H', ⟨by first | omega | exact Nat.le_refl _⟩, ⟨by (with_reducible repeat (first | apply Kd.V_alloc | apply Kd.V_drewN | apply Kd.V_drew)); exact Kd.V_mono HO234.out (fun _ hk => ⟨hk.1.1.1.2, ⟨hk.1.2, ⟨hk.1.1.1.1.1.1, ⟨hk.1.1.1.1.1.2, ⟨hk.1.1.2, hk.2⟩⟩⟩⟩⟩)⟩, ⟨by (with_reducible repeat (first | apply Kd.V_alloc | apply Kd.V_drewN | apply Kd.V_drew)); exact Kd.V_mono HO238.out (fun _ hk => ⟨hk.1.1.1.2, ⟨hk.1.2, ⟨hk.1.1.1.1.1.1, ⟨hk.1.1.1.1.1.2, ⟨hk.1.1.2, hk.2⟩⟩⟩⟩⟩)⟩, ⟨by (with_reducible repeat (first | apply Kd.R_alloc | apply Kd.R_drewN | apply Kd.R_drew)); exact Kd.R_mono HO247.out (fun _ hk => hk.2)⟩, ⟨by (with_reducible repeat (first | apply Kd.R_alloc | apply Kd.R_drewN | apply Kd.R_drew)); exact Kd.R_mono HO253.out (fun _ hk => hk.2)⟩, ⟨by (with_reducible repeat (first | refine blk_drewN ?_ _ | refine blk_drew ?_ | refine blk_alloc ?_ _)); exact BK229.out⟩, ⟨by (with_reducible repeat (first | refine blk_drewN ?_ _ | refine blk_drew ?_ | refine blk_alloc ?_ _)); exact BK230.out⟩, ⟨by (with_reducible repeat (first | refine blk_drewN ?_ _ | refine blk_drew ?_ | refine blk_alloc ?_ _)); exact BK249.out⟩, ⟨by (with_reducible repeat (first | refine blk_drewN ?_ _ | refine blk_drew ?_ | refine blk_alloc ?_ _)); exact BK255.out⟩, ⟨pb HB⟩⟩
   ·
    rw [if_neg c41] at H
    have c41b0 : (t248 == 0) = false := beq_eq_false_iff_ne.mpr c41
    have c41b1 : (t248 != 0) = true := bne_iff_ne.mpr c41
    (first | rw [c41b0] | (simp only [i64_w, i32_w]; rw [c41b0]) | skip)
    have H' := Aside0.mk H
    clear H
    go_wp2
    go_meet
    case rel => exact ⟨_, (true), (by first | rfl | (simp; done) | (simp [*]; done)), H', ⟨by first | omega | exact Nat.le_refl _⟩, ⟨by (with_reducible repeat (first | apply Kd.V_alloc | apply Kd.V_drewN | apply Kd.V_drew)); exact Kd.V_mono (Kd.V_far (p := ⟨gb255, 1, none⟩) (Kd.V_far (p := ⟨gb255, 0, none⟩) (Kd.V_mono HO234.out (fun k_ hk => (⟨hk, hk.2⟩ : _ ∧ k_ ≠ gb255))) (fun _ hk => hk.2) (.int .i64 t250)) (fun _ hk => hk.2) (.slice Ao40 t251.length co40)) (fun _ hk => ⟨hk.1.1.1.1.2, ⟨hk.1.1.2, ⟨hk.1.1.1.1.1.1.1, ⟨hk.1.1.1.1.1.1.2, ⟨hk.1.1.1.2, hk.1.2⟩⟩⟩⟩⟩)⟩, ⟨by (with_reducible repeat (first | apply Kd.V_alloc | apply Kd.V_drewN | apply Kd.V_drew)); exact Kd.V_mono (Kd.V_far (p := ⟨gb255, 1, none⟩) (Kd.V_far (p := ⟨gb255, 0, none⟩) (Kd.V_mono HO238.out (fun k_ hk => (⟨hk, hk.2⟩ : _ ∧ k_ ≠ gb255))) (fun _ hk => hk.2) (.int .i64 t250)) (fun _ hk => hk.2) (.slice Ao40 t251.length co40)) (fun _ hk => ⟨hk.1.1.1.1.2, ⟨hk.1.1.2, ⟨hk.1.1.1.1.1.1.1, ⟨hk.1.1.1.1.1.1.2, ⟨hk.1.1.1.2, hk.1.2⟩⟩⟩⟩⟩)⟩, ⟨by (with_reducible repeat (first | apply Kd.R_alloc | apply Kd.R_drewN | apply Kd.R_drew)); exact Kd.R_mono (Kd.R_far (p := ⟨gb255, 1, none⟩) (Kd.R_far (p := ⟨gb255, 0, none⟩) (Kd.R_types HO247.out BK255.out (by decide)) (fun _ hk => hk.2) (.int .i64 t250)) (fun _ hk => hk.2) (.slice Ao40 t251.length co40)) (fun _ hk => hk.1.2)⟩, ⟨by (with_reducible repeat (first | apply Kd.R_alloc | apply Kd.R_drewN | apply Kd.R_drew)); exact Kd.R_mono (Kd.R_far (p := ⟨gb255, 1, none⟩) (Kd.R_far (p := ⟨gb255, 0, none⟩) (Kd.R_types HO253.out BK255.out (by decide)) (fun _ hk => hk.2) (.int .i64 t250)) (fun _ hk => hk.2) (.slice Ao40 t251.length co40)) (fun _ hk => hk.1.2)⟩, ⟨by (with_reducible repeat (first | refine blk_drewN ?_ _ | refine blk_drew ?_ | refine blk_alloc ?_ _)); refine blk_far ?_ NB229_255.out _; (with_reducible repeat (first | refine blk_drewN ?_ _ | refine blk_drew ?_ | refine blk_alloc ?_ _)); refine blk_far ?_ NB229_255.out _; (with_reducible repeat (first | refine blk_drewN ?_ _ | refine blk_drew ?_ | refine blk_alloc ?_ _)); exact BK229.out⟩, ⟨by (with_reducible repeat (first | refine blk_drewN ?_ _ | refine blk_drew ?_ | refine blk_alloc ?_ _)); refine blk_far ?_ NB230_255.out _; (with_reducible repeat (first | refine blk_drewN ?_ _ | refine blk_drew ?_ | refine blk_alloc ?_ _)); refine blk_far ?_ NB230_255.out _; (with_reducible repeat (first | refine blk_drewN ?_ _ | refine blk_drew ?_ | refine blk_alloc ?_ _)); exact BK230.out⟩, ⟨by (with_reducible repeat (first | refine blk_drewN ?_ _ | refine blk_drew ?_ | refine blk_alloc ?_ _)); refine blk_far ?_ NB249_255.out _; (with_reducible repeat (first | refine blk_drewN ?_ _ | refine blk_drew ?_ | refine blk_alloc ?_ _)); refine blk_far ?_ NB249_255.out _; (with_reducible repeat (first | refine blk_drewN ?_ _ | refine blk_drew ?_ | refine blk_alloc ?_ _)); exact BK249.out⟩, ⟨by (with_reducible repeat (first | refine blk_drewN ?_ _ | refine blk_drew ?_ | refine blk_alloc ?_ _)); refine blk_put (cs := #[.int .i64 t250, .slice none 0 0]) ?_ 1 _ rfl; (with_reducible repeat (first | refine blk_drewN ?_ _ | refine blk_drew ?_ | refine blk_alloc ?_ _)); refine blk_put (cs := #[.int .i64 0, .slice none 0 0]) ?_ 0 _ rfl; (with_reducible repeat (first | refine blk_drewN ?_ _ | refine blk_drew ?_ | refine blk_alloc ?_ _)); exact BK255.out⟩, ⟨pb HB⟩⟩
  case rest =>
   clear HC9
   try clear c1
   try clear c2
   try clear p2
   try clear c3
   try clear c4
   try clear c5
   try clear c6
   try clear c6b0
   try clear c6b1
   try clear c18
   try clear c19
   try clear c21
   try clear c27
   try clear c28
   try clear c29
   try clear c36
   try clear c37
   try clear c38
   try clear c41
   try clear c41b0
   try clear c41b1
   try clear c43
   try clear c45
   try clear c46
   try clear c47
   try clear c49
   try clear c50
   try clear c54
   try clear c55
   try clear c56
   try clear c58
   try clear c59
   try clear hcz22_0
   try clear hcz22_1
   try clear hcz24_0
   try clear hcz24_1
   try clear hcz30_0
   try clear hcz30_1
   try clear hcz32_0
   try clear hcz32_1
   try clear hcz33_0
   try clear hcz33_1
   try clear hcz39_0
   try clear hcz39_1
   try clear hcz48_0
   try clear hcz48_1
   try clear hcz51_0
   try clear hcz51_1
   try clear hcz57_0
   try clear hcz57_1
   try clear hcz60_0
   try clear hcz60_1
   try clear hfz22_0
   try clear hfz22_1
   try clear hfz24_0
   try clear hfz24_1
   try clear hfz30_0
   try clear hfz30_1
   try clear hfz32_0
   try clear hfz32_1
   try clear hfz33_0
   try clear hfz33_1
   try clear hfz39_0
   try clear hfz39_1
   try clear hfz48_0
   try clear hfz48_1
   try clear hfz51_0
   try clear hfz51_1
   try clear hfz57_0
   try clear hfz57_1
   try clear hfz60_0
   try clear hfz60_1
   obtain ⟨kq, x64_8, rfl, HA, HJ8, HO_230001, HO_231001, HO_250001, HO_256001, BK229, BK230, BK249, BK255, HB⟩ := hcut
   cases kq with
   | zero => exact absurd HA.out (by simp [downpourlaw01_BitrowBack.j0])
   | succ kj8 =>
    have H := HA.out
    clear HA
    simp only [downpourlaw01_BitrowBack.j0] at H
    by_cases c62 : x64_8 = true
    ·
     subst c62
     have H1 : (none) = some r := by rw [if_pos rfl] at H; exact H
     clear H
     have H := H1
     clear H1
     exact absurd H (by simp)
    ·
     replace c62 := Bool.eq_false_iff.mpr c62
     subst c62
     have H1 : (if t254 = 0 then ((bitrow_And.f kj8 t231 t232 t235 t236).bind fun bt259 => ((bitrow_Xor.f kj8 t250 t251 t235 t236).bind fun bt265 => ((bitrow_Count.f kj8 t231 t232).bind fun bt271 => ((bitrow_Count.f kj8 t235 t236).bind fun bt273 => ((bitrow_Count.f kj8 t250 t251).bind fun bt275 => ((bitrow_Count.f kj8 bt259.1 bt259.2.1).bind fun bt277 => (if bt259.2.2 = 0 then (if bt265.2.2 = 0 then (if bt271.2 = 0 then (if bt273.2 = 0 then (if bt275.2 = 0 then (if bt277.2 = 0 then ((downpourref01_Same.f kj8 bt265.1 bt265.2.1 t231 t232).bind fun t279 => (if t279 = true then (if (wrap64 (bt271.1 + bt273.1)) = (wrap64 (bt275.1 + (wrap64 (2 * bt277.1)))) then ((bitrow_Right.f t250 t251).bind fun t280 => (if t280 = true then ((bitrow_Right.f bt259.1 bt259.2.1).bind fun t281 => (some t281)) else (none))) else (none)) else (none))) else (none)) else (none)) else (none)) else (none)) else (none)) else (none)))))))) else ((downpourref01_Same.f kj8 t250 t251 0 ([] : List Int)).bind fun t258 => (some t258))) = some r := by rw [if_neg (show ¬ (false = true) by decide)] at H; exact H
     clear H
     have H := H1
     clear H1
     by_cases c63 : t254 = 0
     ·
      rw [if_pos c63] at H
      have c63b0 : (t254 == 0) = true := beq_iff_eq.mpr c63
      have c63b1 : (t254 != 0) = false := bne_eq_false_iff_eq.mpr c63
      clear c63
      replace H := Option.bind_eq_some_iff.mp H
      obtain ⟨⟨t259, t260, t263⟩, A640, H⟩ := H
      replace H : ((bitrow_Xor.f kj8 t250 t251 t235 t236).bind fun bt265 => ((bitrow_Count.f kj8 t231 t232).bind fun bt271 => ((bitrow_Count.f kj8 t235 t236).bind fun bt273 => ((bitrow_Count.f kj8 t250 t251).bind fun bt275 => ((bitrow_Count.f kj8 t259 t260).bind fun bt277 => (if t263 = 0 then (if bt265.2.2 = 0 then (if bt271.2 = 0 then (if bt273.2 = 0 then (if bt275.2 = 0 then (if bt277.2 = 0 then ((downpourref01_Same.f kj8 bt265.1 bt265.2.1 t231 t232).bind fun t279 => (if t279 = true then (if (wrap64 (bt271.1 + bt273.1)) = (wrap64 (bt275.1 + (wrap64 (2 * bt277.1)))) then ((bitrow_Right.f t250 t251).bind fun t280 => (if t280 = true then ((bitrow_Right.f t259 t260).bind fun t281 => (some t281)) else (none))) else (none)) else (none))) else (none)) else (none)) else (none)) else (none)) else (none)) else (none))))))) = some r := H
      have A64 := Aside0.mk A640
      clear A640
      replace H := Option.bind_eq_some_iff.mp H
      obtain ⟨⟨t265, t266, t269⟩, A650, H⟩ := H
      replace H : ((bitrow_Count.f kj8 t231 t232).bind fun bt271 => ((bitrow_Count.f kj8 t235 t236).bind fun bt273 => ((bitrow_Count.f kj8 t250 t251).bind fun bt275 => ((bitrow_Count.f kj8 t259 t260).bind fun bt277 => (if t263 = 0 then (if t269 = 0 then (if bt271.2 = 0 then (if bt273.2 = 0 then (if bt275.2 = 0 then (if bt277.2 = 0 then ((downpourref01_Same.f kj8 t265 t266 t231 t232).bind fun t279 => (if t279 = true then (if (wrap64 (bt271.1 + bt273.1)) = (wrap64 (bt275.1 + (wrap64 (2 * bt277.1)))) then ((bitrow_Right.f t250 t251).bind fun t280 => (if t280 = true then ((bitrow_Right.f t259 t260).bind fun t281 => (some t281)) else (none))) else (none)) else (none))) else (none)) else (none)) else (none)) else (none)) else (none)) else (none)))))) = some r := H
      have A65 := Aside0.mk A650
      clear A650
      replace H := Option.bind_eq_some_iff.mp H
      obtain ⟨⟨t271, t272⟩, A660, H⟩ := H
      replace H : ((bitrow_Count.f kj8 t235 t236).bind fun bt273 => ((bitrow_Count.f kj8 t250 t251).bind fun bt275 => ((bitrow_Count.f kj8 t259 t260).bind fun bt277 => (if t263 = 0 then (if t269 = 0 then (if t272 = 0 then (if bt273.2 = 0 then (if bt275.2 = 0 then (if bt277.2 = 0 then ((downpourref01_Same.f kj8 t265 t266 t231 t232).bind fun t279 => (if t279 = true then (if (wrap64 (t271 + bt273.1)) = (wrap64 (bt275.1 + (wrap64 (2 * bt277.1)))) then ((bitrow_Right.f t250 t251).bind fun t280 => (if t280 = true then ((bitrow_Right.f t259 t260).bind fun t281 => (some t281)) else (none))) else (none)) else (none))) else (none)) else (none)) else (none)) else (none)) else (none)) else (none))))) = some r := H
      have A66 := Aside0.mk A660
      clear A660
      replace H := Option.bind_eq_some_iff.mp H
      obtain ⟨⟨t273, t274⟩, A670, H⟩ := H
      replace H : ((bitrow_Count.f kj8 t250 t251).bind fun bt275 => ((bitrow_Count.f kj8 t259 t260).bind fun bt277 => (if t263 = 0 then (if t269 = 0 then (if t272 = 0 then (if t274 = 0 then (if bt275.2 = 0 then (if bt277.2 = 0 then ((downpourref01_Same.f kj8 t265 t266 t231 t232).bind fun t279 => (if t279 = true then (if (wrap64 (t271 + t273)) = (wrap64 (bt275.1 + (wrap64 (2 * bt277.1)))) then ((bitrow_Right.f t250 t251).bind fun t280 => (if t280 = true then ((bitrow_Right.f t259 t260).bind fun t281 => (some t281)) else (none))) else (none)) else (none))) else (none)) else (none)) else (none)) else (none)) else (none)) else (none)))) = some r := H
      have A67 := Aside0.mk A670
      clear A670
      replace H := Option.bind_eq_some_iff.mp H
      obtain ⟨⟨t275, t276⟩, A680, H⟩ := H
      replace H : ((bitrow_Count.f kj8 t259 t260).bind fun bt277 => (if t263 = 0 then (if t269 = 0 then (if t272 = 0 then (if t274 = 0 then (if t276 = 0 then (if bt277.2 = 0 then ((downpourref01_Same.f kj8 t265 t266 t231 t232).bind fun t279 => (if t279 = true then (if (wrap64 (t271 + t273)) = (wrap64 (t275 + (wrap64 (2 * bt277.1)))) then ((bitrow_Right.f t250 t251).bind fun t280 => (if t280 = true then ((bitrow_Right.f t259 t260).bind fun t281 => (some t281)) else (none))) else (none)) else (none))) else (none)) else (none)) else (none)) else (none)) else (none)) else (none))) = some r := H
      have A68 := Aside0.mk A680
      clear A680
      replace H := Option.bind_eq_some_iff.mp H
      obtain ⟨⟨t277, t278⟩, A690, H⟩ := H
      replace H : (if t263 = 0 then (if t269 = 0 then (if t272 = 0 then (if t274 = 0 then (if t276 = 0 then (if t278 = 0 then ((downpourref01_Same.f kj8 t265 t266 t231 t232).bind fun t279 => (if t279 = true then (if (wrap64 (t271 + t273)) = (wrap64 (t275 + (wrap64 (2 * t277)))) then ((bitrow_Right.f t250 t251).bind fun t280 => (if t280 = true then ((bitrow_Right.f t259 t260).bind fun t281 => (some t281)) else (none))) else (none)) else (none))) else (none)) else (none)) else (none)) else (none)) else (none)) else (none)) = some r := H
      have A69 := Aside0.mk A690
      clear A690
      by_cases c70 : t263 = 0
      ·
       rw [if_pos c70] at H
       have c70b0 : (t263 == 0) = true := beq_iff_eq.mpr c70
       have c70b1 : (t263 != 0) = false := bne_eq_false_iff_eq.mpr c70
       clear c70
       by_cases c71 : t269 = 0
       ·
        rw [if_pos c71] at H
        have c71b0 : (t269 == 0) = true := beq_iff_eq.mpr c71
        have c71b1 : (t269 != 0) = false := bne_eq_false_iff_eq.mpr c71
        clear c71
        by_cases c72 : t272 = 0
        ·
         rw [if_pos c72] at H
         have c72b0 : (t272 == 0) = true := beq_iff_eq.mpr c72
         have c72b1 : (t272 != 0) = false := bne_eq_false_iff_eq.mpr c72
         clear c72
         by_cases c73 : t274 = 0
         ·
          rw [if_pos c73] at H
          have c73b0 : (t274 == 0) = true := beq_iff_eq.mpr c73
          have c73b1 : (t274 != 0) = false := bne_eq_false_iff_eq.mpr c73
          clear c73
          by_cases c74 : t276 = 0
          ·
           rw [if_pos c74] at H
           have c74b0 : (t276 == 0) = true := beq_iff_eq.mpr c74
           have c74b1 : (t276 != 0) = false := bne_eq_false_iff_eq.mpr c74
           clear c74
           by_cases c75 : t278 = 0
           ·
            rw [if_pos c75] at H
            have c75b0 : (t278 == 0) = true := beq_iff_eq.mpr c75
            have c75b1 : (t278 != 0) = false := bne_eq_false_iff_eq.mpr c75
            clear c75
            replace H := Option.bind_eq_some_iff.mp H
            obtain ⟨t279, A760, H⟩ := H
            replace H : (if t279 = true then (if (wrap64 (t271 + t273)) = (wrap64 (t275 + (wrap64 (2 * t277)))) then ((bitrow_Right.f t250 t251).bind fun t280 => (if t280 = true then ((bitrow_Right.f t259 t260).bind fun t281 => (some t281)) else (none))) else (none)) else (none)) = some r := H
            have A76 := Aside0.mk A760
            clear A760
            by_cases c77 : t279 = true
            ·
             subst c77
             have H1 : (if (wrap64 (t271 + t273)) = (wrap64 (t275 + (wrap64 (2 * t277)))) then ((bitrow_Right.f t250 t251).bind fun t280 => (if t280 = true then ((bitrow_Right.f t259 t260).bind fun t281 => (some t281)) else (none))) else (none)) = some r := by rw [if_pos rfl] at H; exact H
             clear H
             have H := H1
             clear H1
             by_cases c78 : (wrap64 (t271 + t273)) = (wrap64 (t275 + (wrap64 (2 * t277))))
             ·
              rw [if_pos c78] at H
              have c78b0 : ((wrap64 (t271 + t273)) == (wrap64 (t275 + (wrap64 (2 * t277))))) = true := beq_iff_eq.mpr c78
              have c78b1 : ((wrap64 (t271 + t273)) != (wrap64 (t275 + (wrap64 (2 * t277))))) = false := bne_eq_false_iff_eq.mpr c78
              clear c78
              replace H := Option.bind_eq_some_iff.mp H
              obtain ⟨t280, A790, H⟩ := H
              replace H : (if t280 = true then ((bitrow_Right.f t259 t260).bind fun t281 => (some t281)) else (none)) = some r := H
              have A79 := Aside0.mk A790
              clear A790
              by_cases c80 : t280 = true
              ·
               subst c80
               have H1 : ((bitrow_Right.f t259 t260).bind fun t281 => (some t281)) = some r := by rw [if_pos rfl] at H; exact H
               clear H
               have H := H1
               clear H1
               replace H := Option.bind_eq_some_iff.mp H
               obtain ⟨t281, A810, H⟩ := H
               replace H : (some t281) = some r := H
               have A81 := Aside0.mk A810
               clear A810
               obtain rfl := Option.some.inj H
               have hnb82 := NB229_230.out
               have hnc82 := NB230_229.out
               have hnb83 := NB229_249.out
               have hnc83 := NB249_229.out
               have hnb84 := NB229_255.out
               have hnc84 := NB255_229.out
               have hcz85_0 : wc.cell? ⟨gb229, 0, none⟩ = some (.int .i64 t231) := (blk_cell BK229.out 0).trans rfl
               have hcz85_1 : wc.cell? ⟨gb229, 1, none⟩ = some (.slice Ao16 t232.length co16) := (blk_cell BK229.out 1).trans rfl
               have hfz85_0 := blk_frozen BK229.out 0
               have hfz85_1 := blk_frozen BK229.out 1
               have hnb86 := NB230_249.out
               have hnc86 := NB249_230.out
               have hnb87 := NB230_255.out
               have hnc87 := NB255_230.out
               have hcz88_0 : wc.cell? ⟨gb230, 0, none⟩ = some (.int .i64 t235) := (blk_cell BK230.out 0).trans rfl
               have hcz88_1 : wc.cell? ⟨gb230, 1, none⟩ = some (.slice Ao19 t236.length co19) := (blk_cell BK230.out 1).trans rfl
               have hfz88_0 := blk_frozen BK230.out 0
               have hfz88_1 := blk_frozen BK230.out 1
               go_wp2_with (first | ((with_reducible refine gate_callee (f := 30) rfl ?_); refine goesL_ (some 73) rfl rfl Tryd.func30 (by kernel_rfl) rfl #[.agg #[.int .i64 t231, .slice Ao16 t232.length co16], .agg #[.int .i64 t235, .slice Ao19 t236.length co19]] rfl (by (try simp only [List.map_toArray, List.map_cons, List.map_nil]); first | done | rfl | (simp only [List.length_drop, List.length_take]; rfl)) ?_; (with_reducible refine (bitrow_And.calls kj8 t231 _ _ t232 t235 _ _ t236 t259 t260 t263 _ ?side1 ?side2 ?side3 ?side4 A64.out).mono ?_); (case side1 => repeat (first | exact (Kd.V_reads' HO_230001.out).2.2 | (with_reducible refine Kd.C_alloc ?_ _) | (with_reducible refine Kd.C_drewN ?_ _) | (with_reducible refine Kd.C_drew ?_))); (case side2 => exact (Kd.V_reads' HO_230001.out).2.1); (case side3 => repeat (first | exact (Kd.V_reads' HO_231001.out).2.2 | (with_reducible refine Kd.C_alloc ?_ _) | (with_reducible refine Kd.C_drewN ?_ _) | (with_reducible refine Kd.C_drew ?_))); (case side4 => exact (Kd.V_reads' HO_231001.out).2.1); rintro e w89 ⟨v261, rfl, ho0, hb⟩; refine ⟨_, rfl, ?_⟩; have n0_ := am (Kd.V_elder' (pv HO_230001) (Kd.R_base ho0) hb); have n1_ := am (Kd.V_elder' (pv HO_231001) (Kd.R_base ho0) hb); have n2_ := am (Kd.R_elder' (pr HO_250001) (Kd.R_base ho0) hb); have n3_ := am (Kd.R_elder' (pr HO_256001) (Kd.R_base ho0) hb); have n4_ := am (Kd.R_lower (Kd.R_new' (Kd.R_new' ho0 (Kd.R_lt (pr HO_250001))) (Kd.R_lt (pr HO_256001))) (below_size (pb HB))); have n5_ := bb BK229 hb; have n6_ := bb BK230 hb; have n7_ := bb BK249 hb; have n8_ := bb BK255 hb; have n9_ := am (below_step (pb HB) hb); clear HO_230001 HO_231001 HO_250001 HO_256001 BK229 BK230 BK249 BK255 HB; have HO_230001 := n0_; have HO_231001 := n1_; have HO_250001 := n2_; have HO_256001 := n3_; have HO262 := n4_; have BK229 := n5_; have BK230 := n6_; have BK249 := n7_; have BK255 := n8_; have HB := n9_; clear n0_ n1_ n2_ n3_ n4_ n5_ n6_ n7_ n8_ n9_; (try clear hb); (try clear hb2); (try clear hk); (try clear hi); (try clear ho0)) | ((with_reducible refine gate_dst (N := 11) rfl ?_); (try (refine gate_guard (by rfl) ?_; dsimp only)); refine box_event ?hg (N := 11) ?hd (cs := #[.int .i64 0, .slice none 0 0]) (t := 25) ?hr ?_; (case hd => rfl); (case hg => rfl); (case hr => first | (go_simp; done) | (go_simp; rfl)); intro gb264 hg w90 hbox hb; have n0_ := am (Kd.V_below (Kd.V_elderB (pv HO_230001) gb264 (Nat.le_of_eq hg.symm)) hb); have n1_ := am (Kd.V_below (Kd.V_elderB (pv HO_231001) gb264 (Nat.le_of_eq hg.symm)) hb); have n2_ := am (Kd.R_below (pr HO_250001) hb); have n3_ := am (Kd.R_below (pr HO_256001) hb); have n4_ := am (Kd.R_below (pr HO262) hb); have n5_ := bb BK229 hb; have n6_ := bb BK230 hb; have n7_ := bb BK249 hb; have n8_ := bb BK255 hb; have n9_ := am (below_step (pb HB) hb); have n10_ := am (hbox); have n11_ := am ((by rw [hg]; exact (below_size (pb HB)) : w.heap.size ≤ gb264)); have n12_ := am ((by rw [hg]; exact (below_size (pb HB)) : w.heap.size ≤ gb264)); have n13_ := am ((by rw [hg]; exact Nat.ne_of_lt (bl BK229) : gb229 ≠ gb264)); have n14_ := am ((by rw [hg]; exact Nat.ne_of_gt (bl BK229) : gb264 ≠ gb229)); have n15_ := am ((by rw [hg]; exact Nat.ne_of_lt (bl BK230) : gb230 ≠ gb264)); have n16_ := am ((by rw [hg]; exact Nat.ne_of_gt (bl BK230) : gb264 ≠ gb230)); have n17_ := am ((by rw [hg]; exact Nat.ne_of_lt (bl BK249) : gb249 ≠ gb264)); have n18_ := am ((by rw [hg]; exact Nat.ne_of_gt (bl BK249) : gb264 ≠ gb249)); have n19_ := am ((by rw [hg]; exact Nat.ne_of_lt (bl BK255) : gb255 ≠ gb264)); have n20_ := am ((by rw [hg]; exact Nat.ne_of_gt (bl BK255) : gb264 ≠ gb255)); clear HO_230001 HO_231001 HO_250001 HO_256001 HO262 BK229 BK230 BK249 BK255 HB; have HO_230001 := n0_; have HO_231001 := n1_; have HO_250001 := n2_; have HO_256001 := n3_; have HO262 := n4_; have BK229 := n5_; have BK230 := n6_; have BK249 := n7_; have BK255 := n8_; have HB := n9_; have BK264 := n10_; have GW264 := n11_; have GE264 := n12_; have NB229_264 := n13_; have NB264_229 := n14_; have NB230_264 := n15_; have NB264_230 := n16_; have NB249_264 := n17_; have NB264_249 := n18_; have NB255_264 := n19_; have NB264_255 := n20_; clear n0_ n1_ n2_ n3_ n4_ n5_ n6_ n7_ n8_ n9_ n10_ n11_ n12_ n13_ n14_ n15_ n16_ n17_ n18_ n19_ n20_ hb hbox hg; have hnb91 := NB264_229.out; have hnc91 := NB229_264.out; have hnb92 := NB264_230.out; have hnc92 := NB230_264.out; have hnb93 := NB264_249.out; have hnc93 := NB249_264.out; have hnb94 := NB264_255.out; have hnc94 := NB255_264.out; have hcz95_0 : w90.cell? ⟨gb264, 0, none⟩ = some (.int .i64 0) := (blk_cell BK264.out 0).trans rfl; have hcz95_1 : w90.cell? ⟨gb264, 1, none⟩ = some (.slice none 0 0) := (blk_cell BK264.out 1).trans rfl; have hfz95_0 := blk_frozen BK264.out 0; have hfz95_1 := blk_frozen BK264.out 1; obtain ⟨Ao96, co96, eo96⟩ := Kd.R_slice HO262.out; subst eo96; have hnb97 := NB255_249.out; have hnc97 := NB249_255.out; have hcz98_0 : w90.cell? ⟨gb255, 0, none⟩ = some (.int .i64 t250) := (blk_cell BK255.out 0).trans rfl; have hcz98_1 : w90.cell? ⟨gb255, 1, none⟩ = some (.slice Ao40 t251.length co40) := (blk_cell BK255.out 1).trans rfl; have hfz98_0 := blk_frozen BK255.out 0; have hfz98_1 := blk_frozen BK255.out 1; have hcz99_0 : w90.cell? ⟨gb230, 0, none⟩ = some (.int .i64 t235) := (blk_cell BK230.out 0).trans rfl; have hcz99_1 : w90.cell? ⟨gb230, 1, none⟩ = some (.slice Ao19 t236.length co19) := (blk_cell BK230.out 1).trans rfl; have hfz99_0 := blk_frozen BK230.out 0; have hfz99_1 := blk_frozen BK230.out 1) | ((with_reducible refine gate_callee (f := 28) rfl ?_); refine goesL_ (some 79) rfl rfl Tryd.func28 (by kernel_rfl) rfl #[.agg #[.int .i64 t250, .slice Ao40 t251.length co40], .agg #[.int .i64 t235, .slice Ao19 t236.length co19]] rfl (by (try simp only [List.map_toArray, List.map_cons, List.map_nil]); first | done | rfl | (simp only [List.length_drop, List.length_take]; rfl)) ?_; (with_reducible refine (bitrow_Xor.calls kj8 t250 _ _ t251 t235 _ _ t236 t265 t266 t269 _ ?side1 ?side2 ?side3 ?side4 A65.out).mono ?_); (case side1 => refine (Kd.R_reads' (e := 90) (base := w.heap.size) (ok := fun k_ => (some k_ ≠ (.slice Ao31 t245.length co31 : Value).ownBlock ∧ some k_ ≠ (.slice Ao96 t260.length co96 : Value).ownBlock)) (n := t251.length) (c := co40) ?_).2.2; exact (by (with_reducible repeat (first | apply Kd.R_alloc | apply Kd.R_drewN | apply Kd.R_drew)); exact (Kd.R_mono (Kd.R_far (p := ⟨gb264, 1, none⟩) (Kd.R_far (p := ⟨gb264, 0, none⟩) (Kd.R_types HO_256001.out BK264.out (by decide)) (fun _ hk => hk.2) (.int .i64 t259)) (fun _ hk => hk.2) (.slice Ao96 t260.length co96)) (fun _ h_ => h_.1)))); (case side2 => exact (Kd.R_reads' HO_256001.out).2.1); (case side3 => refine (Kd.V_reads' (e := 90) (base := w.heap.size) (ok := fun k_ => (((some k_ ≠ (.slice Ao31 t245.length co31 : Value).ownBlock ∧ (some k_ ≠ (.slice Ao40 t251.length co40 : Value).ownBlock ∧ (k_ ≠ gb229 ∧ (k_ ≠ gb230 ∧ (k_ ≠ gb249 ∧ k_ ≠ gb255))))) ∧ some k_ ≠ (.slice Ao96 t260.length co96 : Value).ownBlock) ∧ k_ ≠ gb264)) (n := t236.length) (c := co19) ?_).2.2; exact (by (with_reducible repeat (first | apply Kd.V_alloc | apply Kd.V_drewN | apply Kd.V_drew)); exact (Kd.V_mono (Kd.V_far (p := ⟨gb264, 1, none⟩) (Kd.V_far (p := ⟨gb264, 0, none⟩) (Kd.V_mono HO_231001.out (fun k_ hk => (⟨hk, hk.2⟩ : _ ∧ k_ ≠ gb264))) (fun _ hk => hk.2) (.int .i64 t259)) (fun _ hk => hk.2) (.slice Ao96 t260.length co96)) (fun _ h_ => h_.1)))); (case side4 => exact (Kd.V_reads' HO_231001.out).2.1); rintro e w100 ⟨v267, rfl, ho0, hb⟩; refine ⟨_, rfl, ?_⟩; have n0_ := am (Kd.V_elder' (by (with_reducible repeat (first | apply Kd.V_alloc | apply Kd.V_drewN | apply Kd.V_drew)); exact (Kd.V_mono (Kd.V_far (p := ⟨gb264, 1, none⟩) (Kd.V_far (p := ⟨gb264, 0, none⟩) (Kd.V_mono HO_230001.out (fun k_ hk => (⟨hk, hk.2⟩ : _ ∧ k_ ≠ gb264))) (fun _ hk => hk.2) (.int .i64 t259)) (fun _ hk => hk.2) (.slice Ao96 t260.length co96)) (fun _ h_ => h_.1))) (Kd.R_base ho0) hb); have n1_ := am (Kd.V_elder' (by (with_reducible repeat (first | apply Kd.V_alloc | apply Kd.V_drewN | apply Kd.V_drew)); exact (Kd.V_mono (Kd.V_far (p := ⟨gb264, 1, none⟩) (Kd.V_far (p := ⟨gb264, 0, none⟩) (Kd.V_mono HO_231001.out (fun k_ hk => (⟨hk, hk.2⟩ : _ ∧ k_ ≠ gb264))) (fun _ hk => hk.2) (.int .i64 t259)) (fun _ hk => hk.2) (.slice Ao96 t260.length co96)) (fun _ h_ => h_.1))) (Kd.R_base ho0) hb); have n2_ := am (Kd.R_elder' (by (with_reducible repeat (first | apply Kd.R_alloc | apply Kd.R_drewN | apply Kd.R_drew)); exact (Kd.R_mono (Kd.R_far (p := ⟨gb264, 1, none⟩) (Kd.R_far (p := ⟨gb264, 0, none⟩) (Kd.R_types HO_250001.out BK264.out (by decide)) (fun _ hk => hk.2) (.int .i64 t259)) (fun _ hk => hk.2) (.slice Ao96 t260.length co96)) (fun _ h_ => h_.1))) (Kd.R_base ho0) hb); have n3_ := am (Kd.R_elder' (by (with_reducible repeat (first | apply Kd.R_alloc | apply Kd.R_drewN | apply Kd.R_drew)); exact (Kd.R_mono (Kd.R_far (p := ⟨gb264, 1, none⟩) (Kd.R_far (p := ⟨gb264, 0, none⟩) (Kd.R_types HO_256001.out BK264.out (by decide)) (fun _ hk => hk.2) (.int .i64 t259)) (fun _ hk => hk.2) (.slice Ao96 t260.length co96)) (fun _ h_ => h_.1))) (Kd.R_base ho0) hb); have n4_ := am (Kd.R_elder' (by (with_reducible repeat (first | apply Kd.R_alloc | apply Kd.R_drewN | apply Kd.R_drew)); exact (Kd.R_mono (Kd.R_far (p := ⟨gb264, 1, none⟩) (Kd.R_far (p := ⟨gb264, 0, none⟩) (Kd.R_types HO262.out BK264.out (by decide)) (fun _ hk => hk.2) (.int .i64 t259)) (fun _ hk => hk.2) (.slice Ao96 t260.length co96)) (fun _ h_ => h_.1))) (Kd.R_base ho0) hb); have n5_ := am (Kd.R_lower (Kd.R_new' (Kd.R_new' (Kd.R_new' ho0 (Kd.R_lt (by (with_reducible repeat (first | apply Kd.R_alloc | apply Kd.R_drewN | apply Kd.R_drew)); exact (Kd.R_mono (Kd.R_far (p := ⟨gb264, 1, none⟩) (Kd.R_far (p := ⟨gb264, 0, none⟩) (Kd.R_types HO_250001.out BK264.out (by decide)) (fun _ hk => hk.2) (.int .i64 t259)) (fun _ hk => hk.2) (.slice Ao96 t260.length co96)) (fun _ h_ => h_.1))))) (Kd.R_lt (by (with_reducible repeat (first | apply Kd.R_alloc | apply Kd.R_drewN | apply Kd.R_drew)); exact (Kd.R_mono (Kd.R_far (p := ⟨gb264, 1, none⟩) (Kd.R_far (p := ⟨gb264, 0, none⟩) (Kd.R_types HO_256001.out BK264.out (by decide)) (fun _ hk => hk.2) (.int .i64 t259)) (fun _ hk => hk.2) (.slice Ao96 t260.length co96)) (fun _ h_ => h_.1))))) (Kd.R_lt (by (with_reducible repeat (first | apply Kd.R_alloc | apply Kd.R_drewN | apply Kd.R_drew)); exact (Kd.R_mono (Kd.R_far (p := ⟨gb264, 1, none⟩) (Kd.R_far (p := ⟨gb264, 0, none⟩) (Kd.R_types HO262.out BK264.out (by decide)) (fun _ hk => hk.2) (.int .i64 t259)) (fun _ hk => hk.2) (.slice Ao96 t260.length co96)) (fun _ h_ => h_.1))))) (below_size (pb HB))); have n6_ := am (blk_below (g := gb229) (o := .cells #[.int .i64 t231, .slice Ao16 t232.length co16] 25 (0, 0)) (by (with_reducible repeat (first | refine blk_drewN ?_ _ | refine blk_drew ?_ | refine blk_alloc ?_ _)); refine blk_far ?_ NB229_264.out _; (with_reducible repeat (first | refine blk_drewN ?_ _ | refine blk_drew ?_ | refine blk_alloc ?_ _)); refine blk_far ?_ NB229_264.out _; (with_reducible repeat (first | refine blk_drewN ?_ _ | refine blk_drew ?_ | refine blk_alloc ?_ _)); exact BK229.out) hb); have n7_ := am (blk_below (g := gb230) (o := .cells #[.int .i64 t235, .slice Ao19 t236.length co19] 25 (0, 0)) (by (with_reducible repeat (first | refine blk_drewN ?_ _ | refine blk_drew ?_ | refine blk_alloc ?_ _)); refine blk_far ?_ NB230_264.out _; (with_reducible repeat (first | refine blk_drewN ?_ _ | refine blk_drew ?_ | refine blk_alloc ?_ _)); refine blk_far ?_ NB230_264.out _; (with_reducible repeat (first | refine blk_drewN ?_ _ | refine blk_drew ?_ | refine blk_alloc ?_ _)); exact BK230.out) hb); have n8_ := am (blk_below (g := gb249) (o := .cells #[.int .i64 t244, .slice Ao31 t245.length co31] 25 (0, 0)) (by (with_reducible repeat (first | refine blk_drewN ?_ _ | refine blk_drew ?_ | refine blk_alloc ?_ _)); refine blk_far ?_ NB249_264.out _; (with_reducible repeat (first | refine blk_drewN ?_ _ | refine blk_drew ?_ | refine blk_alloc ?_ _)); refine blk_far ?_ NB249_264.out _; (with_reducible repeat (first | refine blk_drewN ?_ _ | refine blk_drew ?_ | refine blk_alloc ?_ _)); exact BK249.out) hb); have n9_ := am (blk_below (g := gb255) (o := .cells #[.int .i64 t250, .slice Ao40 t251.length co40] 25 (0, 0)) (by (with_reducible repeat (first | refine blk_drewN ?_ _ | refine blk_drew ?_ | refine blk_alloc ?_ _)); refine blk_far ?_ NB255_264.out _; (with_reducible repeat (first | refine blk_drewN ?_ _ | refine blk_drew ?_ | refine blk_alloc ?_ _)); refine blk_far ?_ NB255_264.out _; (with_reducible repeat (first | refine blk_drewN ?_ _ | refine blk_drew ?_ | refine blk_alloc ?_ _)); exact BK255.out) hb); have n10_ := am (blk_below (g := gb264) (o := .cells #[.int .i64 t259, .slice Ao96 t260.length co96] 25 (0, 0)) (by (with_reducible repeat (first | refine blk_drewN ?_ _ | refine blk_drew ?_ | refine blk_alloc ?_ _)); refine blk_put (cs := #[.int .i64 t259, .slice none 0 0]) ?_ 1 _ rfl; (with_reducible repeat (first | refine blk_drewN ?_ _ | refine blk_drew ?_ | refine blk_alloc ?_ _)); refine blk_put (cs := #[.int .i64 0, .slice none 0 0]) ?_ 0 _ rfl; (with_reducible repeat (first | refine blk_drewN ?_ _ | refine blk_drew ?_ | refine blk_alloc ?_ _)); exact BK264.out) hb); have n11_ := am (below_step (pb HB) hb); clear HO_230001 HO_231001 HO_250001 HO_256001 HO262 BK229 BK230 BK249 BK255 BK264 HB; have HO_230001 := n0_; have HO_231001 := n1_; have HO_250001 := n2_; have HO_256001 := n3_; have HO262 := n4_; have HO268 := n5_; have BK229 := n6_; have BK230 := n7_; have BK249 := n8_; have BK255 := n9_; have BK264 := n10_; have HB := n11_; clear n0_ n1_ n2_ n3_ n4_ n5_ n6_ n7_ n8_ n9_ n10_ n11_; (try clear hb); (try clear hb2); (try clear hk); (try clear hi); (try clear ho0)) | ((with_reducible refine gate_dst (N := 13) rfl ?_); (try (refine gate_guard (by rfl) ?_; dsimp only)); refine box_event ?hg (N := 13) ?hd (cs := #[.int .i64 0, .slice none 0 0]) (t := 25) ?hr ?_; (case hd => rfl); (case hg => rfl); (case hr => first | (go_simp; done) | (go_simp; rfl)); intro gb270 hg w101 hbox hb; have n0_ := am (Kd.V_below (Kd.V_elderB (pv HO_230001) gb270 (Nat.le_of_eq hg.symm)) hb); have n1_ := am (Kd.V_below (Kd.V_elderB (pv HO_231001) gb270 (Nat.le_of_eq hg.symm)) hb); have n2_ := am (Kd.R_below (pr HO_250001) hb); have n3_ := am (Kd.R_below (pr HO_256001) hb); have n4_ := am (Kd.R_below (pr HO262) hb); have n5_ := am (Kd.R_below (pr HO268) hb); have n6_ := bb BK229 hb; have n7_ := bb BK230 hb; have n8_ := bb BK249 hb; have n9_ := bb BK255 hb; have n10_ := bb BK264 hb; have n11_ := am (below_step (pb HB) hb); have n12_ := am (hbox); have n13_ := am ((by rw [hg]; exact (below_size (pb HB)) : w.heap.size ≤ gb270)); have n14_ := am ((by rw [hg]; exact (below_size (pb HB)) : w.heap.size ≤ gb270)); have n15_ := am ((by rw [hg]; exact Nat.ne_of_lt (bl BK229) : gb229 ≠ gb270)); have n16_ := am ((by rw [hg]; exact Nat.ne_of_gt (bl BK229) : gb270 ≠ gb229)); have n17_ := am ((by rw [hg]; exact Nat.ne_of_lt (bl BK230) : gb230 ≠ gb270)); have n18_ := am ((by rw [hg]; exact Nat.ne_of_gt (bl BK230) : gb270 ≠ gb230)); have n19_ := am ((by rw [hg]; exact Nat.ne_of_lt (bl BK249) : gb249 ≠ gb270)); have n20_ := am ((by rw [hg]; exact Nat.ne_of_gt (bl BK249) : gb270 ≠ gb249)); have n21_ := am ((by rw [hg]; exact Nat.ne_of_lt (bl BK255) : gb255 ≠ gb270)); have n22_ := am ((by rw [hg]; exact Nat.ne_of_gt (bl BK255) : gb270 ≠ gb255)); have n23_ := am ((by rw [hg]; exact Nat.ne_of_lt (bl BK264) : gb264 ≠ gb270)); have n24_ := am ((by rw [hg]; exact Nat.ne_of_gt (bl BK264) : gb270 ≠ gb264)); clear HO_230001 HO_231001 HO_250001 HO_256001 HO262 HO268 BK229 BK230 BK249 BK255 BK264 HB; have HO_230001 := n0_; have HO_231001 := n1_; have HO_250001 := n2_; have HO_256001 := n3_; have HO262 := n4_; have HO268 := n5_; have BK229 := n6_; have BK230 := n7_; have BK249 := n8_; have BK255 := n9_; have BK264 := n10_; have HB := n11_; have BK270 := n12_; have GW270 := n13_; have GE270 := n14_; have NB229_270 := n15_; have NB270_229 := n16_; have NB230_270 := n17_; have NB270_230 := n18_; have NB249_270 := n19_; have NB270_249 := n20_; have NB255_270 := n21_; have NB270_255 := n22_; have NB264_270 := n23_; have NB270_264 := n24_; clear n0_ n1_ n2_ n3_ n4_ n5_ n6_ n7_ n8_ n9_ n10_ n11_ n12_ n13_ n14_ n15_ n16_ n17_ n18_ n19_ n20_ n21_ n22_ n23_ n24_ hb hbox hg; have hnb102 := NB270_229.out; have hnc102 := NB229_270.out; have hnb103 := NB270_230.out; have hnc103 := NB230_270.out; have hnb104 := NB270_249.out; have hnc104 := NB249_270.out; have hnb105 := NB270_255.out; have hnc105 := NB255_270.out; have hnb106 := NB270_264.out; have hnc106 := NB264_270.out; have hcz107_0 : w101.cell? ⟨gb270, 0, none⟩ = some (.int .i64 0) := (blk_cell BK270.out 0).trans rfl; have hcz107_1 : w101.cell? ⟨gb270, 1, none⟩ = some (.slice none 0 0) := (blk_cell BK270.out 1).trans rfl; have hfz107_0 := blk_frozen BK270.out 0; have hfz107_1 := blk_frozen BK270.out 1; obtain ⟨Ao108, co108, eo108⟩ := Kd.R_slice HO268.out; subst eo108; have hcz109_0 : w101.cell? ⟨gb229, 0, none⟩ = some (.int .i64 t231) := (blk_cell BK229.out 0).trans rfl; have hcz109_1 : w101.cell? ⟨gb229, 1, none⟩ = some (.slice Ao16 t232.length co16) := (blk_cell BK229.out 1).trans rfl; have hfz109_0 := blk_frozen BK229.out 0; have hfz109_1 := blk_frozen BK229.out 1) | ((with_reducible refine gate_callee (f := 21) rfl ?_); refine goesL_ (some 84) rfl rfl Tryd.func21 (by kernel_rfl) rfl #[.agg #[.int .i64 t231, .slice Ao16 t232.length co16]] rfl (by (try simp only [List.map_toArray, List.map_cons, List.map_nil]); first | done | rfl | (simp only [List.length_drop, List.length_take]; rfl)) ?_; (with_reducible refine (bitrow_Count.calls kj8 t231 _ _ t232 t271 t272 _ ?side1 ?side2 A66.out).mono ?_); (case side1 => refine (Kd.V_reads' (e := 90) (base := w.heap.size) (ok := fun k_ => (((((some k_ ≠ (.slice Ao31 t245.length co31 : Value).ownBlock ∧ (some k_ ≠ (.slice Ao40 t251.length co40 : Value).ownBlock ∧ (k_ ≠ gb229 ∧ (k_ ≠ gb230 ∧ (k_ ≠ gb249 ∧ k_ ≠ gb255))))) ∧ some k_ ≠ (.slice Ao96 t260.length co96 : Value).ownBlock) ∧ k_ ≠ gb264) ∧ some k_ ≠ (.slice Ao108 t266.length co108 : Value).ownBlock) ∧ k_ ≠ gb270)) (n := t232.length) (c := co16) ?_).2.2; exact (by (with_reducible repeat (first | apply Kd.V_alloc | apply Kd.V_drewN | apply Kd.V_drew)); exact (Kd.V_mono (Kd.V_far (p := ⟨gb270, 1, none⟩) (Kd.V_far (p := ⟨gb270, 0, none⟩) (Kd.V_mono HO_230001.out (fun k_ hk => (⟨hk, hk.2⟩ : _ ∧ k_ ≠ gb270))) (fun _ hk => hk.2) (.int .i64 t265)) (fun _ hk => hk.2) (.slice Ao108 t266.length co108)) (fun _ h_ => h_.1)))); (case side2 => exact (Kd.V_reads' HO_230001.out).2.1); rintro e w110 ⟨rfl, hb⟩; refine ⟨_, rfl, ?_⟩; have n0_ := am (Kd.V_below (by (with_reducible repeat (first | apply Kd.V_alloc | apply Kd.V_drewN | apply Kd.V_drew)); exact (Kd.V_mono (Kd.V_far (p := ⟨gb270, 1, none⟩) (Kd.V_far (p := ⟨gb270, 0, none⟩) (Kd.V_mono HO_230001.out (fun k_ hk => (⟨hk, hk.2⟩ : _ ∧ k_ ≠ gb270))) (fun _ hk => hk.2) (.int .i64 t265)) (fun _ hk => hk.2) (.slice Ao108 t266.length co108)) (fun _ h_ => h_.1))) hb); have n1_ := am (Kd.V_below (by (with_reducible repeat (first | apply Kd.V_alloc | apply Kd.V_drewN | apply Kd.V_drew)); exact (Kd.V_mono (Kd.V_far (p := ⟨gb270, 1, none⟩) (Kd.V_far (p := ⟨gb270, 0, none⟩) (Kd.V_mono HO_231001.out (fun k_ hk => (⟨hk, hk.2⟩ : _ ∧ k_ ≠ gb270))) (fun _ hk => hk.2) (.int .i64 t265)) (fun _ hk => hk.2) (.slice Ao108 t266.length co108)) (fun _ h_ => h_.1))) hb); have n2_ := am (Kd.R_below (by (with_reducible repeat (first | apply Kd.R_alloc | apply Kd.R_drewN | apply Kd.R_drew)); exact (Kd.R_mono (Kd.R_far (p := ⟨gb270, 1, none⟩) (Kd.R_far (p := ⟨gb270, 0, none⟩) (Kd.R_types HO_250001.out BK270.out (by decide)) (fun _ hk => hk.2) (.int .i64 t265)) (fun _ hk => hk.2) (.slice Ao108 t266.length co108)) (fun _ h_ => h_.1))) hb); have n3_ := am (Kd.R_below (by (with_reducible repeat (first | apply Kd.R_alloc | apply Kd.R_drewN | apply Kd.R_drew)); exact (Kd.R_mono (Kd.R_far (p := ⟨gb270, 1, none⟩) (Kd.R_far (p := ⟨gb270, 0, none⟩) (Kd.R_types HO_256001.out BK270.out (by decide)) (fun _ hk => hk.2) (.int .i64 t265)) (fun _ hk => hk.2) (.slice Ao108 t266.length co108)) (fun _ h_ => h_.1))) hb); have n4_ := am (Kd.R_below (by (with_reducible repeat (first | apply Kd.R_alloc | apply Kd.R_drewN | apply Kd.R_drew)); exact (Kd.R_mono (Kd.R_far (p := ⟨gb270, 1, none⟩) (Kd.R_far (p := ⟨gb270, 0, none⟩) (Kd.R_types HO262.out BK270.out (by decide)) (fun _ hk => hk.2) (.int .i64 t265)) (fun _ hk => hk.2) (.slice Ao108 t266.length co108)) (fun _ h_ => h_.1))) hb); have n5_ := am (Kd.R_below (by (with_reducible repeat (first | apply Kd.R_alloc | apply Kd.R_drewN | apply Kd.R_drew)); exact (Kd.R_mono (Kd.R_far (p := ⟨gb270, 1, none⟩) (Kd.R_far (p := ⟨gb270, 0, none⟩) (Kd.R_types HO268.out BK270.out (by decide)) (fun _ hk => hk.2) (.int .i64 t265)) (fun _ hk => hk.2) (.slice Ao108 t266.length co108)) (fun _ h_ => h_.1))) hb); have n6_ := am (blk_below (g := gb229) (o := .cells #[.int .i64 t231, .slice Ao16 t232.length co16] 25 (0, 0)) (by (with_reducible repeat (first | refine blk_drewN ?_ _ | refine blk_drew ?_ | refine blk_alloc ?_ _)); refine blk_far ?_ NB229_270.out _; (with_reducible repeat (first | refine blk_drewN ?_ _ | refine blk_drew ?_ | refine blk_alloc ?_ _)); refine blk_far ?_ NB229_270.out _; (with_reducible repeat (first | refine blk_drewN ?_ _ | refine blk_drew ?_ | refine blk_alloc ?_ _)); exact BK229.out) hb); have n7_ := am (blk_below (g := gb230) (o := .cells #[.int .i64 t235, .slice Ao19 t236.length co19] 25 (0, 0)) (by (with_reducible repeat (first | refine blk_drewN ?_ _ | refine blk_drew ?_ | refine blk_alloc ?_ _)); refine blk_far ?_ NB230_270.out _; (with_reducible repeat (first | refine blk_drewN ?_ _ | refine blk_drew ?_ | refine blk_alloc ?_ _)); refine blk_far ?_ NB230_270.out _; (with_reducible repeat (first | refine blk_drewN ?_ _ | refine blk_drew ?_ | refine blk_alloc ?_ _)); exact BK230.out) hb); have n8_ := am (blk_below (g := gb249) (o := .cells #[.int .i64 t244, .slice Ao31 t245.length co31] 25 (0, 0)) (by (with_reducible repeat (first | refine blk_drewN ?_ _ | refine blk_drew ?_ | refine blk_alloc ?_ _)); refine blk_far ?_ NB249_270.out _; (with_reducible repeat (first | refine blk_drewN ?_ _ | refine blk_drew ?_ | refine blk_alloc ?_ _)); refine blk_far ?_ NB249_270.out _; (with_reducible repeat (first | refine blk_drewN ?_ _ | refine blk_drew ?_ | refine blk_alloc ?_ _)); exact BK249.out) hb); have n9_ := am (blk_below (g := gb255) (o := .cells #[.int .i64 t250, .slice Ao40 t251.length co40] 25 (0, 0)) (by (with_reducible repeat (first | refine blk_drewN ?_ _ | refine blk_drew ?_ | refine blk_alloc ?_ _)); refine blk_far ?_ NB255_270.out _; (with_reducible repeat (first | refine blk_drewN ?_ _ | refine blk_drew ?_ | refine blk_alloc ?_ _)); refine blk_far ?_ NB255_270.out _; (with_reducible repeat (first | refine blk_drewN ?_ _ | refine blk_drew ?_ | refine blk_alloc ?_ _)); exact BK255.out) hb); have n10_ := am (blk_below (g := gb264) (o := .cells #[.int .i64 t259, .slice Ao96 t260.length co96] 25 (0, 0)) (by (with_reducible repeat (first | refine blk_drewN ?_ _ | refine blk_drew ?_ | refine blk_alloc ?_ _)); refine blk_far ?_ NB264_270.out _; (with_reducible repeat (first | refine blk_drewN ?_ _ | refine blk_drew ?_ | refine blk_alloc ?_ _)); refine blk_far ?_ NB264_270.out _; (with_reducible repeat (first | refine blk_drewN ?_ _ | refine blk_drew ?_ | refine blk_alloc ?_ _)); exact BK264.out) hb); have n11_ := am (blk_below (g := gb270) (o := .cells #[.int .i64 t265, .slice Ao108 t266.length co108] 25 (0, 0)) (by (with_reducible repeat (first | refine blk_drewN ?_ _ | refine blk_drew ?_ | refine blk_alloc ?_ _)); refine blk_put (cs := #[.int .i64 t265, .slice none 0 0]) ?_ 1 _ rfl; (with_reducible repeat (first | refine blk_drewN ?_ _ | refine blk_drew ?_ | refine blk_alloc ?_ _)); refine blk_put (cs := #[.int .i64 0, .slice none 0 0]) ?_ 0 _ rfl; (with_reducible repeat (first | refine blk_drewN ?_ _ | refine blk_drew ?_ | refine blk_alloc ?_ _)); exact BK270.out) hb); have n12_ := am (below_step (pb HB) hb); clear HO_230001 HO_231001 HO_250001 HO_256001 HO262 HO268 BK229 BK230 BK249 BK255 BK264 BK270 HB; have HO_230001 := n0_; have HO_231001 := n1_; have HO_250001 := n2_; have HO_256001 := n3_; have HO262 := n4_; have HO268 := n5_; have BK229 := n6_; have BK230 := n7_; have BK249 := n8_; have BK255 := n9_; have BK264 := n10_; have BK270 := n11_; have HB := n12_; clear n0_ n1_ n2_ n3_ n4_ n5_ n6_ n7_ n8_ n9_ n10_ n11_ n12_; (try clear hb); (try clear hb2); (try clear hk); (try clear hi); have hcz111_0 : w110.cell? ⟨gb230, 0, none⟩ = some (.int .i64 t235) := (blk_cell BK230.out 0).trans rfl; have hcz111_1 : w110.cell? ⟨gb230, 1, none⟩ = some (.slice Ao19 t236.length co19) := (blk_cell BK230.out 1).trans rfl; have hfz111_0 := blk_frozen BK230.out 0; have hfz111_1 := blk_frozen BK230.out 1) | ((with_reducible refine gate_callee (f := 21) rfl ?_); refine goesL_ (some 89) rfl rfl Tryd.func21 (by kernel_rfl) rfl #[.agg #[.int .i64 t235, .slice Ao19 t236.length co19]] rfl (by (try simp only [List.map_toArray, List.map_cons, List.map_nil]); first | done | rfl | (simp only [List.length_drop, List.length_take]; rfl)) ?_; (with_reducible refine (bitrow_Count.calls kj8 t235 _ _ t236 t273 t274 _ ?side1 ?side2 A67.out).mono ?_); (case side1 => repeat (first | exact (Kd.V_reads' HO_231001.out).2.2 | (with_reducible refine Kd.C_alloc ?_ _) | (with_reducible refine Kd.C_drewN ?_ _) | (with_reducible refine Kd.C_drew ?_))); (case side2 => exact (Kd.V_reads' HO_231001.out).2.1); rintro e w112 ⟨rfl, hb⟩; refine ⟨_, rfl, ?_⟩; have n0_ := am (Kd.V_below (pv HO_230001) hb); have n1_ := am (Kd.V_below (pv HO_231001) hb); have n2_ := am (Kd.R_below (pr HO_250001) hb); have n3_ := am (Kd.R_below (pr HO_256001) hb); have n4_ := am (Kd.R_below (pr HO262) hb); have n5_ := am (Kd.R_below (pr HO268) hb); have n6_ := bb BK229 hb; have n7_ := bb BK230 hb; have n8_ := bb BK249 hb; have n9_ := bb BK255 hb; have n10_ := bb BK264 hb; have n11_ := bb BK270 hb; have n12_ := am (below_step (pb HB) hb); clear HO_230001 HO_231001 HO_250001 HO_256001 HO262 HO268 BK229 BK230 BK249 BK255 BK264 BK270 HB; have HO_230001 := n0_; have HO_231001 := n1_; have HO_250001 := n2_; have HO_256001 := n3_; have HO262 := n4_; have HO268 := n5_; have BK229 := n6_; have BK230 := n7_; have BK249 := n8_; have BK255 := n9_; have BK264 := n10_; have BK270 := n11_; have HB := n12_; clear n0_ n1_ n2_ n3_ n4_ n5_ n6_ n7_ n8_ n9_ n10_ n11_ n12_; (try clear hb); (try clear hb2); (try clear hk); (try clear hi); have hcz113_0 : w112.cell? ⟨gb255, 0, none⟩ = some (.int .i64 t250) := (blk_cell BK255.out 0).trans rfl; have hcz113_1 : w112.cell? ⟨gb255, 1, none⟩ = some (.slice Ao40 t251.length co40) := (blk_cell BK255.out 1).trans rfl; have hfz113_0 := blk_frozen BK255.out 0; have hfz113_1 := blk_frozen BK255.out 1) | ((with_reducible refine gate_callee (f := 21) rfl ?_); refine goesL_ (some 94) rfl rfl Tryd.func21 (by kernel_rfl) rfl #[.agg #[.int .i64 t250, .slice Ao40 t251.length co40]] rfl (by (try simp only [List.map_toArray, List.map_cons, List.map_nil]); first | done | rfl | (simp only [List.length_drop, List.length_take]; rfl)) ?_; (with_reducible refine (bitrow_Count.calls kj8 t250 _ _ t251 t275 t276 _ ?side1 ?side2 A68.out).mono ?_); (case side1 => repeat (first | exact (Kd.R_reads' HO_256001.out).2.2 | (with_reducible refine Kd.C_alloc ?_ _) | (with_reducible refine Kd.C_drewN ?_ _) | (with_reducible refine Kd.C_drew ?_))); (case side2 => exact (Kd.R_reads' HO_256001.out).2.1); rintro e w114 ⟨rfl, hb⟩; refine ⟨_, rfl, ?_⟩; have n0_ := am (Kd.V_below (pv HO_230001) hb); have n1_ := am (Kd.V_below (pv HO_231001) hb); have n2_ := am (Kd.R_below (pr HO_250001) hb); have n3_ := am (Kd.R_below (pr HO_256001) hb); have n4_ := am (Kd.R_below (pr HO262) hb); have n5_ := am (Kd.R_below (pr HO268) hb); have n6_ := bb BK229 hb; have n7_ := bb BK230 hb; have n8_ := bb BK249 hb; have n9_ := bb BK255 hb; have n10_ := bb BK264 hb; have n11_ := bb BK270 hb; have n12_ := am (below_step (pb HB) hb); clear HO_230001 HO_231001 HO_250001 HO_256001 HO262 HO268 BK229 BK230 BK249 BK255 BK264 BK270 HB; have HO_230001 := n0_; have HO_231001 := n1_; have HO_250001 := n2_; have HO_256001 := n3_; have HO262 := n4_; have HO268 := n5_; have BK229 := n6_; have BK230 := n7_; have BK249 := n8_; have BK255 := n9_; have BK264 := n10_; have BK270 := n11_; have HB := n12_; clear n0_ n1_ n2_ n3_ n4_ n5_ n6_ n7_ n8_ n9_ n10_ n11_ n12_; (try clear hb); (try clear hb2); (try clear hk); (try clear hi); have hcz115_0 : w114.cell? ⟨gb264, 0, none⟩ = some (.int .i64 t259) := (blk_cell BK264.out 0).trans rfl; have hcz115_1 : w114.cell? ⟨gb264, 1, none⟩ = some (.slice Ao96 t260.length co96) := (blk_cell BK264.out 1).trans rfl; have hfz115_0 := blk_frozen BK264.out 0; have hfz115_1 := blk_frozen BK264.out 1) | ((with_reducible refine gate_callee (f := 21) rfl ?_); refine goesL_ (some 99) rfl rfl Tryd.func21 (by kernel_rfl) rfl #[.agg #[.int .i64 t259, .slice Ao96 t260.length co96]] rfl (by (try simp only [List.map_toArray, List.map_cons, List.map_nil]); first | done | rfl | (simp only [List.length_drop, List.length_take]; rfl)) ?_; (with_reducible refine (bitrow_Count.calls kj8 t259 _ _ t260 t277 t278 _ ?side1 ?side2 A69.out).mono ?_); (case side1 => repeat (first | exact (Kd.R_reads' HO262.out).2.2 | (with_reducible refine Kd.C_alloc ?_ _) | (with_reducible refine Kd.C_drewN ?_ _) | (with_reducible refine Kd.C_drew ?_))); (case side2 => exact (Kd.R_reads' HO262.out).2.1); rintro e w116 ⟨rfl, hb⟩; refine ⟨_, rfl, ?_⟩; have n0_ := am (Kd.V_below (pv HO_230001) hb); have n1_ := am (Kd.V_below (pv HO_231001) hb); have n2_ := am (Kd.R_below (pr HO_250001) hb); have n3_ := am (Kd.R_below (pr HO_256001) hb); have n4_ := am (Kd.R_below (pr HO262) hb); have n5_ := am (Kd.R_below (pr HO268) hb); have n6_ := bb BK229 hb; have n7_ := bb BK230 hb; have n8_ := bb BK249 hb; have n9_ := bb BK255 hb; have n10_ := bb BK264 hb; have n11_ := bb BK270 hb; have n12_ := am (below_step (pb HB) hb); clear HO_230001 HO_231001 HO_250001 HO_256001 HO262 HO268 BK229 BK230 BK249 BK255 BK264 BK270 HB; have HO_230001 := n0_; have HO_231001 := n1_; have HO_250001 := n2_; have HO_256001 := n3_; have HO262 := n4_; have HO268 := n5_; have BK229 := n6_; have BK230 := n7_; have BK249 := n8_; have BK255 := n9_; have BK264 := n10_; have BK270 := n11_; have HB := n12_; clear n0_ n1_ n2_ n3_ n4_ n5_ n6_ n7_ n8_ n9_ n10_ n11_ n12_; (try clear hb); (try clear hb2); (try clear hk); (try clear hi); have hcz117_0 : w116.cell? ⟨gb270, 0, none⟩ = some (.int .i64 t265) := (blk_cell BK270.out 0).trans rfl; have hcz117_1 : w116.cell? ⟨gb270, 1, none⟩ = some (.slice Ao108 t266.length co108) := (blk_cell BK270.out 1).trans rfl; have hfz117_0 := blk_frozen BK270.out 0; have hfz117_1 := blk_frozen BK270.out 1; have hcz118_0 : w116.cell? ⟨gb229, 0, none⟩ = some (.int .i64 t231) := (blk_cell BK229.out 0).trans rfl; have hcz118_1 : w116.cell? ⟨gb229, 1, none⟩ = some (.slice Ao16 t232.length co16) := (blk_cell BK229.out 1).trans rfl; have hfz118_0 := blk_frozen BK229.out 0; have hfz118_1 := blk_frozen BK229.out 1) | (go_at_call 29; (with_reducible refine (downpourref01_Same.calls kj8 t265 _ _ t266 t231 _ _ t232 true _ ?side1 ?side2 ?side3 ?side4 A76.out).mono ?_); (case side1 => repeat (first | exact (Kd.R_reads' HO268.out).2.2 | (with_reducible refine Kd.C_alloc ?_ _) | (with_reducible refine Kd.C_drewN ?_ _) | (with_reducible refine Kd.C_drew ?_))); (case side2 => exact (Kd.R_reads' HO268.out).2.1); (case side3 => repeat (first | exact (Kd.V_reads' HO_230001.out).2.2 | (with_reducible refine Kd.C_alloc ?_ _) | (with_reducible refine Kd.C_drewN ?_ _) | (with_reducible refine Kd.C_drew ?_))); (case side4 => exact (Kd.V_reads' HO_230001.out).2.1); rintro e w119 ⟨rfl, hb⟩; have n0_ := am (Kd.V_below (pv HO_230001) hb); have n1_ := am (Kd.V_below (pv HO_231001) hb); have n2_ := am (Kd.R_below (pr HO_250001) hb); have n3_ := am (Kd.R_below (pr HO_256001) hb); have n4_ := am (Kd.R_below (pr HO262) hb); have n5_ := am (Kd.R_below (pr HO268) hb); have n6_ := bb BK229 hb; have n7_ := bb BK230 hb; have n8_ := bb BK249 hb; have n9_ := bb BK255 hb; have n10_ := bb BK264 hb; have n11_ := bb BK270 hb; have n12_ := am (below_step (pb HB) hb); clear HO_230001 HO_231001 HO_250001 HO_256001 HO262 HO268 BK229 BK230 BK249 BK255 BK264 BK270 HB; have HO_230001 := n0_; have HO_231001 := n1_; have HO_250001 := n2_; have HO_256001 := n3_; have HO262 := n4_; have HO268 := n5_; have BK229 := n6_; have BK230 := n7_; have BK249 := n8_; have BK255 := n9_; have BK264 := n10_; have BK270 := n11_; have HB := n12_; clear n0_ n1_ n2_ n3_ n4_ n5_ n6_ n7_ n8_ n9_ n10_ n11_ n12_; (try clear hb); (try clear hb2); (try clear hk); (try clear hi); have hcz120_0 : w119.cell? ⟨gb255, 0, none⟩ = some (.int .i64 t250) := (blk_cell BK255.out 0).trans rfl; have hcz120_1 : w119.cell? ⟨gb255, 1, none⟩ = some (.slice Ao40 t251.length co40) := (blk_cell BK255.out 1).trans rfl; have hfz120_0 := blk_frozen BK255.out 0; have hfz120_1 := blk_frozen BK255.out 1) | (go_at_call 31; (with_reducible refine (bitrow_Right.calls t250 _ _ t251 true _ ?side1 ?side2 A79.out).mono ?_); (case side1 => repeat (first | exact (Kd.R_reads' HO_256001.out).2.2 | (with_reducible refine Kd.C_alloc ?_ _) | (with_reducible refine Kd.C_drewN ?_ _) | (with_reducible refine Kd.C_drew ?_))); (case side2 => exact (Kd.R_reads' HO_256001.out).2.1); rintro e w121 ⟨rfl, hb⟩; have n0_ := am (Kd.V_below (pv HO_230001) hb); have n1_ := am (Kd.V_below (pv HO_231001) hb); have n2_ := am (Kd.R_below (pr HO_250001) hb); have n3_ := am (Kd.R_below (pr HO_256001) hb); have n4_ := am (Kd.R_below (pr HO262) hb); have n5_ := am (Kd.R_below (pr HO268) hb); have n6_ := bb BK229 hb; have n7_ := bb BK230 hb; have n8_ := bb BK249 hb; have n9_ := bb BK255 hb; have n10_ := bb BK264 hb; have n11_ := bb BK270 hb; have n12_ := am (below_step (pb HB) hb); clear HO_230001 HO_231001 HO_250001 HO_256001 HO262 HO268 BK229 BK230 BK249 BK255 BK264 BK270 HB; have HO_230001 := n0_; have HO_231001 := n1_; have HO_250001 := n2_; have HO_256001 := n3_; have HO262 := n4_; have HO268 := n5_; have BK229 := n6_; have BK230 := n7_; have BK249 := n8_; have BK255 := n9_; have BK264 := n10_; have BK270 := n11_; have HB := n12_; clear n0_ n1_ n2_ n3_ n4_ n5_ n6_ n7_ n8_ n9_ n10_ n11_ n12_; (try clear hb); (try clear hb2); (try clear hk); (try clear hi); have hcz122_0 : w121.cell? ⟨gb264, 0, none⟩ = some (.int .i64 t259) := (blk_cell BK264.out 0).trans rfl; have hcz122_1 : w121.cell? ⟨gb264, 1, none⟩ = some (.slice Ao96 t260.length co96) := (blk_cell BK264.out 1).trans rfl; have hfz122_0 := blk_frozen BK264.out 0; have hfz122_1 := blk_frozen BK264.out 1) | (go_at_call 31; (with_reducible refine (bitrow_Right.calls t259 _ _ t260 t281 _ ?side1 ?side2 A81.out).mono ?_); (case side1 => repeat (first | exact (Kd.R_reads' HO262.out).2.2 | (with_reducible refine Kd.C_alloc ?_ _) | (with_reducible refine Kd.C_drewN ?_ _) | (with_reducible refine Kd.C_drew ?_))); (case side2 => exact (Kd.R_reads' HO262.out).2.1); rintro e w123 ⟨rfl, hb⟩; have n0_ := am (Kd.V_below (pv HO_230001) hb); have n1_ := am (Kd.V_below (pv HO_231001) hb); have n2_ := am (Kd.R_below (pr HO_250001) hb); have n3_ := am (Kd.R_below (pr HO_256001) hb); have n4_ := am (Kd.R_below (pr HO262) hb); have n5_ := am (Kd.R_below (pr HO268) hb); have n6_ := bb BK229 hb; have n7_ := bb BK230 hb; have n8_ := bb BK249 hb; have n9_ := bb BK255 hb; have n10_ := bb BK264 hb; have n11_ := bb BK270 hb; have n12_ := am (below_step (pb HB) hb); clear HO_230001 HO_231001 HO_250001 HO_256001 HO262 HO268 BK229 BK230 BK249 BK255 BK264 BK270 HB; have HO_230001 := n0_; have HO_231001 := n1_; have HO_250001 := n2_; have HO_256001 := n3_; have HO262 := n4_; have HO268 := n5_; have BK229 := n6_; have BK230 := n7_; have BK249 := n8_; have BK255 := n9_; have BK264 := n10_; have BK270 := n11_; have HB := n12_; clear n0_ n1_ n2_ n3_ n4_ n5_ n6_ n7_ n8_ n9_ n10_ n11_ n12_; (try clear hb); (try clear hb2); (try clear hk); (try clear hi)))
               go_ret
               exact ⟨by first | rfl | (simp [errW_none, errW_some] <;> rfl) | (simp [*, errW_none, errW_some] <;> rfl), pb HB⟩
              ·
               replace c80 := Bool.eq_false_iff.mpr c80
               subst c80
               have H1 : (none) = some r := by rw [if_neg (show ¬ (false = true) by decide)] at H; exact H
               clear H
               have H := H1
               clear H1
               exact absurd H (by simp)
             ·
              rw [if_neg c78] at H
              exact absurd H (by simp)
            ·
             replace c77 := Bool.eq_false_iff.mpr c77
             subst c77
             have H1 : (none) = some r := by rw [if_neg (show ¬ (false = true) by decide)] at H; exact H
             clear H
             have H := H1
             clear H1
             exact absurd H (by simp)
           ·
            rw [if_neg c75] at H
            exact absurd H (by simp)
          ·
           rw [if_neg c74] at H
           exact absurd H (by simp)
         ·
          rw [if_neg c73] at H
          exact absurd H (by simp)
        ·
         rw [if_neg c72] at H
         exact absurd H (by simp)
       ·
        rw [if_neg c71] at H
        exact absurd H (by simp)
      ·
       rw [if_neg c70] at H
       exact absurd H (by simp)
     ·
      rw [if_neg c63] at H
      have c63b0 : (t254 == 0) = false := beq_eq_false_iff_ne.mpr c63
      have c63b1 : (t254 != 0) = true := bne_iff_ne.mpr c63
      replace H := Option.bind_eq_some_iff.mp H
      obtain ⟨t258, A1240, H⟩ := H
      replace H : (some t258) = some r := H
      have A124 := Aside0.mk A1240
      clear A1240
      obtain rfl := Option.some.inj H
      have hnb125 := NB255_229.out
      have hnc125 := NB229_255.out
      have hnb126 := NB255_230.out
      have hnc126 := NB230_255.out
      have hnb127 := NB255_249.out
      have hnc127 := NB249_255.out
      have hcz128_0 : wc.cell? ⟨gb255, 0, none⟩ = some (.int .i64 t250) := (blk_cell BK255.out 0).trans rfl
      have hcz128_1 : wc.cell? ⟨gb255, 1, none⟩ = some (.slice Ao40 t251.length co40) := (blk_cell BK255.out 1).trans rfl
      have hfz128_0 := blk_frozen BK255.out 0
      have hfz128_1 := blk_frozen BK255.out 1
      go_wp2_with (first | ((with_reducible refine gate_callee (f := 29) rfl ?_); refine goesL_ (some 69) rfl rfl Tryd.func29 (by kernel_rfl) rfl #[.agg #[.int .i64 t250, .slice Ao40 t251.length co40], .agg #[.int .i64 0, .slice none 0 0]] rfl (by (try simp only [List.map_toArray, List.map_cons, List.map_nil]); first | done | rfl | (simp only [List.length_drop, List.length_take]; rfl)) ?_; (refine calls_of_args (args' := #[.agg #[.int .i64 t250, .slice Ao40 t251.length co40], .agg #[.int .i64 0, .slice none ([] : List Int).length 0]]) (by rfl) ?_; with_reducible refine (downpourref01_Same.calls kj8 t250 _ _ t251 0 _ _ ([] : List Int) t258 _ ?side1 ?side2 ?side3 ?side4 A124.out).mono ?_); (case side1 => repeat (first | exact (Kd.R_reads' HO_256001.out).2.2 | (with_reducible refine Kd.C_alloc ?_ _) | (with_reducible refine Kd.C_drewN ?_ _) | (with_reducible refine Kd.C_drew ?_))); (case side2 => exact (Kd.R_reads' HO_256001.out).2.1); (case side3 => exact Kd.C_nil _ _); (case side4 => exact Nat.le_refl _); rintro e w129 ⟨rfl, hb⟩; refine ⟨_, rfl, ?_⟩; have n0_ := am (Kd.V_below (pv HO_230001) hb); have n1_ := am (Kd.V_below (pv HO_231001) hb); have n2_ := am (Kd.R_below (pr HO_250001) hb); have n3_ := am (Kd.R_below (pr HO_256001) hb); have n4_ := bb BK229 hb; have n5_ := bb BK230 hb; have n6_ := bb BK249 hb; have n7_ := bb BK255 hb; have n8_ := am (below_step (pb HB) hb); clear HO_230001 HO_231001 HO_250001 HO_256001 BK229 BK230 BK249 BK255 HB; have HO_230001 := n0_; have HO_231001 := n1_; have HO_250001 := n2_; have HO_256001 := n3_; have BK229 := n4_; have BK230 := n5_; have BK249 := n6_; have BK255 := n7_; have HB := n8_; clear n0_ n1_ n2_ n3_ n4_ n5_ n6_ n7_ n8_; (try clear hb); (try clear hb2); (try clear hk); (try clear hi)))
      go_ret
      exact ⟨by first | rfl | (simp [errW_none, errW_some] <;> rfl) | (simp [*, errW_none, errW_some] <;> rfl), pb HB⟩
 ·
  rw [if_neg c6] at H
  have c6b0 : (t242 == 0) = false := beq_eq_false_iff_ne.mpr c6
  have c6b1 : (t242 != 0) = true := bne_iff_ne.mpr c6
  replace H := Option.bind_eq_some_iff.mp H
  obtain ⟨t243, A1300, H⟩ := H
  replace H : (if t243 = true then (some ((t239.length : Int) == 0)) else (none)) = some r := H
  have A130 := Aside0.mk A1300
  clear A1300
  by_cases c131 : t243 = true
  ·
   subst c131
   have H1 : (some ((t239.length : Int) == 0)) = some r := by rw [if_pos rfl] at H; exact H
   clear H
   have H := H1
   clear H1
   obtain rfl := Option.some.inj H
   go_enter Tryd.func5, Tryd.ntmps5
   try go_wp2_with (first | ((with_reducible refine gate_dst (N := 2) rfl ?_); (try (refine gate_guard (by rfl) ?_; dsimp only)); refine box_event ?hg (N := 2) ?hd (cs := #[.int .i64 a0_0, .slice A0_1 l0_1.length c0_1]) (t := 25) ?hr ?_; (case hd => rfl); (case hg => rfl); (case hr => first | (go_simp; done) | (go_simp; rfl)); intro gb229 hg w132 hbox hb; have n0_ := am (below_step (pb HB) hb); have n1_ := am (hbox); have n2_ := am ((by rw [hg]; exact (below_size (pb HB)) : w.heap.size ≤ gb229)); have n3_ := am ((by rw [hg]; exact (below_size (pb HB)) : w.heap.size ≤ gb229)); clear HB; have HB := n0_; have BK229 := n1_; have GW229 := n2_; have GE229 := n3_; clear n0_ n1_ n2_ n3_ hb hbox hg) | ((with_reducible refine gate_dst (N := 3) rfl ?_); (try (refine gate_guard (by rfl) ?_; dsimp only)); refine box_event ?hg (N := 3) ?hd (cs := #[.int .i64 a1_0, .slice A1_1 l1_1.length c1_1]) (t := 25) ?hr ?_; (case hd => rfl); (case hg => rfl); (case hr => first | (go_simp; done) | (go_simp; rfl)); intro gb230 hg w133 hbox hb; have n0_ := bb BK229 hb; have n1_ := am (below_step (pb HB) hb); have n2_ := am (hbox); have n3_ := am ((by rw [hg]; exact (below_size (pb HB)) : w.heap.size ≤ gb230)); have n4_ := am ((by rw [hg]; exact (below_size (pb HB)) : w.heap.size ≤ gb230)); have n5_ := am ((by rw [hg]; exact Nat.ne_of_lt (bl BK229) : gb229 ≠ gb230)); have n6_ := am ((by rw [hg]; exact Nat.ne_of_gt (bl BK229) : gb230 ≠ gb229)); clear BK229 HB; have BK229 := n0_; have HB := n1_; have BK230 := n2_; have GW230 := n3_; have GE230 := n4_; have NB229_230 := n5_; have NB230_229 := n6_; clear n0_ n1_ n2_ n3_ n4_ n5_ n6_ hb hbox hg))
   have n0_ := am (blk_drew BK229.out)
   have n1_ := am (blk_drew BK230.out)
   have n2_ := am (below_drew1 HB.out)
   clear BK229
   clear BK230
   clear HB
   have BK229 := n0_
   have BK230 := n1_
   have HB := n2_
   clear n0_ n1_ n2_
   refine start_ (n := 6) (S := fun w' => w'.cell? ⟨gb229, 0, none⟩ = some (.int .i64 a0_0) ∧ w'.cell? ⟨gb229, 1, none⟩ = some (.slice A0_1 l0_1.length c0_1) ∧ w'.cell? ⟨gb230, 0, none⟩ = some (.int .i64 a1_0) ∧ w'.cell? ⟨gb230, 1, none⟩ = some (.slice A1_1 l1_1.length c1_1)) (ds := [4, 5]) #[F, F, F, F, F, F] (by kernel_rfl) rfl rfl ⟨(blk_cell BK229.out 0).trans rfl, (blk_cell BK229.out 1).trans rfl, (blk_cell BK230.out 0).trans rfl, (blk_cell BK230.out 1).trans rfl⟩ (fun hHeld => ?_)
   generalize w133.drew = w134 at BK229 BK230 HB hHeld ⊢
   refine take_ (i := 0) (N := some 23) (v := ?_) (a' := ?_) #[T, F, F, F, F, F] rfl rfl (by kernel_rfl) (fun _ _ _ h => h) (Or.inl ⟨by rfl, ?_⟩) hHeld ?_ ?_
   rotate_left
   ·
    rintro w' ⟨s0, s1, s2, s3⟩
    go_simp
    with_reducible rfl
   rotate_left
   ·
    simp only [Act.put, q1, q2, q3, i64_w, i32_w]
    rfl
   refine take_ (i := 2) (N := some 25) (v := ?_) (a' := ?_) #[T, F, T, F, F, F] rfl rfl (by kernel_rfl) (fun _ _ _ h => h) (Or.inl ⟨by rfl, ?_⟩) hHeld ?_ ?_
   rotate_left
   ·
    rintro w' ⟨s0, s1, s2, s3⟩
    go_simp
    with_reducible rfl
   rotate_left
   ·
    simp only [Act.put, q1, q2, q3, i64_w, i32_w]
    rfl
   refine one_ (i := 1) (N := some 24) #[T, T, T, F, F, F] rfl rfl (by kernel_rfl) (by decide) (fun K hK => ?_)
   refine goes_ Tryd.func18 (by kernel_rfl) rfl #[.agg #[.int .i64 a0_0, .slice A0_1 l0_1.length c0_1]] (by rfl) rfl rfl (by (try simp only [List.map_toArray, List.map_cons, List.map_nil]); first | done | rfl | (simp only [List.length_drop, List.length_take]; rfl)) ?_
   with_reducible refine (downpourlaw01_few.calls a0_0 (fun k_ => k_ < w.heap.size) _ _ l0_1 t231 t232 _ ?side1 A3.out).mono ?_
   (case side1 => exact Kd.V_mk HC0_1.out (Kd.F_below (Kd.C_F (Kd.heap_int .u64) HR0_1.out) (pb HB)))
   rintro e w135 ⟨v233, rfl, ho0, hb⟩
   refine ⟨_, rfl, ?_⟩
   have n0_ := am (Kd.V_lower (Kd.V_mono (ok' := fun k_ => k_ ≠ gb229 ∧ k_ ≠ gb230) ho0 (fun k_ hk_ => ⟨Or.elim hk_ (fun hs_ => fun e_ => Nat.not_le.2 hs_ (by rw [e_]; exact GW229.out)) (fun hn_ => (Kd.freshB (g := gb229) (o := .cells #[.int .i64 a0_0, .slice A0_1 l0_1.length c0_1] 25 (0, 0)) (pk BK229) k_ hn_)), Or.elim hk_ (fun hs_ => fun e_ => Nat.not_le.2 hs_ (by rw [e_]; exact GW230.out)) (fun hn_ => (Kd.freshB (g := gb230) (o := .cells #[.int .i64 a1_0, .slice A1_1 l1_1.length c1_1] 25 (0, 0)) (pk BK230) k_ hn_))⟩)) (below_size (pb HB)))
   have n1_ := bb BK229 hb
   have n2_ := bb BK230 hb
   have n3_ := am (below_step (pb HB) hb)
   clear BK229
   clear BK230
   clear HB
   have HO234 := n0_
   have BK229 := n1_
   have BK230 := n2_
   have HB := n3_
   clear n0_ n1_ n2_ n3_
   (try clear hb)
   (try clear hb2)
   (try clear hk)
   (try clear hi)
   (try clear ho0)
   refine hK.out _ _ ⟨(blk_cell BK229.out 0).trans rfl, (blk_cell BK229.out 1).trans rfl, (blk_cell BK230.out 0).trans rfl, (blk_cell BK230.out 1).trans rfl⟩ (fun hHeld => ?_)
   clear hK K
   refine norm_ (a' := ?_) ?_ ?_
   rotate_left
   ·
    show Act.put _ (some 24) _ = _
    simp only [Act.put, q1, q2, q3, i64_w, i32_w]
    rfl
   refine one_ (i := 3) (N := some 26) #[T, T, T, T, F, F] rfl rfl (by kernel_rfl) (by decide) (fun K hK => ?_)
   refine goes_ Tryd.func18 (by kernel_rfl) rfl #[.agg #[.int .i64 a1_0, .slice A1_1 l1_1.length c1_1]] (by rfl) rfl rfl (by (try simp only [List.map_toArray, List.map_cons, List.map_nil]); first | done | rfl | (simp only [List.length_drop, List.length_take]; rfl)) ?_
   with_reducible refine (downpourlaw01_few.calls a1_0 (fun k_ => k_ < w.heap.size) _ _ l1_1 t235 t236 _ ?side1 A4.out).mono ?_
   (case side1 => exact Kd.V_mk HC1_1.out (Kd.F_below (Kd.C_F (Kd.heap_int .u64) HR1_1.out) (pb HB)))
   rintro e w136 ⟨v237, rfl, ho0, hb⟩
   refine ⟨_, rfl, ?_⟩
   have n0_ := am (Kd.V_below (pv HO234) hb)
   have n1_ := am (Kd.V_lower (Kd.V_mono (ok' := fun k_ => k_ ≠ gb229 ∧ k_ ≠ gb230) ho0 (fun k_ hk_ => ⟨Or.elim hk_ (fun hs_ => fun e_ => Nat.not_le.2 hs_ (by rw [e_]; exact GW229.out)) (fun hn_ => (Kd.freshB (g := gb229) (o := .cells #[.int .i64 a0_0, .slice A0_1 l0_1.length c0_1] 25 (0, 0)) (pk BK229) k_ hn_)), Or.elim hk_ (fun hs_ => fun e_ => Nat.not_le.2 hs_ (by rw [e_]; exact GW230.out)) (fun hn_ => (Kd.freshB (g := gb230) (o := .cells #[.int .i64 a1_0, .slice A1_1 l1_1.length c1_1] 25 (0, 0)) (pk BK230) k_ hn_))⟩)) (below_size (pb HB)))
   have n2_ := bb BK229 hb
   have n3_ := bb BK230 hb
   have n4_ := am (below_step (pb HB) hb)
   clear HO234
   clear BK229
   clear BK230
   clear HB
   have HO234 := n0_
   have HO238 := n1_
   have BK229 := n2_
   have BK230 := n3_
   have HB := n4_
   clear n0_ n1_ n2_ n3_ n4_
   (try clear hb)
   (try clear hb2)
   (try clear hk)
   (try clear hi)
   (try clear ho0)
   obtain ⟨Ao138, co138, eo138⟩ := Kd.V_slice HO234.out
   (first | subst eo138 | (injection eo138 with f1_ f2_ f3_; have f4_ := f1_.symm; have f5_ := f3_.symm; clear f1_ f2_ f3_; subst f4_; subst f5_))
   obtain ⟨Ao141, co141, eo141⟩ := Kd.V_slice HO238.out
   (first | subst eo141 | (injection eo141 with f1_ f2_ f3_; have f4_ := f1_.symm; have f5_ := f3_.symm; clear f1_ f2_ f3_; subst f4_; subst f5_))
   refine hK.out _ _ ⟨(blk_cell BK229.out 0).trans rfl, (blk_cell BK229.out 1).trans rfl, (blk_cell BK230.out 0).trans rfl, (blk_cell BK230.out 1).trans rfl⟩ (fun hHeld => ?_)
   clear hK K
   refine norm_ (a' := ?_) ?_ ?_
   rotate_left
   ·
    show Act.put _ (some 26) _ = _
    simp only [Act.put, q1, q2, q3, i64_w, i32_w]
    rfl
   refine last_ (i := 4) (N := none) #[T, T, T, T, T, F] rfl rfl (by kernel_rfl) (by decide) (fun K hK => ?_)
   have hs137 : w136.cell? ⟨gb229, 0, none⟩ = some (.int .i64 a0_0) := (blk_cell BK229.out 0).trans rfl
   have hfs137 := blk_frozen BK229.out 0
   have hns137_1 := NB230_229.out
   have hms137_1 := NB229_230.out
   have hs139 : w136.cell? ⟨gb229, 1, none⟩ = some (.slice A0_1 l0_1.length c0_1) := (blk_cell BK229.out 1).trans rfl
   have hfs139 := blk_frozen BK229.out 1
   have hns139_1 := NB230_229.out
   have hms139_1 := NB229_230.out
   refine skip_ (w1 := ?_) (by rfl) rfl ?_ ?_
   rotate_left
   ·
    go_simp
    rfl
   refine hK.out _ _ ?_
   clear hK K
   refine last_ (i := 5) (N := none) #[T, T, T, T, T, T] rfl rfl (by kernel_rfl) (by decide) (fun K hK => ?_)
   have hs140 : w136.cell? ⟨gb230, 0, none⟩ = some (.int .i64 a1_0) := (blk_cell BK230.out 0).trans rfl
   have hfs140 := blk_frozen BK230.out 0
   have hns140_0 := NB229_230.out
   have hms140_0 := NB230_229.out
   have hs142 : w136.cell? ⟨gb230, 1, none⟩ = some (.slice A1_1 l1_1.length c1_1) := (blk_cell BK230.out 1).trans rfl
   have hfs142 := blk_frozen BK230.out 1
   have hns142_0 := NB229_230.out
   have hms142_0 := NB230_229.out
   refine skip_ (w1 := ?_) (by rfl) rfl ?_ ?_
   rotate_left
   ·
    go_simp
    rfl
   refine hK.out _ _ ?_
   clear hK K
   refine done_ (by kernel_rfl) ?_
   have hnb143 := NB229_230.out
   have hnc143 := NB230_229.out
   have hcz144_0 : w136.cell? ⟨gb229, 0, none⟩ = some (.int .i64 a0_0) := (blk_cell BK229.out 0).trans rfl
   have hcz144_1 : w136.cell? ⟨gb229, 1, none⟩ = some (.slice A0_1 l0_1.length c0_1) := (blk_cell BK229.out 1).trans rfl
   have hfz144_0 := blk_frozen BK229.out 0
   have hfz144_1 := blk_frozen BK229.out 1
   try go_wp2_with (first | ((with_reducible refine gate_callee (f := 19) rfl ?_); refine goesL_ (some 29) rfl rfl Tryd.func19 (by kernel_rfl) rfl #[.agg #[.int .i64 t231, .slice Ao138 t232.length co138]] rfl (by (try simp only [List.map_toArray, List.map_cons, List.map_nil]); first | done | rfl | (simp only [List.length_drop, List.length_take]; rfl)) ?_; (with_reducible refine (bitrow_Places.calls t231 _ _ t232 t239 t242 _ ?side3 ?side1 ?side2 A5.out).mono ?_); (case side1 => refine (Kd.V_reads' (e := 90) (base := w.heap.size) (ok := fun k_ => (k_ ≠ gb229 ∧ k_ ≠ gb230)) (n := t232.length) (c := co138) ?_).2.2; exact (by (with_reducible repeat (first | apply Kd.V_alloc | apply Kd.V_drewN | apply Kd.V_drew)); exact (Kd.V_mono (Kd.V_mono (Kd.V_far (p := ⟨gb230, 1, none⟩) (Kd.V_far (p := ⟨gb230, 0, none⟩) (Kd.V_far (p := ⟨gb229, 1, none⟩) (Kd.V_far (p := ⟨gb229, 0, none⟩) (Kd.V_mono (Kd.V_mono HO234.out (fun k_ hk => (⟨hk, hk.1⟩ : _ ∧ k_ ≠ gb229))) (fun k_ hk => (⟨hk, hk.1.2⟩ : _ ∧ k_ ≠ gb230))) (fun _ hk => hk.1.2) (.int .i64 t231)) (fun _ hk => hk.1.2) (.slice Ao138 t232.length co138)) (fun _ hk => hk.2) (.int .i64 t235)) (fun _ hk => hk.2) (.slice Ao141 t236.length co141)) (fun _ h_ => h_.1)) (fun _ h_ => h_.1)))); (case side2 => exact (Kd.V_reads' HO234.out).2.1); (case side3 => exact TabOk.below HT.out (pb HB)); rintro e w145 ⟨v240, rfl, ho0, hb⟩; refine ⟨_, rfl, ?_⟩; have n0_ := am (Kd.V_elder' (by (with_reducible repeat (first | apply Kd.V_alloc | apply Kd.V_drewN | apply Kd.V_drew)); exact (Kd.V_mono (Kd.V_mono (Kd.V_far (p := ⟨gb230, 1, none⟩) (Kd.V_far (p := ⟨gb230, 0, none⟩) (Kd.V_far (p := ⟨gb229, 1, none⟩) (Kd.V_far (p := ⟨gb229, 0, none⟩) (Kd.V_mono (Kd.V_mono HO234.out (fun k_ hk => (⟨hk, hk.1⟩ : _ ∧ k_ ≠ gb229))) (fun k_ hk => (⟨hk, hk.1.2⟩ : _ ∧ k_ ≠ gb230))) (fun _ hk => hk.1.2) (.int .i64 t231)) (fun _ hk => hk.1.2) (.slice Ao138 t232.length co138)) (fun _ hk => hk.2) (.int .i64 t235)) (fun _ hk => hk.2) (.slice Ao141 t236.length co141)) (fun _ h_ => h_.1)) (fun _ h_ => h_.1))) (Kd.R_base ho0) hb); have n1_ := am (Kd.V_elder' (by (with_reducible repeat (first | apply Kd.V_alloc | apply Kd.V_drewN | apply Kd.V_drew)); exact (Kd.V_mono (Kd.V_mono (Kd.V_far (p := ⟨gb230, 1, none⟩) (Kd.V_far (p := ⟨gb230, 0, none⟩) (Kd.V_far (p := ⟨gb229, 1, none⟩) (Kd.V_far (p := ⟨gb229, 0, none⟩) (Kd.V_mono (Kd.V_mono HO238.out (fun k_ hk => (⟨hk, hk.1⟩ : _ ∧ k_ ≠ gb229))) (fun k_ hk => (⟨hk, hk.1.2⟩ : _ ∧ k_ ≠ gb230))) (fun _ hk => hk.1.2) (.int .i64 t231)) (fun _ hk => hk.1.2) (.slice Ao138 t232.length co138)) (fun _ hk => hk.2) (.int .i64 t235)) (fun _ hk => hk.2) (.slice Ao141 t236.length co141)) (fun _ h_ => h_.1)) (fun _ h_ => h_.1))) (Kd.R_base ho0) hb); have n2_ := am (Kd.R_lower ho0 (below_size (pb HB))); have n3_ := am (blk_below (g := gb229) (o := .cells #[.int .i64 t231, .slice Ao138 t232.length co138] 25 (0, 0)) (by (with_reducible repeat (first | refine blk_drewN ?_ _ | refine blk_drew ?_ | refine blk_alloc ?_ _)); refine blk_far ?_ NB229_230.out _; (with_reducible repeat (first | refine blk_drewN ?_ _ | refine blk_drew ?_ | refine blk_alloc ?_ _)); refine blk_far ?_ NB229_230.out _; (with_reducible repeat (first | refine blk_drewN ?_ _ | refine blk_drew ?_ | refine blk_alloc ?_ _)); refine blk_put (cs := #[.int .i64 t231, .slice A0_1 l0_1.length c0_1]) ?_ 1 _ rfl; (with_reducible repeat (first | refine blk_drewN ?_ _ | refine blk_drew ?_ | refine blk_alloc ?_ _)); refine blk_put (cs := #[.int .i64 a0_0, .slice A0_1 l0_1.length c0_1]) ?_ 0 _ rfl; (with_reducible repeat (first | refine blk_drewN ?_ _ | refine blk_drew ?_ | refine blk_alloc ?_ _)); exact BK229.out) hb); have n4_ := am (blk_below (g := gb230) (o := .cells #[.int .i64 t235, .slice Ao141 t236.length co141] 25 (0, 0)) (by (with_reducible repeat (first | refine blk_drewN ?_ _ | refine blk_drew ?_ | refine blk_alloc ?_ _)); refine blk_put (cs := #[.int .i64 t235, .slice A1_1 l1_1.length c1_1]) ?_ 1 _ rfl; (with_reducible repeat (first | refine blk_drewN ?_ _ | refine blk_drew ?_ | refine blk_alloc ?_ _)); refine blk_put (cs := #[.int .i64 a1_0, .slice A1_1 l1_1.length c1_1]) ?_ 0 _ rfl; (with_reducible repeat (first | refine blk_drewN ?_ _ | refine blk_drew ?_ | refine blk_alloc ?_ _)); refine blk_far ?_ NB230_229.out _; (with_reducible repeat (first | refine blk_drewN ?_ _ | refine blk_drew ?_ | refine blk_alloc ?_ _)); refine blk_far ?_ NB230_229.out _; (with_reducible repeat (first | refine blk_drewN ?_ _ | refine blk_drew ?_ | refine blk_alloc ?_ _)); exact BK230.out) hb); have n5_ := am (below_step (pb HB) hb); clear HO234 HO238 BK229 BK230 HB; have HO234 := n0_; have HO238 := n1_; have HO241 := n2_; have BK229 := n3_; have BK230 := n4_; have HB := n5_; clear n0_ n1_ n2_ n3_ n4_ n5_; (try clear hb); (try clear hb2); (try clear hk); (try clear hi); (try clear ho0)) | ((with_reducible refine gate_callee (f := 23) rfl ?_); refine goesL_ (some 34) rfl rfl Tryd.func23 (by kernel_rfl) rfl #[] rfl (by (try simp only [List.map_toArray, List.map_cons, List.map_nil]); first | done | rfl | (simp only [List.length_drop, List.length_take]; rfl)) ?_; (with_reducible refine (downpourlaw01_alive.calls k  true _ A130.out).mono ?_); rintro e w146 ⟨rfl, hb⟩; refine ⟨_, rfl, ?_⟩; have n0_ := am (Kd.V_below (pv HO234) hb); have n1_ := am (Kd.V_below (pv HO238) hb); have n2_ := am (Kd.R_below (pr HO241) hb); have n3_ := bb BK229 hb; have n4_ := bb BK230 hb; have n5_ := am (below_step (pb HB) hb); clear HO234 HO238 HO241 BK229 BK230 HB; have HO234 := n0_; have HO238 := n1_; have HO241 := n2_; have BK229 := n3_; have BK230 := n4_; have HB := n5_; clear n0_ n1_ n2_ n3_ n4_ n5_; (try clear hb); (try clear hb2); (try clear hk); (try clear hi); obtain ⟨Ao147, co147, eo147⟩ := Kd.R_slice HO241.out; subst eo147))
   go_ret
   exact ⟨by first | rfl | (simp [errW_none, errW_some] <;> rfl) | (simp [*, errW_none, errW_some] <;> rfl), pb HB⟩
  ·
   replace c131 := Bool.eq_false_iff.mpr c131
   subst c131
   have H1 : (none) = some r := by rw [if_neg (show ¬ (false = true) by decide)] at H; exact H
   clear H
   have H := H1
   clear H1
   exact absurd H (by simp)

end Go.Proofs.YtfcedhejbnoinaaDoor.PA
