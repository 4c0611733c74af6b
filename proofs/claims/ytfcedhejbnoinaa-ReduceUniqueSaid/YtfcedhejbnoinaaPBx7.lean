-- PRINTED by print.py (a twelfth state) out of the translation. Not trusted: Lean checks it.
import Derived.Test.YtfcedhejbnoinaaPBx0
import Derived.Test.YtfcedhejbnoinaaPBx1
import Derived.Test.YtfcedhejbnoinaaPBx2
import Derived.Test.YtfcedhejbnoinaaPBx4
import Derived.Test.YtfcedhejbnoinaaPBx5
import Derived.Test.YtfcedhejbnoinaaPBx6
namespace Go.Proofs.Ytfcedhejbnoinaa.PB
open Go.RowKit Go.Proofs.YtfcedhejbnoinaaW.PrintWords Go.Proofs.YtfcedhejbnoinaaW.PrintLast Go.Proofs.YtfcedhejbnoinaaW.PrintMore
open Bool renaming true → T, false → F
open List renaming setIfInBounds_toArray → q1, set_cons_zero → q2, set_cons_succ → q3
attribute [local go_sem] run_store_func max2_int min2_int max_two min_two max_three min_three max_four min_four   -- for this text's walks alone
set_option linter.unusedVariables false
set_option linter.unusedSimpArgs false

/-! ### downpourlaw04_ReduceUnique: function 4 -/
mutual
def downpourlaw04_ReduceUnique.j0 : Nat → Int → Int → Int → Bool → Int → List (S40) → Int → List (S40) → Option (Bool)
 | 0, _, _, _, _, _, _, _, _ => none
 | k + 1, x1, x2, x9, x39, x201000, x201001, x214000, x214001 => if x39 = true then ((downpourlaw04_alive.f k).bind fun t214 => (if t214 = true then (if x9 = 0 then (some true) else (some ((x214001.length : Int) == 0))) else (none))) else (if (x201001.length : Int) = 0 then (none) else (if 0 ≤ (Int.tmod (wrap64 ((Int.tmod x1 (x201001.length : Int)) + (x201001.length : Int))) (x201001.length : Int)) then (if (Int.tmod (wrap64 ((Int.tmod x1 (x201001.length : Int)) + (x201001.length : Int))) (x201001.length : Int)) < (x201001.length : Int) then (if 0 ≤ (Int.tmod (wrap64 ((Int.tmod x2 (x201001.length : Int)) + (x201001.length : Int))) (x201001.length : Int)) then (if (Int.tmod (wrap64 ((Int.tmod x2 (x201001.length : Int)) + (x201001.length : Int))) (x201001.length : Int)) < (x201001.length : Int) then ((bitrow_Xor.f k ((rd_T40 x201001 (Int.tmod (wrap64 ((Int.tmod x1 (x201001.length : Int)) + (x201001.length : Int))) (x201001.length : Int))).f0) ((rd_T40 x201001 (Int.tmod (wrap64 ((Int.tmod x1 (x201001.length : Int)) + (x201001.length : Int))) (x201001.length : Int))).f1) ((rd_T40 x201001 (Int.tmod (wrap64 ((Int.tmod x2 (x201001.length : Int)) + (x201001.length : Int))) (x201001.length : Int))).f0) ((rd_T40 x201001 (Int.tmod (wrap64 ((Int.tmod x2 (x201001.length : Int)) + (x201001.length : Int))) (x201001.length : Int))).f1)).bind fun bt217 => (downpourlaw04_ReduceUnique.l0 k (Int.tmod (wrap64 ((Int.tmod x1 (x201001.length : Int)) + (x201001.length : Int))) (x201001.length : Int)) (x201001.length : Int) bt217.2.2 (x201001.length : Int) 0 x201000 x201001 x214000 x214001 x201000 (([(⟨bt217.1, bt217.2.1⟩ : S40)] : List (S40))))) else (none)) else (none)) else (none)) else (none)))
def downpourlaw04_ReduceUnique.l0 : Nat → Int → Int → Int → Int → Int → Int → List (S40) → Int → List (S40) → Int → List (S40) → Option (Bool)
 | 0, _, _, _, _, _, _, _, _, _, _, _ => none
 | k + 1, x1, x10, x12, x87, x88, x201000, x201001, x214000, x214001, x227000, x227001 => if x88 < x87 then (if x10 = 0 then (none) else (if 0 ≤ (Int.tmod (wrap64 ((wrap64 (x1 + x10)) - x88)) x10) then (if (Int.tmod (wrap64 ((wrap64 (x1 + x10)) - x88)) x10) < (x201001.length : Int) then (if x227001.length < 4398046511104 then (downpourlaw04_ReduceUnique.l0 k x1 x10 x12 x87 (wrap64 (x88 + 1)) x201000 x201001 x214000 x214001 x227000 (x227001 ++ [(⟨(rd_T40 x201001 (Int.tmod (wrap64 ((wrap64 (x1 + x10)) - x88)) x10)).f0, (rd_T40 x201001 (Int.tmod (wrap64 ((wrap64 (x1 + x10)) - x88)) x10)).f1⟩ : S40)])) else (none)) else (none)) else (none))) else ((reduce_Echelon.f k x227000 x227001).bind fun bt231 => ((downpourlaw04_alive.f k).bind fun t240 => (if t240 = true then (if x12 = 0 then (if bt231.2.2.2 = 0 then ((downpourref03_Same.f k x214000 x214001 bt231.1 bt231.2.1).bind fun t241 => (some t241)) else (some false)) else (some false)) else (some false))))
end
def downpourlaw04_ReduceUnique.f (k : Nat) (a0_0 : Int) (l0_1 : List (S40)) (a1 : Int) (a2 : Int) : Option (Bool) := (downpourlaw04_few.f k a0_0 l0_1).bind fun bt201 => ((reduce_Echelon.f k bt201.1 bt201.2).bind fun bt205 => (if bt205.2.2.2 = 0 then (if (bt201.2.length : Int) = 0 then (downpourlaw04_ReduceUnique.j0 k a1 a2 bt205.2.2.2 true bt201.1 bt201.2 bt205.1 bt205.2.1) else (downpourlaw04_ReduceUnique.j0 k a1 a2 bt205.2.2.2 (decide ((bt201.2.length : Int) ≥ 64)) bt201.1 bt201.2 bt205.1 bt205.2.1)) else (downpourlaw04_ReduceUnique.j0 k a1 a2 bt205.2.2.2 true bt201.1 bt201.2 bt205.1 bt205.2.1)))
theorem downpourlaw04_ReduceUnique.mono_l : ∀ k, (∀ y0 y1 y2 y3 y4 y5 y6 y7, LeO (downpourlaw04_ReduceUnique.j0 k y0 y1 y2 y3 y4 y5 y6 y7) (downpourlaw04_ReduceUnique.j0 (k + 1) y0 y1 y2 y3 y4 y5 y6 y7)) ∧ (∀ y0 y1 y2 y3 y4 y5 y6 y7 y8 y9 y10, LeO (downpourlaw04_ReduceUnique.l0 k y0 y1 y2 y3 y4 y5 y6 y7 y8 y9 y10) (downpourlaw04_ReduceUnique.l0 (k + 1) y0 y1 y2 y3 y4 y5 y6 y7 y8 y9 y10))
 | 0 => ⟨fun _ _ _ _ _ _ _ _ r h => by simp [downpourlaw04_ReduceUnique.j0] at h, fun _ _ _ _ _ _ _ _ _ _ _ r h => by simp [downpourlaw04_ReduceUnique.l0] at h⟩
 | k + 1 => by
  obtain ⟨ih0, ih1⟩ := downpourlaw04_ReduceUnique.mono_l k
  refine ⟨?_, ?_⟩
  ·
   intro y0 y1 y2 y3 y4 y5 y6 y7
   unfold downpourlaw04_ReduceUnique.j0
   repeat' first
   | (with_reducible exact ih0 _ _ _ _ _ _ _ _)
   | (with_reducible exact ih1 _ _ _ _ _ _ _ _ _ _ _)
   | (with_reducible exact bitrow_Xor.mono _ _ _ _ _)
   | (with_reducible exact downpourlaw04_alive.mono _)
   | (with_reducible exact downpourlaw04_few.mono _ _ _)
   | (with_reducible exact downpourref03_Same.mono _ _ _ _ _)
   | (with_reducible exact reduce_Echelon.mono _ _ _)
   | (with_reducible exact LeO.refl _)
   | (with_reducible exact LeO.none _)
   | (with_reducible refine LeO.ite ?_ ?_)
   | (with_reducible refine LeO.bind ?_ (fun _ => ?_))
   | exact ih0 _ _ _ _ _ _ _ _
   | exact ih1 _ _ _ _ _ _ _ _ _ _ _
   | exact bitrow_Xor.mono _ _ _ _ _
   | exact downpourlaw04_alive.mono _
   | exact downpourlaw04_few.mono _ _ _
   | exact downpourref03_Same.mono _ _ _ _ _
   | exact reduce_Echelon.mono _ _ _
   | exact LeO.none _
   | refine LeO.ite ?_ ?_
   | refine LeO.bind ?_ (fun _ => ?_)
  ·
   intro y0 y1 y2 y3 y4 y5 y6 y7 y8 y9 y10
   unfold downpourlaw04_ReduceUnique.l0
   repeat' first
   | (with_reducible exact ih0 _ _ _ _ _ _ _ _)
   | (with_reducible exact ih1 _ _ _ _ _ _ _ _ _ _ _)
   | (with_reducible exact bitrow_Xor.mono _ _ _ _ _)
   | (with_reducible exact downpourlaw04_alive.mono _)
   | (with_reducible exact downpourlaw04_few.mono _ _ _)
   | (with_reducible exact downpourref03_Same.mono _ _ _ _ _)
   | (with_reducible exact reduce_Echelon.mono _ _ _)
   | (with_reducible exact LeO.refl _)
   | (with_reducible exact LeO.none _)
   | (with_reducible refine LeO.ite ?_ ?_)
   | (with_reducible refine LeO.bind ?_ (fun _ => ?_))
   | exact ih0 _ _ _ _ _ _ _ _
   | exact ih1 _ _ _ _ _ _ _ _ _ _ _
   | exact bitrow_Xor.mono _ _ _ _ _
   | exact downpourlaw04_alive.mono _
   | exact downpourlaw04_few.mono _ _ _
   | exact downpourref03_Same.mono _ _ _ _ _
   | exact reduce_Echelon.mono _ _ _
   | exact LeO.none _
   | refine LeO.ite ?_ ?_
   | refine LeO.bind ?_ (fun _ => ?_)
theorem downpourlaw04_ReduceUnique.mono : ∀ a0 a1 a2 a3 k, LeO (downpourlaw04_ReduceUnique.f k a0 a1 a2 a3) (downpourlaw04_ReduceUnique.f (k + 1) a0 a1 a2 a3) := by
 intro a0 a1 a2 a3 k
 obtain ⟨ih0, ih1⟩ := downpourlaw04_ReduceUnique.mono_l k
 unfold downpourlaw04_ReduceUnique.f
 repeat' first
   | (with_reducible exact ih0 _ _ _ _ _ _ _ _)
   | (with_reducible exact ih1 _ _ _ _ _ _ _ _ _ _ _)
   | (with_reducible exact bitrow_Xor.mono _ _ _ _ _)
   | (with_reducible exact downpourlaw04_alive.mono _)
   | (with_reducible exact downpourlaw04_few.mono _ _ _)
   | (with_reducible exact downpourref03_Same.mono _ _ _ _ _)
   | (with_reducible exact reduce_Echelon.mono _ _ _)
   | (with_reducible exact LeO.refl _)
   | (with_reducible exact LeO.none _)
   | (with_reducible refine LeO.ite ?_ ?_)
   | (with_reducible refine LeO.bind ?_ (fun _ => ?_))
   | exact ih0 _ _ _ _ _ _ _ _
   | exact ih1 _ _ _ _ _ _ _ _ _ _ _
   | exact bitrow_Xor.mono _ _ _ _ _
   | exact downpourlaw04_alive.mono _
   | exact downpourlaw04_few.mono _ _ _
   | exact downpourref03_Same.mono _ _ _ _ _
   | exact reduce_Echelon.mono _ _ _
   | exact LeO.none _
   | refine LeO.ite ?_ ?_
   | refine LeO.bind ?_ (fun _ => ?_)
def downpourlaw04_ReduceUnique.T6 : Bool × List (List Nat × List Nat) := (true, [([], []), ([], []), ([0, 1], [0, 1]), ([], []), ([2, 3], [2, 3]), ([], []), ([4, 5], [4, 5]), ([], []), ([], []), ([7, 8], [7, 8]), ([], []), ([9, 10], [9, 10]), ([], []), ([11, 12], [11, 12]), ([6, 0, 1, 2, 3, 4, 5, 6], [0, 6]), ([13, 14, 0, 1, 2, 3, 4, 5, 6, 7, 8, 9, 10, 11, 12, 13, 14], [7, 13])])
def downpourlaw04_ReduceUnique.B6 : List Nat := [0, 0, 3, 0, 15, 0, 63, 0, 0, 384, 0, 1920, 0, 8064, 127, 32767]
theorem downpourlaw04_ReduceUnique.tab6 : rtab .any (opsOf Try.f4 6) = downpourlaw04_ReduceUnique.T6 := by kernel_rfl
theorem downpourlaw04_ReduceUnique.bits6 : waitsOk downpourlaw04_ReduceUnique.T6.2 downpourlaw04_ReduceUnique.B6 = true := by kernel_rfl
def downpourlaw04_ReduceUnique.T7 : Bool × List (List Nat × List Nat) := (true, [([], []), ([0], [0]), ([], []), ([1, 2], [1, 2]), ([3], [3]), ([], []), ([5], [5]), ([], []), ([6, 7], [6, 7]), ([8], [8]), ([4, 9], [4, 9]), ([10], [10]), ([11], [11]), ([11], [11]), ([], []), ([14, 12, 10, 0, 1, 2, 3, 4, 5, 6, 7, 8, 9, 10, 11, 12, 14], [12, 14]), ([13, 15, 0, 1, 2, 3, 4, 5, 6, 7, 8, 9, 10, 11, 12, 13, 14, 15], [13])])
def downpourlaw04_ReduceUnique.B7 : List Nat := [0, 1, 0, 7, 15, 0, 32, 0, 224, 480, 1023, 2047, 4095, 4095, 0, 24575, 65535]
theorem downpourlaw04_ReduceUnique.tab7 : rtab .any (opsOf Try.f4 7) = downpourlaw04_ReduceUnique.T7 := by kernel_rfl
theorem downpourlaw04_ReduceUnique.bits7 : waitsOk downpourlaw04_ReduceUnique.T7.2 downpourlaw04_ReduceUnique.B7 = true := by kernel_rfl
def downpourlaw04_ReduceUnique.T12 : Bool × List (List Nat × List Nat) := (true, [([], []), ([0], [0]), ([], []), ([2], [2]), ([], []), ([], []), ([4, 5], [4, 5]), ([], []), ([6, 7], [6, 7]), ([], []), ([8, 9], [8, 9]), ([3, 10], [3, 10]), ([11], [11]), ([12], [12]), ([1, 13], [1, 13]), ([0, 1, 2, 3, 4, 5, 6, 7, 8, 9, 10, 11, 12, 13, 14], []), ([15, 14, 14, 0, 1, 2, 3, 4, 5, 6, 7, 8, 9, 10, 11, 12, 13, 14], [14, 15])])
def downpourlaw04_ReduceUnique.B12 : List Nat := [0, 1, 0, 4, 0, 0, 48, 0, 240, 0, 1008, 2044, 4092, 8188, 16383, 32767, 65535]
theorem downpourlaw04_ReduceUnique.tab12 : rtab .any (opsOf Try.f4 12) = downpourlaw04_ReduceUnique.T12 := by kernel_rfl
theorem downpourlaw04_ReduceUnique.bits12 : waitsOk downpourlaw04_ReduceUnique.T12.2 downpourlaw04_ReduceUnique.B12 = true := by kernel_rfl
set_option maxHeartbeats 8000000 in
set_option maxRecDepth 100000 in
theorem downpourlaw04_ReduceUnique.calls (k : Nat) (a0_0 : Int) (A0_1 : Option Addr) (c0_1 : Nat) (l0_1 : List (S40)) (a1 : Int) (a2 : Int) (r : Bool) (w : World) (hr0_1 : Kd.C k40 w A0_1 l0_1.length l0_1) (hc0_1 : l0_1.length ≤ c0_1) (h : downpourlaw04_ReduceUnique.f k a0_0 l0_1 a1 a2 = some r) :
  Calls Try.prog 4 #[.agg #[.int .i64 a0_0, .slice A0_1 l0_1.length c0_1], .int .i64 a1, .int .i64 a2] w fun e w' => e = .returned (.bool r) ∧ Below w.heap.size w w' := by
 have hu24 := Try.underlying24
 have hu40 := Try.underlying40
 have HR0_1 := Aside0.mk hr0_1
 have HC0_1 := Aside0.mk hc0_1
 clear hr0_1 hc0_1
 have HB := am (Below.refl w.heap.size w)
 have H : ((downpourlaw04_few.f k a0_0 l0_1).bind fun bt201 => ((reduce_Echelon.f k bt201.1 bt201.2).bind fun bt205 => (if bt205.2.2.2 = 0 then (if (bt201.2.length : Int) = 0 then (downpourlaw04_ReduceUnique.j0 k a1 a2 bt205.2.2.2 true bt201.1 bt201.2 bt205.1 bt205.2.1) else (downpourlaw04_ReduceUnique.j0 k a1 a2 bt205.2.2.2 (decide ((bt201.2.length : Int) ≥ 64)) bt201.1 bt201.2 bt205.1 bt205.2.1)) else (downpourlaw04_ReduceUnique.j0 k a1 a2 bt205.2.2.2 true bt201.1 bt201.2 bt205.1 bt205.2.1)))) = some r := h
 clear h
 replace H := Option.bind_eq_some_iff.mp H
 obtain ⟨⟨t201, t202⟩, A40, H⟩ := H
 replace H : ((reduce_Echelon.f k t201 t202).bind fun bt205 => (if bt205.2.2.2 = 0 then (if (t202.length : Int) = 0 then (downpourlaw04_ReduceUnique.j0 k a1 a2 bt205.2.2.2 true t201 t202 bt205.1 bt205.2.1) else (downpourlaw04_ReduceUnique.j0 k a1 a2 bt205.2.2.2 (decide ((t202.length : Int) ≥ 64)) t201 t202 bt205.1 bt205.2.1)) else (downpourlaw04_ReduceUnique.j0 k a1 a2 bt205.2.2.2 true t201 t202 bt205.1 bt205.2.1))) = some r := H
 have A4 := Aside0.mk A40
 clear A40
 replace H := Option.bind_eq_some_iff.mp H
 obtain ⟨⟨t205, t206, t209, t212⟩, A50, H⟩ := H
 replace H : (if t212 = 0 then (if (t202.length : Int) = 0 then (downpourlaw04_ReduceUnique.j0 k a1 a2 t212 true t201 t202 t205 t206) else (downpourlaw04_ReduceUnique.j0 k a1 a2 t212 (decide ((t202.length : Int) ≥ 64)) t201 t202 t205 t206)) else (downpourlaw04_ReduceUnique.j0 k a1 a2 t212 true t201 t202 t205 t206)) = some r := H
 have A5 := Aside0.mk A50
 clear A50
 have HC6 := Aside0.mk H
 clear H
 go_enter Try.func4, Try.ntmps4
 go_upto_region 3 with (first | ((with_reducible refine gate_dst (N := 3) rfl ?_); (try (refine gate_guard (by rfl) ?_; dsimp only)); refine box_event ?hg (N := 3) ?hd (cs := #[.int .i64 a0_0, .slice A0_1 l0_1.length c0_1]) (t := 24) ?hr ?_; (case hd => rfl); (case hg => rfl); (case hr => first | (go_simp; done) | (go_simp; rfl)); intro gb200 hg w7 hbox hb; have n0_ := am (below_step (pb HB) hb); have n1_ := am (hbox); have n2_ := am ((by rw [hg]; exact (below_size (pb HB)) : w.heap.size ≤ gb200)); have n3_ := am ((by rw [hg]; exact (below_size (pb HB)) : w.heap.size ≤ gb200)); clear HB; have HB := n0_; have BK200 := n1_; have GW200 := n2_; have GE200 := n3_; clear n0_ n1_ n2_ n3_ hb hbox hg; have hcz8_0 : w7.cell? ⟨gb200, 0, none⟩ = some (.int .i64 a0_0) := (blk_cell BK200.out 0).trans rfl; have hcz8_1 : w7.cell? ⟨gb200, 1, none⟩ = some (.slice A0_1 l0_1.length c0_1) := (blk_cell BK200.out 1).trans rfl; have hfz8_0 := blk_frozen BK200.out 0; have hfz8_1 := blk_frozen BK200.out 1) | ((with_reducible refine gate_callee (f := 7) rfl ?_); refine goesL_ (some 19) rfl rfl Try.func7 (by kernel_rfl) rfl #[.agg #[.int .i64 a0_0, .slice A0_1 l0_1.length c0_1]] rfl (by (try simp only [List.map_toArray, List.map_cons, List.map_nil]); first | done | rfl | (simp only [List.length_drop, List.length_take]; rfl)) ?_; (with_reducible refine (downpourlaw04_few.calls k a0_0 (fun k_ => k_ < w.heap.size) _ _ l0_1 t201 t202 _ ?side1 A4.out).mono ?_); (case side1 => exact Kd.V_mk HC0_1.out (Kd.F_below (Kd.C_F k40_heap HR0_1.out) (pb HB))); rintro e w9 ⟨v203, rfl, ho0, hb⟩; refine ⟨_, rfl, ?_⟩; have n0_ := am (Kd.N_lower (Kd.N_mono (ok' := fun k_ => k_ ≠ gb200) ho0 (fun k_ hk_ => Or.elim hk_ (fun hs_ => fun e_ => Nat.not_le.2 hs_ (by rw [e_]; exact GW200.out)) (fun hn_ => (Kd.freshB (g := gb200) (o := .cells #[.int .i64 a0_0, .slice A0_1 l0_1.length c0_1] 24 (0, 0)) (pk BK200) k_ hn_)))) (below_size (pb HB))); have n1_ := bb BK200 hb; have n2_ := am (below_step (pb HB) hb); clear BK200 HB; have HO204 := n0_; have BK200 := n1_; have HB := n2_; clear n0_ n1_ n2_; (try clear hb); (try clear hb2); (try clear hk); (try clear hi); (try clear ho0); have hcz10_0 : w9.cell? ⟨gb200, 0, none⟩ = some (.int .i64 a0_0) := (blk_cell BK200.out 0).trans rfl; have hcz10_1 : w9.cell? ⟨gb200, 1, none⟩ = some (.slice A0_1 l0_1.length c0_1) := (blk_cell BK200.out 1).trans rfl; have hfz10_0 := blk_frozen BK200.out 0; have hfz10_1 := blk_frozen BK200.out 1; obtain ⟨Ao11, co11, eo11⟩ := Kd.N_slice HO204.out; subst eo11) | ((with_reducible refine gate_store (t := 24) (p := 3) rfl ?_); refine store_event (t := 24) (p := 3) (v := ?vo_w12) (w1 := ((w9.setCell ⟨gb200, 0, none⟩ (.int .i64 t201)).setCell ⟨gb200, 1, none⟩ (.slice Ao11 t202.length co11))) ?hg ?ho ?hn ?hr ?_; (case ho => rfl); (case hg => rfl); (case hn => rfl); (case hr => first | (go_simp; done) | (go_simp; rfl)); intro w12 hw; have n0_ : Aside0 (Kd.N k40 40 w12 w.heap.size (fun k_ => k_ ≠ gb200) (.slice Ao11 t202.length co11) t202) := ⟨(by rw [hw]; exact (by (with_reducible repeat (first | apply Kd.N_alloc | apply Kd.N_drewN | apply Kd.N_drew)); exact Kd.N_mono (Kd.N_far (p := ⟨gb200, 1, none⟩) (Kd.N_far (p := ⟨gb200, 0, none⟩) (Kd.N_mono HO204.out (fun k_ hk => (⟨hk, hk⟩ : _ ∧ k_ ≠ gb200))) (fun _ hk => hk.2) (.int .i64 t201)) (fun _ hk => hk.2) (.slice Ao11 t202.length co11)) (fun _ hk => hk.1)))⟩; have n1_ : Aside0 (w12.heap[gb200]? = some (.cells #[.int .i64 t201, .slice Ao11 t202.length co11] 24 (0, 0))) := ⟨(by rw [hw]; exact (by (with_reducible repeat (first | refine blk_drewN ?_ _ | refine blk_drew ?_ | refine blk_alloc ?_ _)); refine blk_put (cs := #[.int .i64 t201, .slice A0_1 l0_1.length c0_1]) ?_ 1 _ rfl; (with_reducible repeat (first | refine blk_drewN ?_ _ | refine blk_drew ?_ | refine blk_alloc ?_ _)); refine blk_put (cs := #[.int .i64 a0_0, .slice A0_1 l0_1.length c0_1]) ?_ 0 _ rfl; (with_reducible repeat (first | refine blk_drewN ?_ _ | refine blk_drew ?_ | refine blk_alloc ?_ _)); exact BK200.out))⟩; have n2_ : Aside0 (Below w.heap.size w w12) := ⟨(by rw [hw]; exact (pb HB))⟩; clear hw HO204 BK200 HB; have HO204 := n0_; have BK200 := n1_; have HB := n2_; clear n0_ n1_ n2_; have hcz13_0 : w12.cell? ⟨gb200, 0, none⟩ = some (.int .i64 t201) := (blk_cell BK200.out 0).trans rfl; have hcz13_1 : w12.cell? ⟨gb200, 1, none⟩ = some (.slice Ao11 t202.length co11) := (blk_cell BK200.out 1).trans rfl; have hfz13_0 := blk_frozen BK200.out 0; have hfz13_1 := blk_frozen BK200.out 1) | ((with_reducible refine gate_callee (f := 8) rfl ?_); refine goesL_ (some 22) rfl rfl Try.func8 (by kernel_rfl) rfl #[.agg #[.int .i64 t201, .slice Ao11 t202.length co11]] rfl (by (try simp only [List.map_toArray, List.map_cons, List.map_nil]); first | done | rfl | (simp only [List.length_drop, List.length_take]; rfl)) ?_; (with_reducible refine (reduce_Echelon.calls k t201 (fun k_ => k_ ≠ gb200) _ _ t202 t205 t206 t209 t212 _ ?side1 A5.out).mono ?_); (case side1 => exact Kd.N_V (HO204.out)); rintro e w14 ⟨v207, v210, rfl, ho0, ho1, hb⟩; refine ⟨_, rfl, ?_⟩; have n0_ := am (Kd.N_mono (Kd.N_told (Kd.N_told (Kd.N_old (pn HO204) hb) (Kd.N_base ho0)) (Kd.R_base ho1)) (fun _ h_ => h_.1)); have n1_ := am (Kd.N_lower (Kd.N_mono (ok' := fun k_ => some k_ ≠ (v210 : Value).ownBlock ∧ k_ ≠ gb200) ho0 (fun k_ hk_ => ⟨hk_.2, Or.elim hk_.1 (fun hs_ => hs_) (fun hn_ => (Kd.freshB (g := gb200) (o := .cells #[.int .i64 t201, .slice Ao11 t202.length co11] 24 (0, 0)) (pk BK200) k_ hn_))⟩)) (below_size (pb HB))); have n2_ := am (Kd.R_lower (Kd.R_mono (ok' := fun k_ => True) ho1 (fun _ hk_ => trivial)) (below_size (pb HB))); have n3_ := bb BK200 hb; have n4_ := am (below_step (pb HB) hb); clear HO204 BK200 HB; have HO204 := n0_; have HO208 := n1_; have HO211 := n2_; have BK200 := n3_; have HB := n4_; clear n0_ n1_ n2_ n3_ n4_; (try clear hb); (try clear hb2); (try clear hk); (try clear hi); (try clear ho0); (try clear ho1)) | ((with_reducible refine gate_dst (N := 7) rfl ?_); (try (refine gate_guard (by rfl) ?_; dsimp only)); refine box_event ?hg (N := 7) ?hd (cs := #[.int .i64 0, .slice none 0 0]) (t := 24) ?hr ?_; (case hd => rfl); (case hg => rfl); (case hr => first | (go_simp; done) | (go_simp; rfl)); intro gb213 hg w15 hbox hb; have n0_ := am (Kd.N_below (Kd.N_elderB (pn HO204) gb213 (Nat.le_of_eq hg.symm)) hb); have n1_ := am (Kd.N_below (Kd.N_elderB (pn HO208) gb213 (Nat.le_of_eq hg.symm)) hb); have n2_ := am (Kd.R_below (pr HO211) hb); have n3_ := bb BK200 hb; have n4_ := am (below_step (pb HB) hb); have n5_ := am (hbox); have n6_ := am ((by rw [hg]; exact (below_size (pb HB)) : w.heap.size ≤ gb213)); have n7_ := am ((by rw [hg]; exact (below_size (pb HB)) : w.heap.size ≤ gb213)); have n8_ := am ((by rw [hg]; exact Nat.ne_of_lt (bl BK200) : gb200 ≠ gb213)); have n9_ := am ((by rw [hg]; exact Nat.ne_of_gt (bl BK200) : gb213 ≠ gb200)); clear HO204 HO208 HO211 BK200 HB; have HO204 := n0_; have HO208 := n1_; have HO211 := n2_; have BK200 := n3_; have HB := n4_; have BK213 := n5_; have GW213 := n6_; have GE213 := n7_; have NB200_213 := n8_; have NB213_200 := n9_; clear n0_ n1_ n2_ n3_ n4_ n5_ n6_ n7_ n8_ n9_ hb hbox hg; have hnb16 := NB213_200.out; have hnc16 := NB200_213.out; have hcz17_0 : w15.cell? ⟨gb213, 0, none⟩ = some (.int .i64 0) := (blk_cell BK213.out 0).trans rfl; have hcz17_1 : w15.cell? ⟨gb213, 1, none⟩ = some (.slice none 0 0) := (blk_cell BK213.out 1).trans rfl; have hfz17_0 := blk_frozen BK213.out 0; have hfz17_1 := blk_frozen BK213.out 1; obtain ⟨Ao18, co18, eo18⟩ := Kd.N_slice HO208.out; subst eo18))
 (try simp only [Act.put, q1, q2, q3])
 go_cut [39] (fun v39 wc => ∃ (kq : Nat) (x39_5 : Bool), v39 = .bool x39_5 ∧ Aside0 (downpourlaw04_ReduceUnique.j0 kq a1 a2 t212 x39_5 t201 t202 t205 t206 = some r) ∧ Aside0 (kq ≤ k) ∧ Aside0 (Kd.N k40 40 wc w.heap.size (fun k_ => some k_ ≠ ((.slice Ao18 t206.length co18) : Value).ownBlock ∧ k_ ≠ gb200 ∧ k_ ≠ gb213) (.slice Ao11 t202.length co11) t202) ∧ Aside0 (Kd.N k40 40 wc w.heap.size (fun k_ => k_ ≠ gb200 ∧ k_ ≠ gb213) (.slice Ao18 t206.length co18) t206) ∧ Aside0 (wc.heap[gb200]? = some (.cells #[.int .i64 t201, (.slice Ao11 t202.length co11)] 24 (0, 0))) ∧ Aside0 (wc.heap[gb213]? = some (.cells #[.int .i64 t205, (.slice Ao18 t206.length co18)] 24 (0, 0))) ∧ Aside0 (Below w.heap.size w wc))
 case first =>
  have H := HC6.out
  clear HC6
  by_cases c19 : t212 = 0
  ·
   rw [if_pos c19] at H
   have c19b0 : (t212 == 0) = true := beq_iff_eq.mpr c19
   have c19b1 : (t212 != 0) = false := bne_eq_false_iff_eq.mpr c19
   clear c19
   (first | rw [c19b0] | (simp only [i64_w, i32_w]; rw [c19b0]) | skip)
   by_cases c20 : (t202.length : Int) = 0
   ·
    rw [if_pos c20] at H
    have c20b0 : ((t202.length : Int) == 0) = true := beq_iff_eq.mpr c20
    have c20b1 : ((t202.length : Int) != 0) = false := bne_eq_false_iff_eq.mpr c20
    clear c20
    have H' := Aside0.mk H
    clear H
    have hnb21 := NB200_213.out
    have hnc21 := NB213_200.out
    have hcz22_0 : w15.cell? ⟨gb200, 0, none⟩ = some (.int .i64 t201) := (blk_cell BK200.out 0).trans rfl
    have hcz22_1 : w15.cell? ⟨gb200, 1, none⟩ = some (.slice Ao11 t202.length co11) := (blk_cell BK200.out 1).trans rfl
    have hfz22_0 := blk_frozen BK200.out 0
    have hfz22_1 := blk_frozen BK200.out 1
    go_wp2
    go_meet
    case rel => exact ⟨_, (true), (by first | rfl | (simp; done) | (simp [*]; done)), H', ⟨by first | omega | exact Nat.le_refl _⟩, ⟨by (with_reducible repeat (first | apply Kd.N_alloc | apply Kd.N_drewN | apply Kd.N_drew)); exact Kd.N_mono (Kd.N_far (p := ⟨gb213, 1, none⟩) (Kd.N_far (p := ⟨gb213, 0, none⟩) (Kd.N_mono HO204.out (fun k_ hk => (⟨hk, hk.2⟩ : _ ∧ k_ ≠ gb213))) (fun _ hk => hk.2) (.int .i64 t205)) (fun _ hk => hk.2) (.slice Ao18 t206.length co18)) (fun _ hk => ⟨hk.1.1.1.2, ⟨hk.1.1.1.1, hk.1.2⟩⟩)⟩, ⟨by (with_reducible repeat (first | apply Kd.N_alloc | apply Kd.N_drewN | apply Kd.N_drew)); exact Kd.N_mono (Kd.N_far (p := ⟨gb213, 1, none⟩) (Kd.N_far (p := ⟨gb213, 0, none⟩) (Kd.N_mono HO208.out (fun k_ hk => (⟨hk, hk.2⟩ : _ ∧ k_ ≠ gb213))) (fun _ hk => hk.2) (.int .i64 t205)) (fun _ hk => hk.2) (.slice Ao18 t206.length co18)) (fun _ hk => ⟨hk.1.1.2, hk.1.2⟩)⟩, ⟨by (with_reducible repeat (first | refine blk_drewN ?_ _ | refine blk_drew ?_ | refine blk_alloc ?_ _)); refine blk_far ?_ NB200_213.out _; (with_reducible repeat (first | refine blk_drewN ?_ _ | refine blk_drew ?_ | refine blk_alloc ?_ _)); refine blk_far ?_ NB200_213.out _; (with_reducible repeat (first | refine blk_drewN ?_ _ | refine blk_drew ?_ | refine blk_alloc ?_ _)); exact BK200.out⟩, ⟨by (with_reducible repeat (first | refine blk_drewN ?_ _ | refine blk_drew ?_ | refine blk_alloc ?_ _)); refine blk_put (cs := #[.int .i64 t205, .slice none 0 0]) ?_ 1 _ rfl; (with_reducible repeat (first | refine blk_drewN ?_ _ | refine blk_drew ?_ | refine blk_alloc ?_ _)); refine blk_put (cs := #[.int .i64 0, .slice none 0 0]) ?_ 0 _ rfl; (with_reducible repeat (first | refine blk_drewN ?_ _ | refine blk_drew ?_ | refine blk_alloc ?_ _)); exact BK213.out⟩, ⟨pb HB⟩⟩
   ·
    rw [if_neg c20] at H
    have c20b0 : ((t202.length : Int) == 0) = false := beq_eq_false_iff_ne.mpr c20
    have c20b1 : ((t202.length : Int) != 0) = true := bne_iff_ne.mpr c20
    have c20b2 : ¬ (t202 = []) := fun h_ => c20 (by rw [h_]; rfl)
    have H' := Aside0.mk H
    clear H
    have hnb23 := NB200_213.out
    have hnc23 := NB213_200.out
    have hcz24_0 : w15.cell? ⟨gb200, 0, none⟩ = some (.int .i64 t201) := (blk_cell BK200.out 0).trans rfl
    have hcz24_1 : w15.cell? ⟨gb200, 1, none⟩ = some (.slice Ao11 t202.length co11) := (blk_cell BK200.out 1).trans rfl
    have hfz24_0 := blk_frozen BK200.out 0
    have hfz24_1 := blk_frozen BK200.out 1
    go_wp2
    go_meet
    case rel => exact ⟨_, (decide ((t202.length : Int) ≥ 64)), (by first | rfl | (simp; done) | (simp [*]; done)), H', ⟨by first | omega | exact Nat.le_refl _⟩, ⟨by (with_reducible repeat (first | apply Kd.N_alloc | apply Kd.N_drewN | apply Kd.N_drew)); exact Kd.N_mono (Kd.N_far (p := ⟨gb213, 1, none⟩) (Kd.N_far (p := ⟨gb213, 0, none⟩) (Kd.N_mono HO204.out (fun k_ hk => (⟨hk, hk.2⟩ : _ ∧ k_ ≠ gb213))) (fun _ hk => hk.2) (.int .i64 t205)) (fun _ hk => hk.2) (.slice Ao18 t206.length co18)) (fun _ hk => ⟨hk.1.1.1.2, ⟨hk.1.1.1.1, hk.1.2⟩⟩)⟩, ⟨by (with_reducible repeat (first | apply Kd.N_alloc | apply Kd.N_drewN | apply Kd.N_drew)); exact Kd.N_mono (Kd.N_far (p := ⟨gb213, 1, none⟩) (Kd.N_far (p := ⟨gb213, 0, none⟩) (Kd.N_mono HO208.out (fun k_ hk => (⟨hk, hk.2⟩ : _ ∧ k_ ≠ gb213))) (fun _ hk => hk.2) (.int .i64 t205)) (fun _ hk => hk.2) (.slice Ao18 t206.length co18)) (fun _ hk => ⟨hk.1.1.2, hk.1.2⟩)⟩, ⟨by (with_reducible repeat (first | refine blk_drewN ?_ _ | refine blk_drew ?_ | refine blk_alloc ?_ _)); refine blk_far ?_ NB200_213.out _; (with_reducible repeat (first | refine blk_drewN ?_ _ | refine blk_drew ?_ | refine blk_alloc ?_ _)); refine blk_far ?_ NB200_213.out _; (with_reducible repeat (first | refine blk_drewN ?_ _ | refine blk_drew ?_ | refine blk_alloc ?_ _)); exact BK200.out⟩, ⟨by (with_reducible repeat (first | refine blk_drewN ?_ _ | refine blk_drew ?_ | refine blk_alloc ?_ _)); refine blk_put (cs := #[.int .i64 t205, .slice none 0 0]) ?_ 1 _ rfl; (with_reducible repeat (first | refine blk_drewN ?_ _ | refine blk_drew ?_ | refine blk_alloc ?_ _)); refine blk_put (cs := #[.int .i64 0, .slice none 0 0]) ?_ 0 _ rfl; (with_reducible repeat (first | refine blk_drewN ?_ _ | refine blk_drew ?_ | refine blk_alloc ?_ _)); exact BK213.out⟩, ⟨pb HB⟩⟩
  ·
   rw [if_neg c19] at H
   have c19b0 : (t212 == 0) = false := beq_eq_false_iff_ne.mpr c19
   have c19b1 : (t212 != 0) = true := bne_iff_ne.mpr c19
   (first | rw [c19b0] | (simp only [i64_w, i32_w]; rw [c19b0]) | skip)
   have H' := Aside0.mk H
   clear H
   go_wp2
   go_meet
   case rel => exact ⟨_, (true), (by first | rfl | (simp; done) | (simp [*]; done)), H', ⟨by first | omega | exact Nat.le_refl _⟩, ⟨by (with_reducible repeat (first | apply Kd.N_alloc | apply Kd.N_drewN | apply Kd.N_drew)); exact Kd.N_mono (Kd.N_far (p := ⟨gb213, 1, none⟩) (Kd.N_far (p := ⟨gb213, 0, none⟩) (Kd.N_mono HO204.out (fun k_ hk => (⟨hk, hk.2⟩ : _ ∧ k_ ≠ gb213))) (fun _ hk => hk.2) (.int .i64 t205)) (fun _ hk => hk.2) (.slice Ao18 t206.length co18)) (fun _ hk => ⟨hk.1.1.1.2, ⟨hk.1.1.1.1, hk.1.2⟩⟩)⟩, ⟨by (with_reducible repeat (first | apply Kd.N_alloc | apply Kd.N_drewN | apply Kd.N_drew)); exact Kd.N_mono (Kd.N_far (p := ⟨gb213, 1, none⟩) (Kd.N_far (p := ⟨gb213, 0, none⟩) (Kd.N_mono HO208.out (fun k_ hk => (⟨hk, hk.2⟩ : _ ∧ k_ ≠ gb213))) (fun _ hk => hk.2) (.int .i64 t205)) (fun _ hk => hk.2) (.slice Ao18 t206.length co18)) (fun _ hk => ⟨hk.1.1.2, hk.1.2⟩)⟩, ⟨by (with_reducible repeat (first | refine blk_drewN ?_ _ | refine blk_drew ?_ | refine blk_alloc ?_ _)); refine blk_far ?_ NB200_213.out _; (with_reducible repeat (first | refine blk_drewN ?_ _ | refine blk_drew ?_ | refine blk_alloc ?_ _)); refine blk_far ?_ NB200_213.out _; (with_reducible repeat (first | refine blk_drewN ?_ _ | refine blk_drew ?_ | refine blk_alloc ?_ _)); exact BK200.out⟩, ⟨by (with_reducible repeat (first | refine blk_drewN ?_ _ | refine blk_drew ?_ | refine blk_alloc ?_ _)); refine blk_put (cs := #[.int .i64 t205, .slice none 0 0]) ?_ 1 _ rfl; (with_reducible repeat (first | refine blk_drewN ?_ _ | refine blk_drew ?_ | refine blk_alloc ?_ _)); refine blk_put (cs := #[.int .i64 0, .slice none 0 0]) ?_ 0 _ rfl; (with_reducible repeat (first | refine blk_drewN ?_ _ | refine blk_drew ?_ | refine blk_alloc ?_ _)); exact BK213.out⟩, ⟨pb HB⟩⟩
 case rest =>
  clear HC6
  try clear c1
  try clear c2
  try clear p2
  try clear c4
  try clear c7
  try clear c8
  try clear c16
  try clear c19
  try clear c19b0
  try clear c19b1
  try clear c20
  try clear c20b0
  try clear c20b1
  try clear c20b2
  try clear c21
  try clear c23
  try clear hcz10_0
  try clear hcz10_1
  try clear hcz13_0
  try clear hcz13_1
  try clear hcz17_0
  try clear hcz17_1
  try clear hcz22_0
  try clear hcz22_1
  try clear hcz24_0
  try clear hcz24_1
  try clear hcz8_0
  try clear hcz8_1
  try clear hfz10_0
  try clear hfz10_1
  try clear hfz13_0
  try clear hfz13_1
  try clear hfz17_0
  try clear hfz17_1
  try clear hfz22_0
  try clear hfz22_1
  try clear hfz24_0
  try clear hfz24_1
  try clear hfz8_0
  try clear hfz8_1
  obtain ⟨kq, x39_5, rfl, HA, HJ5, HO_201001, HO_214001, BK200, BK213, HB⟩ := hcut
  cases kq with
  | zero => exact absurd HA.out (by simp [downpourlaw04_ReduceUnique.j0])
  | succ kj5 =>
   have H := HA.out
   clear HA
   simp only [downpourlaw04_ReduceUnique.j0] at H
   by_cases c25 : x39_5 = true
   ·
    subst c25
    have H1 : ((downpourlaw04_alive.f kj5).bind fun t214 => (if t214 = true then (if t212 = 0 then (some true) else (some ((t206.length : Int) == 0))) else (none))) = some r := by rw [if_pos rfl] at H; exact H
    clear H
    have H := H1
    clear H1
    replace H := Option.bind_eq_some_iff.mp H
    obtain ⟨t214, A260, H⟩ := H
    replace H : (if t214 = true then (if t212 = 0 then (some true) else (some ((t206.length : Int) == 0))) else (none)) = some r := H
    have A26 := Aside0.mk A260
    clear A260
    by_cases c27 : t214 = true
    ·
     subst c27
     have H1 : (if t212 = 0 then (some true) else (some ((t206.length : Int) == 0))) = some r := by rw [if_pos rfl] at H; exact H
     clear H
     have H := H1
     clear H1
     by_cases c28 : t212 = 0
     ·
      rw [if_pos c28] at H
      have c28b0 : (t212 == 0) = true := beq_iff_eq.mpr c28
      have c28b1 : (t212 != 0) = false := bne_eq_false_iff_eq.mpr c28
      clear c28
      obtain rfl := Option.some.inj H
      go_wp2_with (first | ((with_reducible refine gate_callee (f := 11) rfl ?_); refine goesL_ (some 40) rfl rfl Try.func11 (by kernel_rfl) rfl #[] rfl (by (try simp only [List.map_toArray, List.map_cons, List.map_nil]); first | done | rfl | (simp only [List.length_drop, List.length_take]; rfl)) ?_; (with_reducible refine (downpourlaw04_alive.calls kj5  true _ A26.out).mono ?_); rintro e w29 ⟨rfl, hb⟩; refine ⟨_, rfl, ?_⟩; have n0_ := am (Kd.N_below (pn HO_201001) hb); have n1_ := am (Kd.N_below (pn HO_214001) hb); have n2_ := bb BK200 hb; have n3_ := bb BK213 hb; have n4_ := am (below_step (pb HB) hb); clear HO_201001 HO_214001 BK200 BK213 HB; have HO_201001 := n0_; have HO_214001 := n1_; have BK200 := n2_; have BK213 := n3_; have HB := n4_; clear n0_ n1_ n2_ n3_ n4_; (try clear hb); (try clear hb2); (try clear hk); (try clear hi)))
      go_ret
      exact ⟨by first | rfl | (simp [errW_none, errW_some] <;> rfl) | (simp [*, errW_none, errW_some] <;> rfl), pb HB⟩
     ·
      rw [if_neg c28] at H
      have c28b0 : (t212 == 0) = false := beq_eq_false_iff_ne.mpr c28
      have c28b1 : (t212 != 0) = true := bne_iff_ne.mpr c28
      obtain rfl := Option.some.inj H
      go_wp2_with (first | ((with_reducible refine gate_callee (f := 11) rfl ?_); refine goesL_ (some 40) rfl rfl Try.func11 (by kernel_rfl) rfl #[] rfl (by (try simp only [List.map_toArray, List.map_cons, List.map_nil]); first | done | rfl | (simp only [List.length_drop, List.length_take]; rfl)) ?_; (with_reducible refine (downpourlaw04_alive.calls kj5  true _ A26.out).mono ?_); rintro e w30 ⟨rfl, hb⟩; refine ⟨_, rfl, ?_⟩; have n0_ := am (Kd.N_below (pn HO_201001) hb); have n1_ := am (Kd.N_below (pn HO_214001) hb); have n2_ := bb BK200 hb; have n3_ := bb BK213 hb; have n4_ := am (below_step (pb HB) hb); clear HO_201001 HO_214001 BK200 BK213 HB; have HO_201001 := n0_; have HO_214001 := n1_; have BK200 := n2_; have BK213 := n3_; have HB := n4_; clear n0_ n1_ n2_ n3_ n4_; (try clear hb); (try clear hb2); (try clear hk); (try clear hi); have hnb31 := NB213_200.out; have hnc31 := NB200_213.out; have hcz32_0 : w30.cell? ⟨gb213, 0, none⟩ = some (.int .i64 t205) := (blk_cell BK213.out 0).trans rfl; have hcz32_1 : w30.cell? ⟨gb213, 1, none⟩ = some (.slice Ao18 t206.length co18) := (blk_cell BK213.out 1).trans rfl; have hfz32_0 := blk_frozen BK213.out 0; have hfz32_1 := blk_frozen BK213.out 1))
      go_ret
      exact ⟨by first | rfl | (simp [errW_none, errW_some] <;> rfl) | (simp [*, errW_none, errW_some] <;> rfl), pb HB⟩
    ·
     replace c27 := Bool.eq_false_iff.mpr c27
     subst c27
     have H1 : (none) = some r := by rw [if_neg (show ¬ (false = true) by decide)] at H; exact H
     clear H
     have H := H1
     clear H1
     exact absurd H (by simp)
   ·
    replace c25 := Bool.eq_false_iff.mpr c25
    subst c25
    have H1 : (if (t202.length : Int) = 0 then (none) else (if 0 ≤ (Int.tmod (wrap64 ((Int.tmod a1 (t202.length : Int)) + (t202.length : Int))) (t202.length : Int)) then (if (Int.tmod (wrap64 ((Int.tmod a1 (t202.length : Int)) + (t202.length : Int))) (t202.length : Int)) < (t202.length : Int) then (if 0 ≤ (Int.tmod (wrap64 ((Int.tmod a2 (t202.length : Int)) + (t202.length : Int))) (t202.length : Int)) then (if (Int.tmod (wrap64 ((Int.tmod a2 (t202.length : Int)) + (t202.length : Int))) (t202.length : Int)) < (t202.length : Int) then ((bitrow_Xor.f kj5 ((rd_T40 t202 (Int.tmod (wrap64 ((Int.tmod a1 (t202.length : Int)) + (t202.length : Int))) (t202.length : Int))).f0) ((rd_T40 t202 (Int.tmod (wrap64 ((Int.tmod a1 (t202.length : Int)) + (t202.length : Int))) (t202.length : Int))).f1) ((rd_T40 t202 (Int.tmod (wrap64 ((Int.tmod a2 (t202.length : Int)) + (t202.length : Int))) (t202.length : Int))).f0) ((rd_T40 t202 (Int.tmod (wrap64 ((Int.tmod a2 (t202.length : Int)) + (t202.length : Int))) (t202.length : Int))).f1)).bind fun bt217 => (downpourlaw04_ReduceUnique.l0 kj5 (Int.tmod (wrap64 ((Int.tmod a1 (t202.length : Int)) + (t202.length : Int))) (t202.length : Int)) (t202.length : Int) bt217.2.2 (t202.length : Int) 0 t201 t202 t205 t206 t201 (([(⟨bt217.1, bt217.2.1⟩ : S40)] : List (S40))))) else (none)) else (none)) else (none)) else (none))) = some r := by rw [if_neg (show ¬ (false = true) by decide)] at H; exact H
    clear H
    have H := H1
    clear H1
    by_cases c33 : (t202.length : Int) = 0
    ·
     rw [if_pos c33] at H
     exact absurd H (by simp)
    ·
     rw [if_neg c33] at H
     have c33b0 : ((t202.length : Int) == 0) = false := beq_eq_false_iff_ne.mpr c33
     have c33b1 : ((t202.length : Int) != 0) = true := bne_iff_ne.mpr c33
     have c33b2 : ¬ (t202 = []) := fun h_ => c33 (by rw [h_]; rfl)
     obtain ⟨ji34, hji34⟩ : ∃ j_ : Int, (Int.tmod (wrap64 ((Int.tmod a1 (t202.length : Int)) + (t202.length : Int))) (t202.length : Int)) = j_ := ⟨_, rfl⟩
     replace H : (if 0 ≤ (ji34) then (if (ji34) < (t202.length : Int) then (if 0 ≤ (Int.tmod (wrap64 ((Int.tmod a2 (t202.length : Int)) + (t202.length : Int))) (t202.length : Int)) then (if (Int.tmod (wrap64 ((Int.tmod a2 (t202.length : Int)) + (t202.length : Int))) (t202.length : Int)) < (t202.length : Int) then ((bitrow_Xor.f kj5 ((rd_T40 t202 (ji34)).f0) ((rd_T40 t202 (ji34)).f1) ((rd_T40 t202 (Int.tmod (wrap64 ((Int.tmod a2 (t202.length : Int)) + (t202.length : Int))) (t202.length : Int))).f0) ((rd_T40 t202 (Int.tmod (wrap64 ((Int.tmod a2 (t202.length : Int)) + (t202.length : Int))) (t202.length : Int))).f1)).bind fun bt217 => (downpourlaw04_ReduceUnique.l0 kj5 ji34 (t202.length : Int) bt217.2.2 (t202.length : Int) 0 t201 t202 t205 t206 t201 (([(⟨bt217.1, bt217.2.1⟩ : S40)] : List (S40))))) else (none)) else (none)) else (none)) else (none)) = some r := by first | (rw [hji34] at H; exact H) | (simp only [hji34] at H ⊢; exact H)
     by_cases c35 : 0 ≤ (ji34)
     ·
      rw [if_pos c35] at H
      have c35b0 : decide (0 ≤ (ji34)) = true := decide_eq_true c35
      clear c35
      by_cases c36 : (ji34) < (t202.length : Int)
      ·
       rw [if_pos c36] at H
       have c36b0 : decide ((ji34) < (t202.length : Int)) = true := decide_eq_true c36
       clear c36
       obtain ⟨ji37, hji37⟩ : ∃ j_ : Int, (Int.tmod (wrap64 ((Int.tmod a2 (t202.length : Int)) + (t202.length : Int))) (t202.length : Int)) = j_ := ⟨_, rfl⟩
       replace H : (if 0 ≤ (ji37) then (if (ji37) < (t202.length : Int) then ((bitrow_Xor.f kj5 ((rd_T40 t202 (ji34)).f0) ((rd_T40 t202 (ji34)).f1) ((rd_T40 t202 (ji37)).f0) ((rd_T40 t202 (ji37)).f1)).bind fun bt217 => (downpourlaw04_ReduceUnique.l0 kj5 ji34 (t202.length : Int) bt217.2.2 (t202.length : Int) 0 t201 t202 t205 t206 t201 (([(⟨bt217.1, bt217.2.1⟩ : S40)] : List (S40))))) else (none)) else (none)) = some r := by first | (rw [hji37] at H; exact H) | (simp only [hji37] at H ⊢; exact H)
       by_cases c38 : 0 ≤ (ji37)
       ·
        rw [if_pos c38] at H
        have c38b0 : decide (0 ≤ (ji37)) = true := decide_eq_true c38
        clear c38
        by_cases c39 : (ji37) < (t202.length : Int)
        ·
         rw [if_pos c39] at H
         have c39b0 : decide ((ji37) < (t202.length : Int)) = true := decide_eq_true c39
         clear c39
         replace H := Option.bind_eq_some_iff.mp H
         obtain ⟨⟨t217, t218, t221⟩, A400, H⟩ := H
         replace H : (downpourlaw04_ReduceUnique.l0 kj5 ji34 (t202.length : Int) t221 (t202.length : Int) 0 t201 t202 t205 t206 t201 (([(⟨t217, t218⟩ : S40)] : List (S40)))) = some r := H
         have A40 := Aside0.mk A400
         clear A400
         obtain ⟨y223, hy223⟩ : ∃ y_ : List (S40), y_ = (([(⟨t217, t218⟩ : S40)] : List (S40))) := ⟨_, rfl⟩
         replace H : (downpourlaw04_ReduceUnique.l0 kj5 ji34 (t202.length : Int) t221 (t202.length : Int) 0 t201 t202 t205 t206 t201 y223) = some r := by first | (rw [hy223]; with_reducible exact H) | (have H2_ := (Option.bind_some _ _).symm.trans H; rw [hy223]; with_reducible exact H2_) | (have H2_ := (Option.bind_some _ _).symm.trans H; with_reducible exact H2_) | with_reducible exact H | (rw [hy223]; exact H) | exact H
         have Ny223 := Aside0.mk hy223
         clear hy223
         have H' := Aside0.mk H
         clear H
         have hnb41 := NB200_213.out
         have hnc41 := NB213_200.out
         have hcz42_0 : wc.cell? ⟨gb200, 0, none⟩ = some (.int .i64 t201) := (blk_cell BK200.out 0).trans rfl
         have hcz42_1 : wc.cell? ⟨gb200, 1, none⟩ = some (.slice Ao11 t202.length co11) := (blk_cell BK200.out 1).trans rfl
         have hfz42_0 := blk_frozen BK200.out 0
         have hfz42_1 := blk_frozen BK200.out 1
         try go_wp2
         have n0_ := am (Kd.N_drew HO_201001.out)
         have n1_ := am (Kd.N_drew HO_214001.out)
         have n2_ := am (blk_drew BK200.out)
         have n3_ := am (blk_drew BK213.out)
         have n4_ := am (below_drew1 HB.out)
         clear HO_201001
         clear HO_214001
         clear BK200
         clear BK213
         clear HB
         have HO_201001 := n0_
         have HO_214001 := n1_
         have BK200 := n2_
         have BK213 := n3_
         have HB := n4_
         clear n0_ n1_ n2_ n3_ n4_
         refine start_ (n := 16) (S := fun w' => True) (ds := []) #[F, F, F, F, F, F, F, F, F, F, F, F, F, F, F, F] (by kernel_rfl) rfl rfl trivial (fun hHeld => ?_); refine with_tabW downpourlaw04_ReduceUnique.tab6 downpourlaw04_ReduceUnique.bits6 (fun HT_ HW_ => ?_)
         generalize wc.drew = w43 at HO_201001 HO_214001 BK200 BK213 HB hHeld ⊢
         refine pure_ (i := 0) (N := some 54) (v := ?_) (a' := ?_) #[T, F, F, F, F, F, F, F, F, F, F, F, F, F, F, F] rfl rfl (any_of HT_.out (by kernel_rfl)) (fun _ _ _ h => h) (Or.inl ⟨by rfl, ?_⟩) ?_ ?_
         rotate_left
         ·
          intro w'
          go_simp
          with_reducible rfl
         rotate_left
         ·
          simp only [Act.put, q1, q2, q3, i64_w, i32_w]
          rfl
         refine pure_ (i := 1) (N := some 55) (v := ?_) (a' := ?_) #[T, T, F, F, F, F, F, F, F, F, F, F, F, F, F, F] rfl rfl (any_of HT_.out (by kernel_rfl)) (fun _ _ _ h => h) (Or.inl ⟨by rfl, ?_⟩) ?_ ?_
         rotate_left
         ·
          intro w'
          go_simp
          with_reducible rfl
         rotate_left
         ·
          simp only [Act.put, q1, q2, q3, i64_w, i32_w]
          rfl
         refine pure_ (i := 2) (N := some 56) (v := ?_) (a' := ?_) #[T, T, T, F, F, F, F, F, F, F, F, F, F, F, F, F] rfl rfl (any_of HT_.out (by kernel_rfl)) (fun _ _ _ h => h) (Or.inl ⟨by rfl, ?_⟩) ?_ ?_
         rotate_left
         ·
          intro w'
          go_simp
          with_reducible rfl
         rotate_left
         ·
          simp only [Act.put, q1, q2, q3, i64_w, i32_w]
          rfl
         refine pure_ (i := 3) (N := some 57) (v := ?_) (a' := ?_) #[T, T, T, T, F, F, F, F, F, F, F, F, F, F, F, F] rfl rfl (any_of HT_.out (by kernel_rfl)) (fun _ _ _ h => h) (Or.inl ⟨by rfl, ?_⟩) ?_ ?_
         rotate_left
         ·
          intro w'
          go_simp
          with_reducible rfl
         rotate_left
         ·
          simp only [Act.put, q1, q2, q3, i64_w, i32_w]
          rfl
         refine pure_ (i := 4) (N := some 58) (v := ?_) (a' := ?_) #[T, T, T, T, T, F, F, F, F, F, F, F, F, F, F, F] rfl rfl (any_of HT_.out (by kernel_rfl)) (fun _ _ _ h => h) (Or.inl ⟨by rfl, ?_⟩) ?_ ?_
         rotate_left
         ·
          intro w'
          go_simp
          with_reducible rfl
         rotate_left
         ·
          simp only [Act.put, q1, q2, q3, i64_w, i32_w]
          rfl
         refine pure_ (i := 5) (N := some 59) (v := ?_) (a' := ?_) #[T, T, T, T, T, T, F, F, F, F, F, F, F, F, F, F] rfl rfl (any_of HT_.out (by kernel_rfl)) (fun _ _ _ h => h) (Or.inl ⟨by rfl, ?_⟩) ?_ ?_
         rotate_left
         ·
          intro w'
          go_simp
          with_reducible rfl
         rotate_left
         ·
          simp only [Act.put, q1, q2, q3, i64_w, i32_w]
          rfl
         refine pure_ (i := 6) (N := some 60) (v := ?_) (a' := ?_) #[T, T, T, T, T, T, T, F, F, F, F, F, F, F, F, F] rfl rfl (any_of HT_.out (by kernel_rfl)) (fun _ _ _ h => h) (Or.inl ⟨by rfl, ?_⟩) ?_ ?_
         rotate_left
         ·
          intro w'
          go_simp
          with_reducible rfl
         rotate_left
         ·
          simp only [Act.put, q1, q2, q3, i64_w, i32_w]
          rfl
         refine pure_ (i := 7) (N := some 61) (v := ?_) (a' := ?_) #[T, T, T, T, T, T, T, T, F, F, F, F, F, F, F, F] rfl rfl (any_of HT_.out (by kernel_rfl)) (fun _ _ _ h => h) (Or.inl ⟨by rfl, ?_⟩) ?_ ?_
         rotate_left
         ·
          intro w'
          go_simp
          with_reducible rfl
         rotate_left
         ·
          simp only [Act.put, q1, q2, q3, i64_w, i32_w]
          rfl
         refine pure_ (i := 8) (N := some 62) (v := ?_) (a' := ?_) #[T, T, T, T, T, T, T, T, T, F, F, F, F, F, F, F] rfl rfl (any_of HT_.out (by kernel_rfl)) (fun _ _ _ h => h) (Or.inl ⟨by rfl, ?_⟩) ?_ ?_
         rotate_left
         ·
          intro w'
          go_simp
          with_reducible rfl
         rotate_left
         ·
          simp only [Act.put, q1, q2, q3, i64_w, i32_w]
          rfl
         refine pure_ (i := 9) (N := some 63) (v := ?_) (a' := ?_) #[T, T, T, T, T, T, T, T, T, T, F, F, F, F, F, F] rfl rfl (any_of HT_.out (by kernel_rfl)) (fun _ _ _ h => h) (Or.inl ⟨by rfl, ?_⟩) ?_ ?_
         rotate_left
         ·
          intro w'
          go_simp
          with_reducible rfl
         rotate_left
         ·
          simp only [Act.put, q1, q2, q3, i64_w, i32_w]
          rfl
         refine pure_ (i := 10) (N := some 64) (v := ?_) (a' := ?_) #[T, T, T, T, T, T, T, T, T, T, T, F, F, F, F, F] rfl rfl (any_of HT_.out (by kernel_rfl)) (fun _ _ _ h => h) (Or.inl ⟨by rfl, ?_⟩) ?_ ?_
         rotate_left
         ·
          intro w'
          go_simp
          with_reducible rfl
         rotate_left
         ·
          simp only [Act.put, q1, q2, q3, i64_w, i32_w]
          rfl
         refine pure_ (i := 11) (N := some 65) (v := ?_) (a' := ?_) #[T, T, T, T, T, T, T, T, T, T, T, T, F, F, F, F] rfl rfl (any_of HT_.out (by kernel_rfl)) (fun _ _ _ h => h) (Or.inl ⟨by rfl, ?_⟩) ?_ ?_
         rotate_left
         ·
          intro w'
          go_simp
          with_reducible rfl
         rotate_left
         ·
          simp only [Act.put, q1, q2, q3, i64_w, i32_w]
          rfl
         refine pure_ (i := 12) (N := some 66) (v := ?_) (a' := ?_) #[T, T, T, T, T, T, T, T, T, T, T, T, T, F, F, F] rfl rfl (any_of HT_.out (by kernel_rfl)) (fun _ _ _ h => h) (Or.inl ⟨by rfl, ?_⟩) ?_ ?_
         rotate_left
         ·
          intro w'
          go_simp
          with_reducible rfl
         rotate_left
         ·
          simp only [Act.put, q1, q2, q3, i64_w, i32_w]
          rfl
         refine pure_ (i := 13) (N := some 67) (v := ?_) (a' := ?_) #[T, T, T, T, T, T, T, T, T, T, T, T, T, T, F, F] rfl rfl (any_of HT_.out (by kernel_rfl)) (fun _ _ _ h => h) (Or.inl ⟨by rfl, ?_⟩) ?_ ?_
         rotate_left
         ·
          intro w'
          go_simp
          with_reducible rfl
         rotate_left
         ·
          simp only [Act.put, q1, q2, q3, i64_w, i32_w]
          rfl
         refine pure_ (i := 14) (N := some 1) (v := ?_) (a' := ?_) #[T, T, T, T, T, T, T, T, T, T, T, T, T, T, T, F] rfl rfl (any_of HT_.out (by kernel_rfl)) (fun _ _ _ h => h) (Or.inl ⟨by rfl, ?_⟩) ?_ ?_
         rotate_left
         ·
          intro w'
          go_simp
          with_reducible rfl
         rotate_left
         ·
          simp only [Act.put, q1, q2, q3, i64_w, i32_w]
          rfl
         refine pure_ (i := 15) (N := some 2) (v := ?_) (a' := ?_) #[T, T, T, T, T, T, T, T, T, T, T, T, T, T, T, T] rfl rfl (any_of HT_.out (by kernel_rfl)) (fun _ _ _ h => h) (Or.inl ⟨by rfl, ?_⟩) ?_ ?_
         rotate_left
         ·
          intro w'
          go_simp
          with_reducible rfl
         rotate_left
         ·
          simp only [Act.put, q1, q2, q3, i64_w, i32_w]
          rfl
         refine done_ (done_of HT_.out (by kernel_rfl)) ?_
         try go_wp2
         have n0_ := am (Kd.N_drew HO_201001.out)
         have n1_ := am (Kd.N_drew HO_214001.out)
         have n2_ := am (blk_drew BK200.out)
         have n3_ := am (blk_drew BK213.out)
         have n4_ := am (below_drew1 HB.out)
         clear HO_201001
         clear HO_214001
         clear BK200
         clear BK213
         clear HB
         have HO_201001 := n0_
         have HO_214001 := n1_
         have BK200 := n2_
         have BK213 := n3_
         have HB := n4_
         clear n0_ n1_ n2_ n3_ n4_
         have p215 : 0 ≤ ((ji34) : Int) := of_decide_eq_true (by first | (with_reducible assumption) | assumption)
         have q215 : (ji34) < (t202.length : Int) := of_decide_eq_true (by first | (with_reducible assumption) | assumption)
         obtain ⟨ad215, A215_1, c215_1, e215, hx215_0, hx215_1, hl215_1, hi215_1⟩ := at_T40 (Kd.N_reads' HO_201001.out).2.2 (ji34) p215 q215
         cases e215
         obtain ⟨ce215, hce215, hMe215, hcc215⟩ := Kd.N_get HO_201001.out z40 (ji34) p215 (by first | exact q215 | exact of_decide_eq_true (by first | (with_reducible assumption) | assumption) | (have e_ := (Kd.N_reads' HO_201001.out).1; omega))
         obtain ⟨ua215_1, uc215_1, rfl, ul215_1, ge215_1⟩ := k40_openF hMe215
         have hv215_1 := hcc215 1 _ rfl
         rw [add_field _ _ 1 (by omega)] at hv215_1
         replace hv215_1 := Option.some.inj (hv215_1.symm.trans hx215_1)
         injection hv215_1 with hva_ hvn_ hvc_
         rw [hva_] at ge215_1
         rw [hvc_] at ul215_1
         have HL215_1 := am (show Kd.V (Kd.int .u64) 48 _ w.heap.size _ _ ((rd_T40 t202 (ji34)).f1) from Kd.V_mk ul215_1 ge215_1)
         clear hva_ hvn_ hvc_ ge215_1 ul215_1
         clear hcc215 hce215
         have HR215_1 := Aside0.mk hi215_1
         have HC215_1 := Aside0.mk hl215_1
         clear hi215_1 hl215_1
         replace p215 := eq_true p215
         replace q215 := eq_true q215
         have p216 : 0 ≤ ((ji37) : Int) := of_decide_eq_true (by first | (with_reducible assumption) | assumption)
         have q216 : (ji37) < (t202.length : Int) := of_decide_eq_true (by first | (with_reducible assumption) | assumption)
         obtain ⟨ad216, A216_1, c216_1, e216, hx216_0, hx216_1, hl216_1, hi216_1⟩ := at_T40 (Kd.N_reads' HO_201001.out).2.2 (ji37) p216 q216
         obtain rfl : ad215 = ad216 := (by injection e216)
         obtain ⟨ce216, hce216, hMe216, hcc216⟩ := Kd.N_get HO_201001.out z40 (ji37) p216 (by first | exact q216 | exact of_decide_eq_true (by first | (with_reducible assumption) | assumption) | (have e_ := (Kd.N_reads' HO_201001.out).1; omega))
         obtain ⟨ua216_1, uc216_1, rfl, ul216_1, ge216_1⟩ := k40_openF hMe216
         have hv216_1 := hcc216 1 _ rfl
         rw [add_field _ _ 1 (by omega)] at hv216_1
         replace hv216_1 := Option.some.inj (hv216_1.symm.trans hx216_1)
         injection hv216_1 with hva_ hvn_ hvc_
         rw [hva_] at ge216_1
         rw [hvc_] at ul216_1
         have HL216_1 := am (show Kd.V (Kd.int .u64) 48 _ w.heap.size _ _ ((rd_T40 t202 (ji37)).f1) from Kd.V_mk ul216_1 ge216_1)
         clear hva_ hvn_ hvc_ ge216_1 ul216_1
         clear hcc216 hce216
         have HR216_1 := Aside0.mk hi216_1
         have HC216_1 := Aside0.mk hl216_1
         clear hi216_1 hl216_1
         replace p216 := eq_true p216
         replace q216 := eq_true q216
         refine start_ (n := 17) (S := fun w' => w'.cell? ⟨gb200, 0, none⟩ = some (.int .i64 t201) ∧ w'.cell? ⟨gb200, 1, none⟩ = some (.slice (some ad215) t202.length co11) ∧ w'.cell? (ad215.add (((ji34)).toNat * 2)) = some (.int .i64 ((rd_T40 t202 (ji34)).f0)) ∧ w'.cell? ⟨(ad215.add (((ji34)).toNat * 2)).block, (ad215.add (((ji34)).toNat * 2)).off + 1, none⟩ = some (.slice A215_1 ((rd_T40 t202 (ji34)).f1).length c215_1) ∧ w'.cell? (ad215.add (((ji37)).toNat * 2)) = some (.int .i64 ((rd_T40 t202 (ji37)).f0)) ∧ w'.cell? ⟨(ad215.add (((ji37)).toNat * 2)).block, (ad215.add (((ji37)).toNat * 2)).off + 1, none⟩ = some (.slice A216_1 ((rd_T40 t202 (ji37)).f1).length c216_1)) (ds := []) #[F, F, F, F, F, F, F, F, F, F, F, F, F, F, F, F, F] (by kernel_rfl) rfl rfl ⟨(blk_cell BK200.out 0).trans rfl, (blk_cell BK200.out 1).trans rfl, hx215_0, hx215_1, hx216_0, hx216_1⟩ (fun hHeld => ?_); refine with_tabW downpourlaw04_ReduceUnique.tab7 downpourlaw04_ReduceUnique.bits7 (fun HT_ HW_ => ?_)
         generalize w43.drew = w44 at HO_201001 HO_214001 BK200 BK213 HB HL215_1 HL216_1 HR215_1 HR216_1 hx215_0 hx215_1 hx216_0 hx216_1 hHeld ⊢
         refine pure_ (i := 0) (N := some 69) (v := ?_) (a' := ?_) #[T, F, F, F, F, F, F, F, F, F, F, F, F, F, F, F, F] rfl rfl (any_of HT_.out (by kernel_rfl)) (fun _ _ _ h => h) (Or.inl ⟨by rfl, ?_⟩) ?_ ?_
         rotate_left
         ·
          intro w'
          go_simp
          with_reducible rfl
         rotate_left
         ·
          simp only [Act.put, q1, q2, q3, i64_w, i32_w]
          rfl
         refine pure_ (i := 2) (N := some 71) (v := ?_) (a' := ?_) #[T, F, T, F, F, F, F, F, F, F, F, F, F, F, F, F, F] rfl rfl (any_of HT_.out (by kernel_rfl)) (fun _ _ _ h => h) (Or.inl ⟨by rfl, ?_⟩) ?_ ?_
         rotate_left
         ·
          intro w'
          go_simp
          with_reducible rfl
         rotate_left
         ·
          simp only [Act.put, q1, q2, q3, i64_w, i32_w]
          rfl
         refine pure_ (i := 5) (N := some 74) (v := ?_) (a' := ?_) #[T, F, T, F, F, T, F, F, F, F, F, F, F, F, F, F, F] rfl rfl (any_of HT_.out (by kernel_rfl)) (fun _ _ _ h => h) (Or.inl ⟨by rfl, ?_⟩) ?_ ?_
         rotate_left
         ·
          intro w'
          go_simp
          with_reducible rfl
         rotate_left
         ·
          simp only [Act.put, q1, q2, q3, i64_w, i32_w]
          rfl
         refine pure_ (i := 7) (N := some 76) (v := ?_) (a' := ?_) #[T, F, T, F, F, T, F, T, F, F, F, F, F, F, F, F, F] rfl rfl (any_of HT_.out (by kernel_rfl)) (fun _ _ _ h => h) (Or.inl ⟨by rfl, ?_⟩) ?_ ?_
         rotate_left
         ·
          intro w'
          go_simp
          with_reducible rfl
         rotate_left
         ·
          simp only [Act.put, q1, q2, q3, i64_w, i32_w]
          rfl
         refine take_ (i := 1) (N := some 70) (v := ?_) (a' := ?_) #[T, T, T, F, F, T, F, T, F, F, F, F, F, F, F, F, F] rfl rfl (take_ofW HT_.out HW_.out (by kernel_rfl)) (fun _ _ _ h => h) (Or.inl ⟨by rfl, ?_⟩) hHeld ?_ ?_
         rotate_left
         ·
          rintro w' ⟨s0, s1, s2, s3, s4, s5⟩
          go_simp
          with_reducible rfl
         rotate_left
         ·
          simp only [Act.put, q1, q2, q3, i64_w, i32_w]
          rfl
         refine pure_ (i := 3) (N := some 72) (v := ?_) (a' := ?_) #[T, T, T, T, F, T, F, T, F, F, F, F, F, F, F, F, F] rfl rfl (any_of HT_.out (by kernel_rfl)) (fun _ _ _ h => h) (Or.inl ⟨by rfl, ?_⟩) ?_ ?_
         rotate_left
         ·
          intro w'
          go_simp
          with_reducible rfl
         rotate_left
         ·
          simp only [Act.put, q1, q2, q3, i64_w, i32_w]
          rfl
         refine take_ (i := 4) (N := some 73) (v := ?_) (a' := ?_) #[T, T, T, T, T, T, F, T, F, F, F, F, F, F, F, F, F] rfl rfl (take_ofW HT_.out HW_.out (by kernel_rfl)) (fun _ _ _ h => h) (Or.inl ⟨by rfl, ?_⟩) hHeld ?_ ?_
         rotate_left
         ·
          rintro w' ⟨s0, s1, s2, s3, s4, s5⟩
          go_simp
          with_reducible rfl
         rotate_left
         ·
          simp only [Act.put, q1, q2, q3, i64_w, i32_w]
          rfl
         refine take_ (i := 6) (N := some 75) (v := ?_) (a' := ?_) #[T, T, T, T, T, T, T, T, F, F, F, F, F, F, F, F, F] rfl rfl (take_ofW HT_.out HW_.out (by kernel_rfl)) (fun _ _ _ h => h) (Or.inl ⟨by rfl, ?_⟩) hHeld ?_ ?_
         rotate_left
         ·
          rintro w' ⟨s0, s1, s2, s3, s4, s5⟩
          go_simp
          with_reducible rfl
         rotate_left
         ·
          simp only [Act.put, q1, q2, q3, i64_w, i32_w]
          rfl
         refine pure_ (i := 8) (N := some 77) (v := ?_) (a' := ?_) #[T, T, T, T, T, T, T, T, T, F, F, F, F, F, F, F, F] rfl rfl (any_of HT_.out (by kernel_rfl)) (fun _ _ _ h => h) (Or.inl ⟨by rfl, ?_⟩) ?_ ?_
         rotate_left
         ·
          intro w'
          go_simp
          with_reducible rfl
         rotate_left
         ·
          simp only [Act.put, q1, q2, q3, i64_w, i32_w]
          rfl
         refine take_ (i := 9) (N := some 78) (v := ?_) (a' := ?_) #[T, T, T, T, T, T, T, T, T, T, F, F, F, F, F, F, F] rfl rfl (take_ofW HT_.out HW_.out (by kernel_rfl)) (fun _ _ _ h => h) (Or.inl ⟨by rfl, ?_⟩) hHeld ?_ ?_
         rotate_left
         ·
          rintro w' ⟨s0, s1, s2, s3, s4, s5⟩
          go_simp
          with_reducible rfl
         rotate_left
         ·
          simp only [Act.put, q1, q2, q3, i64_w, i32_w]
          rfl
         refine join_ (σ := Value × Nat) 2 #[T, T, T, T, T, T, T, T, T, T, T, T, T, T, T, F, F] (fun s_ => [(79, .tuple #[.agg #[.int .i64 t217, s_.1], .int .i64 t221]), (11, .pointer (some ⟨s_.2, 0, none⟩)), (68, .tuple #[.agg #[.int .i64 t217, s_.1], .int .i64 t221]), (80, .agg #[.int .i64 t217, s_.1]), (81, .int .i64 t221)]) (fun s_ w' => (w'.cell? ⟨gb200, 0, none⟩ = some (.int .i64 t201) ∧ w'.cell? ⟨gb200, 1, none⟩ = some (.slice (some ad215) t202.length co11) ∧ w'.cell? (ad215.add (((ji34)).toNat * 2)) = some (.int .i64 ((rd_T40 t202 (ji34)).f0)) ∧ w'.cell? ⟨(ad215.add (((ji34)).toNat * 2)).block, (ad215.add (((ji34)).toNat * 2)).off + 1, none⟩ = some (.slice A215_1 ((rd_T40 t202 (ji34)).f1).length c215_1) ∧ w'.cell? (ad215.add (((ji37)).toNat * 2)) = some (.int .i64 ((rd_T40 t202 (ji37)).f0)) ∧ w'.cell? ⟨(ad215.add (((ji37)).toNat * 2)).block, (ad215.add (((ji37)).toNat * 2)).off + 1, none⟩ = some (.slice A216_1 ((rd_T40 t202 (ji37)).f1).length c216_1)) ∧ (Kd.V (Kd.int .u64) 48 w' w.heap.size (fun k_ => some k_ ≠ (s_.1 : Value).ownBlock ∧ some k_ ≠ (.slice (some ad215) t202.length co11 : Value).ownBlock ∧ some k_ ≠ (.slice Ao18 t206.length co18 : Value).ownBlock ∧ k_ ≠ gb200 ∧ k_ ≠ gb213 ∧ k_ ≠ s_.2) (.slice A215_1 ((rd_T40 t202 (ji34)).f1).length c215_1) ((rd_T40 t202 (ji34)).f1)) ∧ (Kd.V (Kd.int .u64) 48 w' w.heap.size (fun k_ => some k_ ≠ (s_.1 : Value).ownBlock ∧ some k_ ≠ (.slice (some ad215) t202.length co11 : Value).ownBlock ∧ some k_ ≠ (.slice Ao18 t206.length co18 : Value).ownBlock ∧ k_ ≠ gb200 ∧ k_ ≠ gb213 ∧ k_ ≠ s_.2) (.slice A216_1 ((rd_T40 t202 (ji37)).f1).length c216_1) ((rd_T40 t202 (ji37)).f1)) ∧ (Kd.R (Kd.int .u64) 48 w' w.heap.size (fun _ => True) s_.1 t218) ∧ (Kd.N k40 40 w' w.heap.size (fun k_ => some k_ ≠ (s_.1 : Value).ownBlock ∧ some k_ ≠ (.slice Ao18 t206.length co18 : Value).ownBlock ∧ k_ ≠ gb200 ∧ k_ ≠ gb213 ∧ k_ ≠ s_.2) (.slice (some ad215) t202.length co11) t202) ∧ (Kd.N k40 40 w' w.heap.size (fun k_ => some k_ ≠ (s_.1 : Value).ownBlock ∧ k_ ≠ gb200 ∧ k_ ≠ gb213 ∧ k_ ≠ s_.2) (.slice Ao18 t206.length co18) t206) ∧ (w'.heap[gb200]? = some (.cells #[.int .i64 t201, .slice (some ad215) t202.length co11] 24 (0, 0))) ∧ (w'.heap[gb213]? = some (.cells #[.int .i64 t205, .slice Ao18 t206.length co18] 24 (0, 0))) ∧ (w'.heap[s_.2]? = some (.cells #[.int .i64 0, .slice none 0 0] 40 (0, 0))) ∧ (w.heap.size ≤ s_.2) ∧ (w.heap.size ≤ s_.2) ∧ (gb200 ≠ s_.2) ∧ (s_.2 ≠ gb200) ∧ (gb213 ≠ s_.2) ∧ (s_.2 ≠ gb213) ∧ (Below w.heap.size w w')) ?_ ?_
         rotate_left
         ·
          intro hCont
          refine two_ (i := 10) (j := 14) (Ni := some 79) (Nj := some 11) #[T, T, T, T, T, T, T, T, T, T, T, F, F, F, F, F, F] #[T, T, T, T, T, T, T, T, T, T, F, F, F, F, T, F, F] rfl rfl rfl rfl (two_of HT_.out (by kernel_rfl)) (by decide) (by decide) (fun K hK => ?_) (fun K hK => ?_)
          ·
           skip
           refine goes_ Try.func16 (by kernel_rfl) rfl #[.agg #[.int .i64 ((rd_T40 t202 (ji34)).f0), .slice A215_1 ((rd_T40 t202 (ji34)).f1).length c215_1], .agg #[.int .i64 ((rd_T40 t202 (ji37)).f0), .slice A216_1 ((rd_T40 t202 (ji37)).f1).length c216_1]] (by rfl) rfl rfl (by (try simp only [List.map_toArray, List.map_cons, List.map_nil]); first | done | (simp only [hji34, hji37]; rfl) | rfl | (simp only [List.length_drop, List.length_take]; rfl)) ?_
           with_reducible refine (bitrow_Xor.calls kj5 ((rd_T40 t202 (ji34)).f0) _ _ ((rd_T40 t202 (ji34)).f1) ((rd_T40 t202 (ji37)).f0) _ _ ((rd_T40 t202 (ji37)).f1) t217 t218 t221 _ ?side1 ?side2 ?side3 ?side4 A40.out).mono ?_
           (case side1 => repeat (first | exact (by repeat (first | (with_reducible exact HR215_1.out) | (with_reducible refine Kd.C_alloc ?_ _) | (with_reducible refine Kd.C_drewN ?_ _) | (with_reducible refine Kd.C_drew ?_) | exact HR215_1.out)) | (with_reducible refine Kd.C_alloc ?_ _) | (with_reducible refine Kd.C_drewN ?_ _) | (with_reducible refine Kd.C_drew ?_)))
           (case side2 => exact HC215_1.out)
           (case side3 => repeat (first | exact (by repeat (first | (with_reducible exact HR216_1.out) | (with_reducible refine Kd.C_alloc ?_ _) | (with_reducible refine Kd.C_drewN ?_ _) | (with_reducible refine Kd.C_drew ?_) | exact HR216_1.out)) | (with_reducible refine Kd.C_alloc ?_ _) | (with_reducible refine Kd.C_drewN ?_ _) | (with_reducible refine Kd.C_drew ?_)))
           (case side4 => exact HC216_1.out)
           rintro e w45 ⟨v219, rfl, ho0, hb⟩
           have HS2_ := (hb.cell (World.block_lt_of_cell? _ _ (hHeld.2.2.1))).trans (hHeld.2.2.1)
           have HS3_ := (hb.cell (World.block_lt_of_cell? _ _ (hHeld.2.2.2.1))).trans (hHeld.2.2.2.1)
           have HS4_ := (hb.cell (World.block_lt_of_cell? _ _ (hHeld.2.2.2.2.1))).trans (hHeld.2.2.2.2.1)
           have HS5_ := (hb.cell (World.block_lt_of_cell? _ _ (hHeld.2.2.2.2.2))).trans (hHeld.2.2.2.2.2)
           refine ⟨_, rfl, ?_⟩
           have n0_ := am (Kd.N_elder' (pn HO_201001) (Kd.R_base ho0) hb)
           have n1_ := am (Kd.N_elder' (pn HO_214001) (Kd.R_base ho0) hb)
           have n2_ := am (Kd.V_elder' (pv HL215_1) (Kd.R_base ho0) hb)
           have n3_ := am (Kd.V_elder' (pv HL216_1) (Kd.R_base ho0) hb)
           have n4_ := am (Kd.R_lower ho0 (below_size (pb HB)))
           have n5_ := bb BK200 hb
           have n6_ := bb BK213 hb
           have n7_ := am (Kd.C_below (by repeat (first | (with_reducible exact HR215_1.out) | (with_reducible refine Kd.C_alloc ?_ _) | (with_reducible refine Kd.C_drewN ?_ _) | (with_reducible refine Kd.C_drew ?_) | exact HR215_1.out)) hb)
           have n8_ := am (Kd.C_below (by repeat (first | (with_reducible exact HR216_1.out) | (with_reducible refine Kd.C_alloc ?_ _) | (with_reducible refine Kd.C_drewN ?_ _) | (with_reducible refine Kd.C_drew ?_) | exact HR216_1.out)) hb)
           have n9_ := am (below_step (pb HB) hb)
           clear HO_201001
           clear HO_214001
           clear HL215_1
           clear HL216_1
           clear BK200
           clear BK213
           clear HR215_1
           clear HR216_1
           clear HB
           have HO_201001 := n0_
           have HO_214001 := n1_
           have HL215_1 := n2_
           have HL216_1 := n3_
           have HO220 := n4_
           have BK200 := n5_
           have BK213 := n6_
           have HR215_1 := n7_
           have HR216_1 := n8_
           have HB := n9_
           clear n0_ n1_ n2_ n3_ n4_ n5_ n6_ n7_ n8_ n9_
           (try clear hb)
           (try clear hb2)
           (try clear hk)
           (try clear hi)
           (try clear ho0)
           refine hK.out _ _ ⟨(blk_cell BK200.out 0).trans rfl, (blk_cell BK200.out 1).trans rfl, HS2_, HS3_, HS4_, HS5_⟩ (fun hHeld => ?_)
           clear hK K
           refine norm_ (a' := ?_) ?_ ?_
           rotate_left
           ·
            show Act.put _ (some 79) _ = _
            simp only [Act.put, q1, q2, q3, i64_w, i32_w]
            rfl
           refine pure_ (i := 11) (N := some 68) (v := ?_) (a' := ?_) #[T, T, T, T, T, T, T, T, T, T, T, T, F, F, F, F, F] rfl rfl (any_of HT_.out (by kernel_rfl)) (fun _ _ _ h => h) (Or.inl ⟨by rfl, ?_⟩) ?_ ?_
           rotate_left
           ·
            intro w'
            go_simp
            with_reducible rfl
           rotate_left
           ·
            simp only [Act.put, q1, q2, q3, i64_w, i32_w]
            rfl
           refine pure_ (i := 12) (N := some 80) (v := ?_) (a' := ?_) #[T, T, T, T, T, T, T, T, T, T, T, T, T, F, F, F, F] rfl rfl (any_of HT_.out (by kernel_rfl)) (fun _ _ _ h => h) (Or.inl ⟨by rfl, ?_⟩) ?_ ?_
           rotate_left
           ·
            intro w'
            go_simp
            with_reducible rfl
           rotate_left
           ·
            simp only [Act.put, q1, q2, q3, i64_w, i32_w]
            rfl
           refine pure_ (i := 13) (N := some 81) (v := ?_) (a' := ?_) #[T, T, T, T, T, T, T, T, T, T, T, T, T, T, F, F, F] rfl rfl (any_of HT_.out (by kernel_rfl)) (fun _ _ _ h => h) (Or.inl ⟨by rfl, ?_⟩) ?_ ?_
           rotate_left
           ·
            intro w'
            go_simp
            with_reducible rfl
           rotate_left
           ·
            simp only [Act.put, q1, q2, q3, i64_w, i32_w]
            rfl
           refine one_ (i := 14) (N := some 11) #[T, T, T, T, T, T, T, T, T, T, T, T, T, T, T, F, F] rfl rfl (one_of HT_.out (by kernel_rfl)) (by decide) (fun K hK => ?_)
           refine box_step ?hg (N := 11) ?hd (cs := #[.int .i64 0, .slice none 0 0]) (t := 40) ?hr ?_; (case hd => rfl); (case hg => rfl); (case hr => first | (go_simp; done) | (go_simp; rfl))
           intro gb222 hg w46 hbox hb
           have HS2_ := (hb.cell (World.block_lt_of_cell? _ _ (hHeld.2.2.1))).trans (hHeld.2.2.1)
           have HS3_ := (hb.cell (World.block_lt_of_cell? _ _ (hHeld.2.2.2.1))).trans (hHeld.2.2.2.1)
           have HS4_ := (hb.cell (World.block_lt_of_cell? _ _ (hHeld.2.2.2.2.1))).trans (hHeld.2.2.2.2.1)
           have HS5_ := (hb.cell (World.block_lt_of_cell? _ _ (hHeld.2.2.2.2.2))).trans (hHeld.2.2.2.2.2)
           have n0_ := am (Kd.N_below (Kd.N_elderB (pn HO_201001) gb222 (Nat.le_of_eq hg.symm)) hb)
           have n1_ := am (Kd.N_below (Kd.N_elderB (pn HO_214001) gb222 (Nat.le_of_eq hg.symm)) hb)
           have n2_ := am (Kd.V_below (Kd.V_elderB (pv HL215_1) gb222 (Nat.le_of_eq hg.symm)) hb)
           have n3_ := am (Kd.V_below (Kd.V_elderB (pv HL216_1) gb222 (Nat.le_of_eq hg.symm)) hb)
           have n4_ := am (Kd.R_below (pr HO220) hb)
           have n5_ := bb BK200 hb
           have n6_ := bb BK213 hb
           have n7_ := am (Kd.C_below (by repeat (first | (with_reducible exact HR215_1.out) | (with_reducible refine Kd.C_alloc ?_ _) | (with_reducible refine Kd.C_drewN ?_ _) | (with_reducible refine Kd.C_drew ?_) | exact HR215_1.out)) hb)
           have n8_ := am (Kd.C_below (by repeat (first | (with_reducible exact HR216_1.out) | (with_reducible refine Kd.C_alloc ?_ _) | (with_reducible refine Kd.C_drewN ?_ _) | (with_reducible refine Kd.C_drew ?_) | exact HR216_1.out)) hb)
           have n9_ := am (below_step (pb HB) hb)
           have n10_ := am (hbox)
           have n11_ := am ((by rw [hg]; exact (below_size (pb HB)) : w.heap.size ≤ gb222))
           have n12_ := am ((by rw [hg]; exact (below_size (pb HB)) : w.heap.size ≤ gb222))
           have n13_ := am ((by rw [hg]; exact Nat.ne_of_lt (bl BK200) : gb200 ≠ gb222))
           have n14_ := am ((by rw [hg]; exact Nat.ne_of_gt (bl BK200) : gb222 ≠ gb200))
           have n15_ := am ((by rw [hg]; exact Nat.ne_of_lt (bl BK213) : gb213 ≠ gb222))
           have n16_ := am ((by rw [hg]; exact Nat.ne_of_gt (bl BK213) : gb222 ≠ gb213))
           clear HO_201001
           clear HO_214001
           clear HL215_1
           clear HL216_1
           clear HO220
           clear BK200
           clear BK213
           clear HR215_1
           clear HR216_1
           clear HB
           have HO_201001 := n0_
           have HO_214001 := n1_
           have HL215_1 := n2_
           have HL216_1 := n3_
           have HO220 := n4_
           have BK200 := n5_
           have BK213 := n6_
           have HR215_1 := n7_
           have HR216_1 := n8_
           have HB := n9_
           have BK222 := n10_
           have GW222 := n11_
           have GE222 := n12_
           have NB200_222 := n13_
           have NB222_200 := n14_
           have NB213_222 := n15_
           have NB222_213 := n16_
           clear n0_ n1_ n2_ n3_ n4_ n5_ n6_ n7_ n8_ n9_ n10_ n11_ n12_ n13_ n14_ n15_ n16_
           clear hb hbox hg
           refine hK.out _ _ ⟨(blk_cell BK200.out 0).trans rfl, (blk_cell BK200.out 1).trans rfl, HS2_, HS3_, HS4_, HS5_⟩ (fun hHeld => ?_)
           clear hK K
           refine norm_ (a' := ?_) ?_ ?_
           rotate_left
           ·
            show Act.put _ (some 11) _ = _
            simp only [Act.put, q1, q2, q3, i64_w, i32_w]
            rfl
           exact norm_ (by simp only [putAll, Act.put, q1, q2, q3]) (hCont (v219, gb222) _ ⟨hHeld, (by (with_reducible repeat (first | apply Kd.V_alloc | apply Kd.V_drewN | apply Kd.V_drew)); exact Kd.V_mono HL215_1.out (fun _ hk => ⟨hk.1.2, ⟨hk.1.1.2, ⟨hk.1.1.1.1, ⟨hk.1.1.1.2.1, ⟨hk.1.1.1.2.2, hk.2⟩⟩⟩⟩⟩)), (by (with_reducible repeat (first | apply Kd.V_alloc | apply Kd.V_drewN | apply Kd.V_drew)); exact Kd.V_mono HL216_1.out (fun _ hk => ⟨hk.1.2, ⟨hk.1.1.2, ⟨hk.1.1.1.1, ⟨hk.1.1.1.2.1, ⟨hk.1.1.1.2.2, hk.2⟩⟩⟩⟩⟩)), (pr HO220), (by (with_reducible repeat (first | apply Kd.N_alloc | apply Kd.N_drewN | apply Kd.N_drew)); exact Kd.N_mono HO_201001.out (fun _ hk => ⟨hk.1.2, ⟨hk.1.1.1, ⟨hk.1.1.2.1, ⟨hk.1.1.2.2, hk.2⟩⟩⟩⟩)), (by (with_reducible repeat (first | apply Kd.N_alloc | apply Kd.N_drewN | apply Kd.N_drew)); exact Kd.N_mono HO_214001.out (fun _ hk => ⟨hk.1.2, ⟨hk.1.1.1, ⟨hk.1.1.2, hk.2⟩⟩⟩)), (pk BK200), (pk BK213), (pk BK222), GW222.out, GE222.out, NB200_222.out, NB222_200.out, NB213_222.out, NB222_213.out, (pb HB)⟩)
          ·
           skip
           refine box_step ?hg (N := 11) ?hd (cs := #[.int .i64 0, .slice none 0 0]) (t := 40) ?hr ?_; (case hd => rfl); (case hg => rfl); (case hr => first | (go_simp; done) | (go_simp; rfl))
           intro gb222 hg w45 hbox hb
           have HS2_ := (hb.cell (World.block_lt_of_cell? _ _ (hHeld.2.2.1))).trans (hHeld.2.2.1)
           have HS3_ := (hb.cell (World.block_lt_of_cell? _ _ (hHeld.2.2.2.1))).trans (hHeld.2.2.2.1)
           have HS4_ := (hb.cell (World.block_lt_of_cell? _ _ (hHeld.2.2.2.2.1))).trans (hHeld.2.2.2.2.1)
           have HS5_ := (hb.cell (World.block_lt_of_cell? _ _ (hHeld.2.2.2.2.2))).trans (hHeld.2.2.2.2.2)
           have n0_ := am (Kd.N_below (Kd.N_elderB (pn HO_201001) gb222 (Nat.le_of_eq hg.symm)) hb)
           have n1_ := am (Kd.N_below (Kd.N_elderB (pn HO_214001) gb222 (Nat.le_of_eq hg.symm)) hb)
           have n2_ := am (Kd.V_below (Kd.V_elderB (pv HL215_1) gb222 (Nat.le_of_eq hg.symm)) hb)
           have n3_ := am (Kd.V_below (Kd.V_elderB (pv HL216_1) gb222 (Nat.le_of_eq hg.symm)) hb)
           have n4_ := bb BK200 hb
           have n5_ := bb BK213 hb
           have n6_ := am (Kd.C_below (by repeat (first | (with_reducible exact HR215_1.out) | (with_reducible refine Kd.C_alloc ?_ _) | (with_reducible refine Kd.C_drewN ?_ _) | (with_reducible refine Kd.C_drew ?_) | exact HR215_1.out)) hb)
           have n7_ := am (Kd.C_below (by repeat (first | (with_reducible exact HR216_1.out) | (with_reducible refine Kd.C_alloc ?_ _) | (with_reducible refine Kd.C_drewN ?_ _) | (with_reducible refine Kd.C_drew ?_) | exact HR216_1.out)) hb)
           have n8_ := am (below_step (pb HB) hb)
           have n9_ := am (hbox)
           have n10_ := am ((by rw [hg]; exact (below_size (pb HB)) : w.heap.size ≤ gb222))
           have n11_ := am ((by rw [hg]; exact (below_size (pb HB)) : w.heap.size ≤ gb222))
           have n12_ := am ((by rw [hg]; exact Nat.ne_of_lt (bl BK200) : gb200 ≠ gb222))
           have n13_ := am ((by rw [hg]; exact Nat.ne_of_gt (bl BK200) : gb222 ≠ gb200))
           have n14_ := am ((by rw [hg]; exact Nat.ne_of_lt (bl BK213) : gb213 ≠ gb222))
           have n15_ := am ((by rw [hg]; exact Nat.ne_of_gt (bl BK213) : gb222 ≠ gb213))
           clear HO_201001
           clear HO_214001
           clear HL215_1
           clear HL216_1
           clear BK200
           clear BK213
           clear HR215_1
           clear HR216_1
           clear HB
           have HO_201001 := n0_
           have HO_214001 := n1_
           have HL215_1 := n2_
           have HL216_1 := n3_
           have BK200 := n4_
           have BK213 := n5_
           have HR215_1 := n6_
           have HR216_1 := n7_
           have HB := n8_
           have BK222 := n9_
           have GW222 := n10_
           have GE222 := n11_
           have NB200_222 := n12_
           have NB222_200 := n13_
           have NB213_222 := n14_
           have NB222_213 := n15_
           clear n0_ n1_ n2_ n3_ n4_ n5_ n6_ n7_ n8_ n9_ n10_ n11_ n12_ n13_ n14_ n15_
           clear hb hbox hg
           refine hK.out _ _ ⟨(blk_cell BK200.out 0).trans rfl, (blk_cell BK200.out 1).trans rfl, HS2_, HS3_, HS4_, HS5_⟩ (fun hHeld => ?_)
           clear hK K
           refine norm_ (a' := ?_) ?_ ?_
           rotate_left
           ·
            show Act.put _ (some 11) _ = _
            simp only [Act.put, q1, q2, q3, i64_w, i32_w]
            rfl
           refine one_ (i := 10) (N := some 79) #[T, T, T, T, T, T, T, T, T, T, T, F, F, F, T, F, F] rfl rfl (one_of HT_.out (by kernel_rfl)) (by decide) (fun K hK => ?_)
           refine goes_ Try.func16 (by kernel_rfl) rfl #[.agg #[.int .i64 ((rd_T40 t202 (ji34)).f0), .slice A215_1 ((rd_T40 t202 (ji34)).f1).length c215_1], .agg #[.int .i64 ((rd_T40 t202 (ji37)).f0), .slice A216_1 ((rd_T40 t202 (ji37)).f1).length c216_1]] (by rfl) rfl rfl (by (try simp only [List.map_toArray, List.map_cons, List.map_nil]); first | done | (simp only [hji34, hji37]; rfl) | rfl | (simp only [List.length_drop, List.length_take]; rfl)) ?_
           with_reducible refine (bitrow_Xor.calls kj5 ((rd_T40 t202 (ji34)).f0) _ _ ((rd_T40 t202 (ji34)).f1) ((rd_T40 t202 (ji37)).f0) _ _ ((rd_T40 t202 (ji37)).f1) t217 t218 t221 _ ?side1 ?side2 ?side3 ?side4 A40.out).mono ?_
           (case side1 => repeat (first | exact (by repeat (first | (with_reducible exact HR215_1.out) | (with_reducible refine Kd.C_alloc ?_ _) | (with_reducible refine Kd.C_drewN ?_ _) | (with_reducible refine Kd.C_drew ?_) | exact HR215_1.out)) | (with_reducible refine Kd.C_alloc ?_ _) | (with_reducible refine Kd.C_drewN ?_ _) | (with_reducible refine Kd.C_drew ?_)))
           (case side2 => exact HC215_1.out)
           (case side3 => repeat (first | exact (by repeat (first | (with_reducible exact HR216_1.out) | (with_reducible refine Kd.C_alloc ?_ _) | (with_reducible refine Kd.C_drewN ?_ _) | (with_reducible refine Kd.C_drew ?_) | exact HR216_1.out)) | (with_reducible refine Kd.C_alloc ?_ _) | (with_reducible refine Kd.C_drewN ?_ _) | (with_reducible refine Kd.C_drew ?_)))
           (case side4 => exact HC216_1.out)
           rintro e w46 ⟨v219, rfl, ho0, hb⟩
           have HS2_ := (hb.cell (World.block_lt_of_cell? _ _ (hHeld.2.2.1))).trans (hHeld.2.2.1)
           have HS3_ := (hb.cell (World.block_lt_of_cell? _ _ (hHeld.2.2.2.1))).trans (hHeld.2.2.2.1)
           have HS4_ := (hb.cell (World.block_lt_of_cell? _ _ (hHeld.2.2.2.2.1))).trans (hHeld.2.2.2.2.1)
           have HS5_ := (hb.cell (World.block_lt_of_cell? _ _ (hHeld.2.2.2.2.2))).trans (hHeld.2.2.2.2.2)
           refine ⟨_, rfl, ?_⟩
           have n0_ := am (Kd.N_elder' (pn HO_201001) (Kd.R_base ho0) hb)
           have n1_ := am (Kd.N_elder' (pn HO_214001) (Kd.R_base ho0) hb)
           have n2_ := am (Kd.V_elder' (pv HL215_1) (Kd.R_base ho0) hb)
           have n3_ := am (Kd.V_elder' (pv HL216_1) (Kd.R_base ho0) hb)
           have n4_ := am (Kd.R_lower ho0 (below_size (pb HB)))
           have n5_ := bb BK200 hb
           have n6_ := bb BK213 hb
           have n7_ := am (Kd.C_below (by repeat (first | (with_reducible exact HR215_1.out) | (with_reducible refine Kd.C_alloc ?_ _) | (with_reducible refine Kd.C_drewN ?_ _) | (with_reducible refine Kd.C_drew ?_) | exact HR215_1.out)) hb)
           have n8_ := am (Kd.C_below (by repeat (first | (with_reducible exact HR216_1.out) | (with_reducible refine Kd.C_alloc ?_ _) | (with_reducible refine Kd.C_drewN ?_ _) | (with_reducible refine Kd.C_drew ?_) | exact HR216_1.out)) hb)
           have n9_ := bb BK222 hb
           have n10_ := am (below_step (pb HB) hb)
           clear HO_201001
           clear HO_214001
           clear HL215_1
           clear HL216_1
           clear BK200
           clear BK213
           clear HR215_1
           clear HR216_1
           clear BK222
           clear HB
           have HO_201001 := n0_
           have HO_214001 := n1_
           have HL215_1 := n2_
           have HL216_1 := n3_
           have HO220 := n4_
           have BK200 := n5_
           have BK213 := n6_
           have HR215_1 := n7_
           have HR216_1 := n8_
           have BK222 := n9_
           have HB := n10_
           clear n0_ n1_ n2_ n3_ n4_ n5_ n6_ n7_ n8_ n9_ n10_
           (try clear hb)
           (try clear hb2)
           (try clear hk)
           (try clear hi)
           (try clear ho0)
           refine hK.out _ _ ⟨(blk_cell BK200.out 0).trans rfl, (blk_cell BK200.out 1).trans rfl, HS2_, HS3_, HS4_, HS5_⟩ (fun hHeld => ?_)
           clear hK K
           refine norm_ (a' := ?_) ?_ ?_
           rotate_left
           ·
            show Act.put _ (some 79) _ = _
            simp only [Act.put, q1, q2, q3, i64_w, i32_w]
            rfl
           refine pure_ (i := 11) (N := some 68) (v := ?_) (a' := ?_) #[T, T, T, T, T, T, T, T, T, T, T, T, F, F, T, F, F] rfl rfl (any_of HT_.out (by kernel_rfl)) (fun _ _ _ h => h) (Or.inl ⟨by rfl, ?_⟩) ?_ ?_
           rotate_left
           ·
            intro w'
            go_simp
            with_reducible rfl
           rotate_left
           ·
            simp only [Act.put, q1, q2, q3, i64_w, i32_w]
            rfl
           refine pure_ (i := 12) (N := some 80) (v := ?_) (a' := ?_) #[T, T, T, T, T, T, T, T, T, T, T, T, T, F, T, F, F] rfl rfl (any_of HT_.out (by kernel_rfl)) (fun _ _ _ h => h) (Or.inl ⟨by rfl, ?_⟩) ?_ ?_
           rotate_left
           ·
            intro w'
            go_simp
            with_reducible rfl
           rotate_left
           ·
            simp only [Act.put, q1, q2, q3, i64_w, i32_w]
            rfl
           refine pure_ (i := 13) (N := some 81) (v := ?_) (a' := ?_) #[T, T, T, T, T, T, T, T, T, T, T, T, T, T, T, F, F] rfl rfl (any_of HT_.out (by kernel_rfl)) (fun _ _ _ h => h) (Or.inl ⟨by rfl, ?_⟩) ?_ ?_
           rotate_left
           ·
            intro w'
            go_simp
            with_reducible rfl
           rotate_left
           ·
            simp only [Act.put, q1, q2, q3, i64_w, i32_w]
            rfl
           exact norm_ (by simp only [putAll, Act.put, q1, q2, q3]) (hCont (v219, gb222) _ ⟨hHeld, (by (with_reducible repeat (first | apply Kd.V_alloc | apply Kd.V_drewN | apply Kd.V_drew)); exact Kd.V_mono HL215_1.out (fun _ hk => ⟨hk.2, ⟨hk.1.1.2, ⟨hk.1.1.1.1, ⟨hk.1.1.1.2.1, ⟨hk.1.1.1.2.2, hk.1.2⟩⟩⟩⟩⟩)), (by (with_reducible repeat (first | apply Kd.V_alloc | apply Kd.V_drewN | apply Kd.V_drew)); exact Kd.V_mono HL216_1.out (fun _ hk => ⟨hk.2, ⟨hk.1.1.2, ⟨hk.1.1.1.1, ⟨hk.1.1.1.2.1, ⟨hk.1.1.1.2.2, hk.1.2⟩⟩⟩⟩⟩)), (pr HO220), (by (with_reducible repeat (first | apply Kd.N_alloc | apply Kd.N_drewN | apply Kd.N_drew)); exact Kd.N_mono HO_201001.out (fun _ hk => ⟨hk.2, ⟨hk.1.1.1, ⟨hk.1.1.2.1, ⟨hk.1.1.2.2, hk.1.2⟩⟩⟩⟩)), (by (with_reducible repeat (first | apply Kd.N_alloc | apply Kd.N_drewN | apply Kd.N_drew)); exact Kd.N_mono HO_214001.out (fun _ hk => ⟨hk.2, ⟨hk.1.1.1, ⟨hk.1.1.2, hk.1.2⟩⟩⟩)), (pk BK200), (pk BK213), (pk BK222), GW222.out, GE222.out, NB200_222.out, NB222_200.out, NB213_222.out, NB222_213.out, (pb HB)⟩)
         rintro ⟨v219, gb222⟩ w47 ⟨hS_, h0_, h1_, h2_, h3_, h4_, h5_, h6_, h7_, h8_, h9_, h10_, h11_, h12_, h13_, h14_⟩
         have n0_ : Aside0 (Kd.V (Kd.int .u64) 48 w47 w.heap.size (fun k_ => some k_ ≠ (v219 : Value).ownBlock ∧ some k_ ≠ (.slice (some ad215) t202.length co11 : Value).ownBlock ∧ some k_ ≠ (.slice Ao18 t206.length co18 : Value).ownBlock ∧ k_ ≠ gb200 ∧ k_ ≠ gb213 ∧ k_ ≠ gb222) (.slice A215_1 ((rd_T40 t202 (ji34)).f1).length c215_1) ((rd_T40 t202 (ji34)).f1)) := ⟨h0_⟩
         have n1_ : Aside0 (Kd.V (Kd.int .u64) 48 w47 w.heap.size (fun k_ => some k_ ≠ (v219 : Value).ownBlock ∧ some k_ ≠ (.slice (some ad215) t202.length co11 : Value).ownBlock ∧ some k_ ≠ (.slice Ao18 t206.length co18 : Value).ownBlock ∧ k_ ≠ gb200 ∧ k_ ≠ gb213 ∧ k_ ≠ gb222) (.slice A216_1 ((rd_T40 t202 (ji37)).f1).length c216_1) ((rd_T40 t202 (ji37)).f1)) := ⟨h1_⟩
         have n2_ : Aside0 (Kd.R (Kd.int .u64) 48 w47 w.heap.size (fun _ => True) v219 t218) := ⟨h2_⟩
         have n3_ : Aside0 (Kd.N k40 40 w47 w.heap.size (fun k_ => some k_ ≠ (v219 : Value).ownBlock ∧ some k_ ≠ (.slice Ao18 t206.length co18 : Value).ownBlock ∧ k_ ≠ gb200 ∧ k_ ≠ gb213 ∧ k_ ≠ gb222) (.slice (some ad215) t202.length co11) t202) := ⟨h3_⟩
         have n4_ : Aside0 (Kd.N k40 40 w47 w.heap.size (fun k_ => some k_ ≠ (v219 : Value).ownBlock ∧ k_ ≠ gb200 ∧ k_ ≠ gb213 ∧ k_ ≠ gb222) (.slice Ao18 t206.length co18) t206) := ⟨h4_⟩
         have n5_ : Aside0 (w47.heap[gb200]? = some (.cells #[.int .i64 t201, .slice (some ad215) t202.length co11] 24 (0, 0))) := ⟨h5_⟩
         have n6_ : Aside0 (w47.heap[gb213]? = some (.cells #[.int .i64 t205, .slice Ao18 t206.length co18] 24 (0, 0))) := ⟨h6_⟩
         have n7_ : Aside0 (w47.heap[gb222]? = some (.cells #[.int .i64 0, .slice none 0 0] 40 (0, 0))) := ⟨h7_⟩
         have n8_ : Aside0 (w.heap.size ≤ gb222) := ⟨h8_⟩
         have n9_ : Aside0 (w.heap.size ≤ gb222) := ⟨h9_⟩
         have n10_ : Aside0 (gb200 ≠ gb222) := ⟨h10_⟩
         have n11_ : Aside0 (gb222 ≠ gb200) := ⟨h11_⟩
         have n12_ : Aside0 (gb213 ≠ gb222) := ⟨h12_⟩
         have n13_ : Aside0 (gb222 ≠ gb213) := ⟨h13_⟩
         have n14_ : Aside0 (Below w.heap.size w w47) := ⟨h14_⟩
         clear HO_201001
         clear HO_214001
         clear BK200
         clear BK213
         clear HB
         clear h0_ h1_ h2_ h3_ h4_ h5_ h6_ h7_ h8_ h9_ h10_ h11_ h12_ h13_ h14_
         have HL215_1 := n0_
         have HL216_1 := n1_
         have HO220 := n2_
         have HO_201001 := n3_
         have HO_214001 := n4_
         have BK200 := n5_
         have BK213 := n6_
         have BK222 := n7_
         have GW222 := n8_
         have GE222 := n9_
         have NB200_222 := n10_
         have NB222_200 := n11_
         have NB213_222 := n12_
         have NB222_213 := n13_
         have HB := n14_
         clear n0_ n1_ n2_ n3_ n4_ n5_ n6_ n7_ n8_ n9_ n10_ n11_ n12_ n13_ n14_
         have hHeld : w47.cell? ⟨gb200, 0, none⟩ = some (.int .i64 t201) ∧ w47.cell? ⟨gb200, 1, none⟩ = some (.slice (some ad215) t202.length co11) ∧ w47.cell? (ad215.add (((ji34)).toNat * 2)) = some (.int .i64 ((rd_T40 t202 (ji34)).f0)) ∧ w47.cell? ⟨(ad215.add (((ji34)).toNat * 2)).block, (ad215.add (((ji34)).toNat * 2)).off + 1, none⟩ = some (.slice A215_1 ((rd_T40 t202 (ji34)).f1).length c215_1) ∧ w47.cell? (ad215.add (((ji37)).toNat * 2)) = some (.int .i64 ((rd_T40 t202 (ji37)).f0)) ∧ w47.cell? ⟨(ad215.add (((ji37)).toNat * 2)).block, (ad215.add (((ji37)).toNat * 2)).off + 1, none⟩ = some (.slice A216_1 ((rd_T40 t202 (ji37)).f1).length c216_1) := hS_
         obtain ⟨Ao49, co49, eo49⟩ := Kd.R_slice HO220.out
         (first | subst eo49 | (injection eo49 with f1_ f2_ f3_; have f4_ := f1_.symm; have f5_ := f3_.symm; clear f1_ f2_ f3_; subst f4_; subst f5_))
         refine norm_ (a' := ?_) ?_ ?_
         rotate_left
         ·
          simp only [putAll, Act.put, q1, q2, q3]
          rfl
         refine one_ (i := 15) (N := none) #[T, T, T, T, T, T, T, T, T, T, T, T, T, T, T, T, F] rfl rfl (one_of HT_.out (by kernel_rfl)) (by decide) (fun K hK => ?_)
         have hs48 : w47.cell? ⟨gb222, 0, none⟩ = some (.int .i64 0) := (blk_cell BK222.out 0).trans rfl
         have hfs48 := blk_frozen BK222.out 0
         have hns48_0 := NB200_222.out
         have hns48_1 := NB213_222.out
         have hms48_0 := NB222_200.out
         have hms48_1 := NB222_213.out
         have hs50 : w47.cell? ⟨gb222, 1, none⟩ = some (.slice none 0 0) := (blk_cell BK222.out 1).trans rfl
         have hfs50 := blk_frozen BK222.out 1
         have hns50_0 := NB200_222.out
         have hns50_1 := NB213_222.out
         have hms50_0 := NB222_200.out
         have hms50_1 := NB222_213.out
         refine skip_ (w1 := ?_) (by rfl) rfl ?_ ?_
         rotate_left
         ·
          go_simp
          rfl
         refine hK.out _ _ ⟨((cell_far (p := ⟨gb222, _, none⟩) NB200_222.out _).trans (((cell_far (p := ⟨gb222, _, none⟩) NB200_222.out _).trans (hHeld.1)))), ((cell_far (p := ⟨gb222, _, none⟩) NB200_222.out _).trans (((cell_far (p := ⟨gb222, _, none⟩) NB200_222.out _).trans (hHeld.2.1)))), ((cell_far (p := ⟨gb222, _, none⟩) (by first | exact Kd.own_blk (Kd.N_away HO_201001.out (fun _ hk => hk.2.2.2.2)) | (rw [add_block]; exact Kd.own_blk (Kd.N_away HO_201001.out (fun _ hk => hk.2.2.2.2))) | (show (Addr.add _ _).block ≠ _; rw [add_block]; exact Kd.own_blk (Kd.N_away HO_201001.out (fun _ hk => hk.2.2.2.2))) | (dsimp only; exact Kd.own_blk (Kd.N_away HO_201001.out (fun _ hk => hk.2.2.2.2)))) _).trans (((cell_far (p := ⟨gb222, _, none⟩) (by first | exact Kd.own_blk (Kd.N_away HO_201001.out (fun _ hk => hk.2.2.2.2)) | (rw [add_block]; exact Kd.own_blk (Kd.N_away HO_201001.out (fun _ hk => hk.2.2.2.2))) | (show (Addr.add _ _).block ≠ _; rw [add_block]; exact Kd.own_blk (Kd.N_away HO_201001.out (fun _ hk => hk.2.2.2.2))) | (dsimp only; exact Kd.own_blk (Kd.N_away HO_201001.out (fun _ hk => hk.2.2.2.2)))) _).trans (hHeld.2.2.1)))), ((cell_far (p := ⟨gb222, _, none⟩) (by first | exact Kd.own_blk (Kd.N_away HO_201001.out (fun _ hk => hk.2.2.2.2)) | (rw [add_block]; exact Kd.own_blk (Kd.N_away HO_201001.out (fun _ hk => hk.2.2.2.2))) | (show (Addr.add _ _).block ≠ _; rw [add_block]; exact Kd.own_blk (Kd.N_away HO_201001.out (fun _ hk => hk.2.2.2.2))) | (dsimp only; exact Kd.own_blk (Kd.N_away HO_201001.out (fun _ hk => hk.2.2.2.2)))) _).trans (((cell_far (p := ⟨gb222, _, none⟩) (by first | exact Kd.own_blk (Kd.N_away HO_201001.out (fun _ hk => hk.2.2.2.2)) | (rw [add_block]; exact Kd.own_blk (Kd.N_away HO_201001.out (fun _ hk => hk.2.2.2.2))) | (show (Addr.add _ _).block ≠ _; rw [add_block]; exact Kd.own_blk (Kd.N_away HO_201001.out (fun _ hk => hk.2.2.2.2))) | (dsimp only; exact Kd.own_blk (Kd.N_away HO_201001.out (fun _ hk => hk.2.2.2.2)))) _).trans (hHeld.2.2.2.1)))), ((cell_far (p := ⟨gb222, _, none⟩) (by first | exact Kd.own_blk (Kd.N_away HO_201001.out (fun _ hk => hk.2.2.2.2)) | (rw [add_block]; exact Kd.own_blk (Kd.N_away HO_201001.out (fun _ hk => hk.2.2.2.2))) | (show (Addr.add _ _).block ≠ _; rw [add_block]; exact Kd.own_blk (Kd.N_away HO_201001.out (fun _ hk => hk.2.2.2.2))) | (dsimp only; exact Kd.own_blk (Kd.N_away HO_201001.out (fun _ hk => hk.2.2.2.2)))) _).trans (((cell_far (p := ⟨gb222, _, none⟩) (by first | exact Kd.own_blk (Kd.N_away HO_201001.out (fun _ hk => hk.2.2.2.2)) | (rw [add_block]; exact Kd.own_blk (Kd.N_away HO_201001.out (fun _ hk => hk.2.2.2.2))) | (show (Addr.add _ _).block ≠ _; rw [add_block]; exact Kd.own_blk (Kd.N_away HO_201001.out (fun _ hk => hk.2.2.2.2))) | (dsimp only; exact Kd.own_blk (Kd.N_away HO_201001.out (fun _ hk => hk.2.2.2.2)))) _).trans (hHeld.2.2.2.2.1)))), ((cell_far (p := ⟨gb222, _, none⟩) (by first | exact Kd.own_blk (Kd.N_away HO_201001.out (fun _ hk => hk.2.2.2.2)) | (rw [add_block]; exact Kd.own_blk (Kd.N_away HO_201001.out (fun _ hk => hk.2.2.2.2))) | (show (Addr.add _ _).block ≠ _; rw [add_block]; exact Kd.own_blk (Kd.N_away HO_201001.out (fun _ hk => hk.2.2.2.2))) | (dsimp only; exact Kd.own_blk (Kd.N_away HO_201001.out (fun _ hk => hk.2.2.2.2)))) _).trans (((cell_far (p := ⟨gb222, _, none⟩) (by first | exact Kd.own_blk (Kd.N_away HO_201001.out (fun _ hk => hk.2.2.2.2)) | (rw [add_block]; exact Kd.own_blk (Kd.N_away HO_201001.out (fun _ hk => hk.2.2.2.2))) | (show (Addr.add _ _).block ≠ _; rw [add_block]; exact Kd.own_blk (Kd.N_away HO_201001.out (fun _ hk => hk.2.2.2.2))) | (dsimp only; exact Kd.own_blk (Kd.N_away HO_201001.out (fun _ hk => hk.2.2.2.2)))) _).trans (hHeld.2.2.2.2.2))))⟩ (fun hHeld => ?_)
         clear hK K
         refine pure_ (i := 16) (N := some 12) (v := ?_) (a' := ?_) #[T, T, T, T, T, T, T, T, T, T, T, T, T, T, T, T, T] rfl rfl (any_of HT_.out (by kernel_rfl)) (fun _ _ _ h => h) (Or.inl ⟨by rfl, ?_⟩) ?_ ?_
         rotate_left
         ·
          intro w'
          go_simp
          with_reducible rfl
         rotate_left
         ·
          simp only [Act.put, q1, q2, q3, i64_w, i32_w]
          rfl
         refine done_ (done_of HT_.out (by kernel_rfl)) ?_
         obtain ⟨w51, hw⟩ : ∃ w_ : World, ((w47.setCell ⟨gb222, 0, none⟩ (.int .i64 t217)).setCell ⟨gb222, 1, none⟩ (.slice Ao49 t218.length co49)) = w_ := ⟨_, rfl⟩
         rw [hw]
         have n0_ : Aside0 (Kd.N k40 40 w51 w.heap.size (fun k_ => some k_ ≠ (.slice Ao18 t206.length co18 : Value).ownBlock ∧ some k_ ≠ (.slice Ao49 t218.length co49 : Value).ownBlock ∧ k_ ≠ gb200 ∧ k_ ≠ gb213 ∧ k_ ≠ gb222) (.slice (some ad215) t202.length co11) t202) := ⟨(by rw [← hw]; exact (by (with_reducible repeat (first | apply Kd.N_alloc | apply Kd.N_drewN | apply Kd.N_drew)); exact Kd.N_mono (Kd.N_far (p := ⟨gb222, 1, none⟩) (Kd.N_far (p := ⟨gb222, 0, none⟩) (Kd.N_mono HO_201001.out (fun k_ hk => (⟨hk, hk.2.2.2.2⟩ : _ ∧ k_ ≠ gb222))) (fun _ hk => hk.2) (.int .i64 t217)) (fun _ hk => hk.2) (.slice Ao49 t218.length co49)) (fun _ hk => ⟨hk.1.2.1, ⟨hk.1.1, ⟨hk.1.2.2.1, ⟨hk.1.2.2.2.1, hk.1.2.2.2.2⟩⟩⟩⟩)))⟩
         have n1_ : Aside0 (Kd.N k40 40 w51 w.heap.size (fun k_ => some k_ ≠ (.slice Ao49 t218.length co49 : Value).ownBlock ∧ k_ ≠ gb200 ∧ k_ ≠ gb213 ∧ k_ ≠ gb222) (.slice Ao18 t206.length co18) t206) := ⟨(by rw [← hw]; exact (by (with_reducible repeat (first | apply Kd.N_alloc | apply Kd.N_drewN | apply Kd.N_drew)); exact Kd.N_mono (Kd.N_far (p := ⟨gb222, 1, none⟩) (Kd.N_far (p := ⟨gb222, 0, none⟩) (Kd.N_mono HO_214001.out (fun k_ hk => (⟨hk, hk.2.2.2⟩ : _ ∧ k_ ≠ gb222))) (fun _ hk => hk.2) (.int .i64 t217)) (fun _ hk => hk.2) (.slice Ao49 t218.length co49)) (fun _ hk => ⟨hk.1.1, ⟨hk.1.2.1, ⟨hk.1.2.2.1, hk.1.2.2.2⟩⟩⟩)))⟩
         have n2_ : Aside0 (Kd.V (Kd.int .u64) 48 w51 w.heap.size (fun k_ => some k_ ≠ (.slice (some ad215) t202.length co11 : Value).ownBlock ∧ some k_ ≠ (.slice Ao18 t206.length co18 : Value).ownBlock ∧ some k_ ≠ (.slice Ao49 t218.length co49 : Value).ownBlock ∧ k_ ≠ gb200 ∧ k_ ≠ gb213 ∧ k_ ≠ gb222) (.slice A215_1 ((rd_T40 t202 (ji34)).f1).length c215_1) ((rd_T40 t202 (ji34)).f1)) := ⟨(by rw [← hw]; exact (by (with_reducible repeat (first | apply Kd.V_alloc | apply Kd.V_drewN | apply Kd.V_drew)); exact Kd.V_mono (Kd.V_far (p := ⟨gb222, 1, none⟩) (Kd.V_far (p := ⟨gb222, 0, none⟩) (Kd.V_mono HL215_1.out (fun k_ hk => (⟨hk, hk.2.2.2.2.2⟩ : _ ∧ k_ ≠ gb222))) (fun _ hk => hk.2) (.int .i64 t217)) (fun _ hk => hk.2) (.slice Ao49 t218.length co49)) (fun _ hk => ⟨hk.1.2.1, ⟨hk.1.2.2.1, ⟨hk.1.1, ⟨hk.1.2.2.2.1, ⟨hk.1.2.2.2.2.1, hk.1.2.2.2.2.2⟩⟩⟩⟩⟩)))⟩
         have n3_ : Aside0 (Kd.V (Kd.int .u64) 48 w51 w.heap.size (fun k_ => some k_ ≠ (.slice (some ad215) t202.length co11 : Value).ownBlock ∧ some k_ ≠ (.slice Ao18 t206.length co18 : Value).ownBlock ∧ some k_ ≠ (.slice Ao49 t218.length co49 : Value).ownBlock ∧ k_ ≠ gb200 ∧ k_ ≠ gb213 ∧ k_ ≠ gb222) (.slice A216_1 ((rd_T40 t202 (ji37)).f1).length c216_1) ((rd_T40 t202 (ji37)).f1)) := ⟨(by rw [← hw]; exact (by (with_reducible repeat (first | apply Kd.V_alloc | apply Kd.V_drewN | apply Kd.V_drew)); exact Kd.V_mono (Kd.V_far (p := ⟨gb222, 1, none⟩) (Kd.V_far (p := ⟨gb222, 0, none⟩) (Kd.V_mono HL216_1.out (fun k_ hk => (⟨hk, hk.2.2.2.2.2⟩ : _ ∧ k_ ≠ gb222))) (fun _ hk => hk.2) (.int .i64 t217)) (fun _ hk => hk.2) (.slice Ao49 t218.length co49)) (fun _ hk => ⟨hk.1.2.1, ⟨hk.1.2.2.1, ⟨hk.1.1, ⟨hk.1.2.2.2.1, ⟨hk.1.2.2.2.2.1, hk.1.2.2.2.2.2⟩⟩⟩⟩⟩)))⟩
         have n4_ : Aside0 (Kd.R (Kd.int .u64) 48 w51 w.heap.size (fun _ => True) (.slice Ao49 t218.length co49) t218) := ⟨(by rw [← hw]; exact (by (with_reducible repeat (first | apply Kd.R_alloc | apply Kd.R_drewN | apply Kd.R_drew)); exact Kd.R_mono (Kd.R_far (p := ⟨gb222, 1, none⟩) (Kd.R_far (p := ⟨gb222, 0, none⟩) (Kd.R_types HO220.out BK222.out (by decide)) (fun _ hk => hk.2) (.int .i64 t217)) (fun _ hk => hk.2) (.slice Ao49 t218.length co49)) (fun _ hk => trivial)))⟩
         have n5_ : Aside0 (w51.heap[gb200]? = some (.cells #[.int .i64 t201, .slice (some ad215) t202.length co11] 24 (0, 0))) := ⟨(by rw [← hw]; exact (by (with_reducible repeat (first | refine blk_drewN ?_ _ | refine blk_drew ?_ | refine blk_alloc ?_ _)); refine blk_far ?_ NB200_222.out _; (with_reducible repeat (first | refine blk_drewN ?_ _ | refine blk_drew ?_ | refine blk_alloc ?_ _)); refine blk_far ?_ NB200_222.out _; (with_reducible repeat (first | refine blk_drewN ?_ _ | refine blk_drew ?_ | refine blk_alloc ?_ _)); exact BK200.out))⟩
         have n6_ : Aside0 (w51.heap[gb213]? = some (.cells #[.int .i64 t205, .slice Ao18 t206.length co18] 24 (0, 0))) := ⟨(by rw [← hw]; exact (by (with_reducible repeat (first | refine blk_drewN ?_ _ | refine blk_drew ?_ | refine blk_alloc ?_ _)); refine blk_far ?_ NB213_222.out _; (with_reducible repeat (first | refine blk_drewN ?_ _ | refine blk_drew ?_ | refine blk_alloc ?_ _)); refine blk_far ?_ NB213_222.out _; (with_reducible repeat (first | refine blk_drewN ?_ _ | refine blk_drew ?_ | refine blk_alloc ?_ _)); exact BK213.out))⟩
         have n7_ : Aside0 (w51.heap[gb222]? = some (.cells #[.int .i64 t217, .slice Ao49 t218.length co49] 40 (0, 0))) := ⟨(by rw [← hw]; exact (by (with_reducible repeat (first | refine blk_drewN ?_ _ | refine blk_drew ?_ | refine blk_alloc ?_ _)); refine blk_put (cs := #[.int .i64 t217, .slice none 0 0]) ?_ 1 _ rfl; (with_reducible repeat (first | refine blk_drewN ?_ _ | refine blk_drew ?_ | refine blk_alloc ?_ _)); refine blk_put (cs := #[.int .i64 0, .slice none 0 0]) ?_ 0 _ rfl; (with_reducible repeat (first | refine blk_drewN ?_ _ | refine blk_drew ?_ | refine blk_alloc ?_ _)); exact BK222.out))⟩
         have n8_ : Aside0 (Below w.heap.size w w51) := ⟨(by rw [← hw]; exact (pb HB))⟩
         clear hw
         clear HO_201001
         clear HO_214001
         clear HL215_1
         clear HL216_1
         clear HO220
         clear BK200
         clear BK213
         clear BK222
         clear HB
         have HO_201001 := n0_
         have HO_214001 := n1_
         have HL215_1 := n2_
         have HL216_1 := n3_
         have HO220 := n4_
         have BK200 := n5_
         have BK213 := n6_
         have BK222 := n7_
         have HB := n8_
         clear n0_ n1_ n2_ n3_ n4_ n5_ n6_ n7_ n8_
         have hnb52 := NB200_222.out
         have hnc52 := NB222_200.out
         have hcz53_0 : w51.cell? ⟨gb200, 0, none⟩ = some (.int .i64 t201) := (blk_cell BK200.out 0).trans rfl
         have hcz53_1 : w51.cell? ⟨gb200, 1, none⟩ = some (.slice (some ad215) t202.length co11) := (blk_cell BK200.out 1).trans rfl
         have hfz53_0 := blk_frozen BK200.out 0
         have hfz53_1 := blk_frozen BK200.out 1
         have hnb54 := NB222_213.out
         have hnc54 := NB213_222.out
         have hcz55_0 : w51.cell? ⟨gb222, 0, none⟩ = some (.int .i64 t217) := (blk_cell BK222.out 0).trans rfl
         have hcz55_1 : w51.cell? ⟨gb222, 1, none⟩ = some (.slice Ao49 t218.length co49) := (blk_cell BK222.out 1).trans rfl
         have hfz55_0 := blk_frozen BK222.out 0
         have hfz55_1 := blk_frozen BK222.out 1
         try go_wp2_with (first | ((with_reducible refine gate_dst (N := 85) rfl ?_); (try (refine gate_guard (by rfl) ?_; dsimp only)); refine Kd.N_lit k40 _ 40 ?hg (N' := 85) ?hd (xs := ([(⟨t217, t218⟩ : S40)] : List (S40))) (inner := [.int .i64 t217, .slice Ao49 t218.length co49]) (ok := (fun k_ => some k_ ≠ (.slice (some ad215) t202.length co11 : Value).ownBlock ∧ some k_ ≠ (.slice Ao18 t206.length co18 : Value).ownBlock ∧ k_ ≠ gb200 ∧ k_ ≠ gb213 ∧ k_ ≠ gb222)) (okp := (fun k_ => some k_ ≠ (.slice (some ad215) t202.length co11 : Value).ownBlock ∧ some k_ ≠ (.slice Ao18 t206.length co18 : Value).ownBlock ∧ k_ ≠ gb200 ∧ k_ ≠ gb213 ∧ k_ ≠ gb222)) ?hr ?hp (fun _ hk => hk) ((show ∀ k_, w51.heap.size ≤ k_ → (fun k_ => some k_ ≠ (.slice (some ad215) t202.length co11 : Value).ownBlock ∧ some k_ ≠ (.slice Ao18 t206.length co18 : Value).ownBlock ∧ k_ ≠ gb200 ∧ k_ ≠ gb213 ∧ k_ ≠ gb222) k_ from fun k_ hk => ⟨Kd.fresh' (Kd.N_lt (pn HO_201001)) k_ hk, Kd.fresh' (Kd.N_lt (pn HO_214001)) k_ hk, Kd.freshB (g := gb200) (o := .cells #[.int .i64 t201, .slice (some ad215) t202.length co11] 24 (0, 0)) (pk BK200) k_ hk, Kd.freshB (g := gb213) (o := .cells #[.int .i64 t205, .slice Ao18 t206.length co18] 24 (0, 0)) (pk BK213) k_ hk, Kd.freshB (g := gb222) (o := .cells #[.int .i64 t217, .slice Ao49 t218.length co49] 40 (0, 0)) (pk BK222) k_ hk⟩) _ (Nat.le_refl _)) (Below.refl _ _) (Nat.le_refl _) (by simp) ?_; (case hd => rfl); (case hg => rfl); (case hr => first | (go_simp; done) | (go_simp; rfl)); (case hp => exact (Reps.c2 (show Kd.FK k40 _ _ (⟨t217, t218⟩ : S40) [.int .i64 t217, .slice Ao49 t218.length co49] from (k40_mkF _ _ (⟨t217, t218⟩ : S40) (Kd.R_reads' (Kd.R_mono (ok' := (fun k_ => some k_ ≠ (.slice (some ad215) t202.length co11 : Value).ownBlock ∧ some k_ ≠ (.slice Ao18 t206.length co18 : Value).ownBlock ∧ k_ ≠ gb200 ∧ k_ ≠ gb213 ∧ k_ ≠ gb222)) (Kd.R_types (Kd.R_types (Kd.R_types (Kd.R_apart' (Kd.R_apart' (HO220.out) (Kd.N_typed HO_201001.out) (by decide)) (Kd.N_typed HO_214001.out) (by decide)) BK200.out (by decide)) BK213.out (by decide)) BK222.out (by decide)) (fun k_ hk => ⟨hk.1.1.1.1.2, ⟨hk.1.1.1.2, ⟨hk.1.1.2, ⟨hk.1.2, hk.2⟩⟩⟩⟩))).2.1 (Kd.R_F (Kd.R_mono (ok' := (fun k_ => some k_ ≠ (.slice (some ad215) t202.length co11 : Value).ownBlock ∧ some k_ ≠ (.slice Ao18 t206.length co18 : Value).ownBlock ∧ k_ ≠ gb200 ∧ k_ ≠ gb213 ∧ k_ ≠ gb222)) (Kd.R_types (Kd.R_types (Kd.R_types (Kd.R_apart' (Kd.R_apart' (HO220.out) (Kd.N_typed HO_201001.out) (by decide)) (Kd.N_typed HO_214001.out) (by decide)) BK200.out (by decide)) BK213.out (by decide)) BK222.out (by decide)) (fun k_ hk => ⟨hk.1.1.1.1.2, ⟨hk.1.1.1.2, ⟨hk.1.1.2, ⟨hk.1.2, hk.2⟩⟩⟩⟩))))) (Reps.none _ _))); intro v224 w56 ho57 hb hg_ hnew_; clear hg_ hnew_; (first | rw [← Ny223.out] at ho57 | (simp only [Int.reduceToNat] at ho57; rw [← Ny223.out] at ho57)); have n0_ := am (Kd.N_elder' (pn HO_201001) (by first | exact Kd.N_base ho57 | exact Kd.S_base ho57 | exact Kd.R_base ho57) hb); have n1_ := am (Kd.N_elder' (pn HO_214001) (by first | exact Kd.N_base ho57 | exact Kd.S_base ho57 | exact Kd.R_base ho57) hb); have n2_ := am (Kd.V_elder' (pv HL215_1) (by first | exact Kd.N_base ho57 | exact Kd.S_base ho57 | exact Kd.R_base ho57) hb); have n3_ := am (Kd.V_elder' (pv HL216_1) (by first | exact Kd.N_base ho57 | exact Kd.S_base ho57 | exact Kd.R_base ho57) hb); have n4_ := am (Kd.N_lower ho57 (below_size (pb HB))); have n5_ := bb BK200 hb; have n6_ := bb BK213 hb; have n7_ := bb BK222 hb; have n8_ := am (below_step (pb HB) hb); clear HO_201001 HO_214001 HL215_1 HL216_1 BK200 BK213 BK222 HB HO220; have HO_201001 := n0_; have HO_214001 := n1_; have HL215_1 := n2_; have HL216_1 := n3_; have HO225 := n4_; have BK200 := n5_; have BK213 := n6_; have BK222 := n7_; have HB := n8_; clear n0_ n1_ n2_ n3_ n4_ n5_ n6_ n7_ n8_ hb ho57; obtain ⟨Ao58, co58, eo58⟩ := Kd.N_slice HO225.out; subst eo58) | ((with_reducible refine gate_dst (N := 13) rfl ?_); (try (refine gate_guard (by rfl) ?_; dsimp only)); refine box_event ?hg (N := 13) ?hd (cs := #[.int .i64 0, .slice none 0 0]) (t := 24) ?hr ?_; (case hd => rfl); (case hg => rfl); (case hr => first | (go_simp; done) | (go_simp; rfl)); intro gb226 hg w59 hbox hb; have n0_ := am (Kd.N_below (Kd.N_elderB (pn HO_201001) gb226 (Nat.le_of_eq hg.symm)) hb); have n1_ := am (Kd.N_below (Kd.N_elderB (pn HO_214001) gb226 (Nat.le_of_eq hg.symm)) hb); have n2_ := am (Kd.V_below (Kd.V_elderB (pv HL215_1) gb226 (Nat.le_of_eq hg.symm)) hb); have n3_ := am (Kd.V_below (Kd.V_elderB (pv HL216_1) gb226 (Nat.le_of_eq hg.symm)) hb); have n4_ := am (Kd.N_below (Kd.N_elderB (pn HO225) gb226 (Nat.le_of_eq hg.symm)) hb); have n5_ := bb BK200 hb; have n6_ := bb BK213 hb; have n7_ := bb BK222 hb; have n8_ := am (below_step (pb HB) hb); have n9_ := am (hbox); have n10_ := am ((by rw [hg]; exact (below_size (pb HB)) : w.heap.size ≤ gb226)); have n11_ := am ((by rw [hg]; exact (below_size (pb HB)) : w.heap.size ≤ gb226)); have n12_ := am ((by rw [hg]; exact Nat.ne_of_lt (bl BK200) : gb200 ≠ gb226)); have n13_ := am ((by rw [hg]; exact Nat.ne_of_gt (bl BK200) : gb226 ≠ gb200)); have n14_ := am ((by rw [hg]; exact Nat.ne_of_lt (bl BK213) : gb213 ≠ gb226)); have n15_ := am ((by rw [hg]; exact Nat.ne_of_gt (bl BK213) : gb226 ≠ gb213)); have n16_ := am ((by rw [hg]; exact Nat.ne_of_lt (bl BK222) : gb222 ≠ gb226)); have n17_ := am ((by rw [hg]; exact Nat.ne_of_gt (bl BK222) : gb226 ≠ gb222)); clear HO_201001 HO_214001 HL215_1 HL216_1 HO225 BK200 BK213 BK222 HB; have HO_201001 := n0_; have HO_214001 := n1_; have HL215_1 := n2_; have HL216_1 := n3_; have HO225 := n4_; have BK200 := n5_; have BK213 := n6_; have BK222 := n7_; have HB := n8_; have BK226 := n9_; have GW226 := n10_; have GE226 := n11_; have NB200_226 := n12_; have NB226_200 := n13_; have NB213_226 := n14_; have NB226_213 := n15_; have NB222_226 := n16_; have NB226_222 := n17_; clear n0_ n1_ n2_ n3_ n4_ n5_ n6_ n7_ n8_ n9_ n10_ n11_ n12_ n13_ n14_ n15_ n16_ n17_ hb hbox hg; have hnb60 := NB226_200.out; have hnc60 := NB200_226.out; have hnb61 := NB226_213.out; have hnc61 := NB213_226.out; have hnb62 := NB226_222.out; have hnc62 := NB222_226.out; have hcz63_0 : w59.cell? ⟨gb226, 0, none⟩ = some (.int .i64 0) := (blk_cell BK226.out 0).trans rfl; have hcz63_1 : w59.cell? ⟨gb226, 1, none⟩ = some (.slice none 0 0) := (blk_cell BK226.out 1).trans rfl; have hfz63_0 := blk_frozen BK226.out 0; have hfz63_1 := blk_frozen BK226.out 1))
         go_loopg [88] kj5 (fun kq v88 w' => ∃ (x88_2 : Int) (x227001_2 : List (S40)) (u227001 : Value), v88 = .int .i64 x88_2 ∧ Aside0 (downpourlaw04_ReduceUnique.l0 kq ji34 (t202.length : Int) t221 (t202.length : Int) x88_2 t201 t202 t205 t206 t201 x227001_2 = some r) ∧ Aside0 (kq ≤ kj5) ∧ Aside0 (Kd.N k40 40 w' w.heap.size (fun k_ => some k_ ≠ ((.slice Ao18 t206.length co18) : Value).ownBlock ∧ some k_ ≠ (u227001 : Value).ownBlock ∧ k_ ≠ gb200 ∧ k_ ≠ gb213 ∧ k_ ≠ gb226) (.slice (some ad215) t202.length co11) t202) ∧ Aside0 (Kd.N k40 40 w' w.heap.size (fun k_ => some k_ ≠ (u227001 : Value).ownBlock ∧ k_ ≠ gb200 ∧ k_ ≠ gb213 ∧ k_ ≠ gb226) (.slice Ao18 t206.length co18) t206) ∧ Aside0 (Kd.N k40 40 w' w.heap.size (fun k_ => some k_ ≠ ((.slice (some ad215) t202.length co11) : Value).ownBlock ∧ some k_ ≠ ((.slice Ao18 t206.length co18) : Value).ownBlock ∧ k_ ≠ gb200 ∧ k_ ≠ gb213 ∧ k_ ≠ gb226) u227001 x227001_2) ∧ Aside0 (w'.heap[gb200]? = some (.cells #[.int .i64 t201, (.slice (some ad215) t202.length co11)] 24 (0, 0))) ∧ Aside0 (w'.heap[gb213]? = some (.cells #[.int .i64 t205, (.slice Ao18 t206.length co18)] 24 (0, 0))) ∧ Aside0 (w'.heap[gb226]? = some (.cells #[.int .i64 t201, u227001] 24 (0, 0))) ∧ Aside0 (Below w.heap.size w w'))
         case atStart => exact ⟨(0), (y223), (.slice Ao58 y223.length co58), (by first | rfl | (simp; done) | (simp [*]; done)), H', ⟨Nat.le_refl _⟩, ⟨by (with_reducible repeat (first | apply Kd.N_alloc | apply Kd.N_drewN | apply Kd.N_drew)); exact Kd.N_mono (Kd.N_far (p := ⟨gb226, 1, none⟩) (Kd.N_far (p := ⟨gb226, 0, none⟩) (Kd.N_mono HO_201001.out (fun k_ hk => (⟨hk, hk.2⟩ : _ ∧ k_ ≠ gb226))) (fun _ hk => hk.2) (.int .i64 t201)) (fun _ hk => hk.2) (.slice Ao58 y223.length co58)) (fun _ hk => ⟨hk.1.1.1.1, ⟨hk.1.1.2, ⟨hk.1.1.1.2.2.1, ⟨hk.1.1.1.2.2.2.1, hk.1.2⟩⟩⟩⟩)⟩, ⟨by (with_reducible repeat (first | apply Kd.N_alloc | apply Kd.N_drewN | apply Kd.N_drew)); exact Kd.N_mono (Kd.N_far (p := ⟨gb226, 1, none⟩) (Kd.N_far (p := ⟨gb226, 0, none⟩) (Kd.N_mono HO_214001.out (fun k_ hk => (⟨hk, hk.2⟩ : _ ∧ k_ ≠ gb226))) (fun _ hk => hk.2) (.int .i64 t201)) (fun _ hk => hk.2) (.slice Ao58 y223.length co58)) (fun _ hk => ⟨hk.1.1.2, ⟨hk.1.1.1.2.1, ⟨hk.1.1.1.2.2.1, hk.1.2⟩⟩⟩)⟩, ⟨by (with_reducible repeat (first | apply Kd.N_alloc | apply Kd.N_drewN | apply Kd.N_drew)); exact Kd.N_mono (Kd.N_far (p := ⟨gb226, 1, none⟩) (Kd.N_far (p := ⟨gb226, 0, none⟩) (Kd.N_mono HO225.out (fun k_ hk => (⟨hk, hk.2⟩ : _ ∧ k_ ≠ gb226))) (fun _ hk => hk.2) (.int .i64 t201)) (fun _ hk => hk.2) (.slice Ao58 y223.length co58)) (fun _ hk => ⟨hk.1.1.1, ⟨hk.1.1.2.1, ⟨hk.1.1.2.2.1, ⟨hk.1.1.2.2.2.1, hk.1.2⟩⟩⟩⟩)⟩, ⟨by (with_reducible repeat (first | refine blk_drewN ?_ _ | refine blk_drew ?_ | refine blk_alloc ?_ _)); refine blk_far ?_ NB200_226.out _; (with_reducible repeat (first | refine blk_drewN ?_ _ | refine blk_drew ?_ | refine blk_alloc ?_ _)); refine blk_far ?_ NB200_226.out _; (with_reducible repeat (first | refine blk_drewN ?_ _ | refine blk_drew ?_ | refine blk_alloc ?_ _)); exact BK200.out⟩, ⟨by (with_reducible repeat (first | refine blk_drewN ?_ _ | refine blk_drew ?_ | refine blk_alloc ?_ _)); refine blk_far ?_ NB213_226.out _; (with_reducible repeat (first | refine blk_drewN ?_ _ | refine blk_drew ?_ | refine blk_alloc ?_ _)); refine blk_far ?_ NB213_226.out _; (with_reducible repeat (first | refine blk_drewN ?_ _ | refine blk_drew ?_ | refine blk_alloc ?_ _)); exact BK213.out⟩, ⟨by (with_reducible repeat (first | refine blk_drewN ?_ _ | refine blk_drew ?_ | refine blk_alloc ?_ _)); refine blk_put (cs := #[.int .i64 t201, .slice none 0 0]) ?_ 1 _ rfl; (with_reducible repeat (first | refine blk_drewN ?_ _ | refine blk_drew ?_ | refine blk_alloc ?_ _)); refine blk_put (cs := #[.int .i64 0, .slice none 0 0]) ?_ 0 _ rfl; (with_reducible repeat (first | refine blk_drewN ?_ _ | refine blk_drew ?_ | refine blk_alloc ?_ _)); exact BK226.out⟩, ⟨pb HB⟩⟩
         case round =>
          clear H'
          try clear c1
          try clear c2
          try clear p2
          try clear q2
          try clear hx2
          try clear c5
          try clear c6
          try clear c16
          try clear c21
          try clear p21
          try clear q21
          try clear hx21
          try clear c52
          try clear c54
          try clear c60
          try clear c61
          try clear c62
          try clear hcz53_0
          try clear hcz53_1
          try clear hcz55_0
          try clear hcz55_1
          try clear hcz63_0
          try clear hcz63_1
          try clear hfz53_0
          try clear hfz53_1
          try clear hfz55_0
          try clear hfz55_1
          try clear hfz63_0
          try clear hfz63_1
          try clear hx215_0
          try clear hx215_1
          try clear hx216_0
          try clear hx216_1
          try clear p215
          try clear p216
          try clear q215
          try clear q216
          obtain ⟨x88_2, x227001_2, u227001, rfl, HA, HK2, HO_201001, HO_214001, HO_227001, BK200, BK213, BK226, HB⟩ := hrel
          cases gk with
          | zero => exact absurd HA.out (by simp [downpourlaw04_ReduceUnique.l0])
          | succ k2 =>
           have H := HA.out
           clear HA
           simp only [downpourlaw04_ReduceUnique.l0] at H
           by_cases c64 : x88_2 < (t202.length : Int)
           ·
            rw [if_pos c64] at H
            have c64b0 : decide (x88_2 < (t202.length : Int)) = true := decide_eq_true c64
            clear c64
            by_cases c65 : (t202.length : Int) = 0
            ·
             rw [if_pos c65] at H
             exact absurd H (by simp)
            ·
             rw [if_neg c65] at H
             have c65b0 : ((t202.length : Int) == 0) = false := beq_eq_false_iff_ne.mpr c65
             have c65b1 : ((t202.length : Int) != 0) = true := bne_iff_ne.mpr c65
             have c65b2 : ¬ (t202 = []) := fun h_ => c65 (by rw [h_]; rfl)
             obtain ⟨ji66, hji66⟩ : ∃ j_ : Int, (Int.tmod (wrap64 ((wrap64 (ji34 + (t202.length : Int))) - x88_2)) (t202.length : Int)) = j_ := ⟨_, rfl⟩
             replace H : (if 0 ≤ (ji66) then (if (ji66) < (t202.length : Int) then (if x227001_2.length < 4398046511104 then (downpourlaw04_ReduceUnique.l0 k2 ji34 (t202.length : Int) t221 (t202.length : Int) (wrap64 (x88_2 + 1)) t201 t202 t205 t206 t201 (x227001_2 ++ [(⟨(rd_T40 t202 (ji66)).f0, (rd_T40 t202 (ji66)).f1⟩ : S40)])) else (none)) else (none)) else (none)) = some r := by first | (rw [hji66] at H; exact H) | (simp only [hji66] at H ⊢; exact H)
             by_cases c67 : 0 ≤ (ji66)
             ·
              rw [if_pos c67] at H
              have c67b0 : decide (0 ≤ (ji66)) = true := decide_eq_true c67
              clear c67
              by_cases c68 : (ji66) < (t202.length : Int)
              ·
               rw [if_pos c68] at H
               have c68b0 : decide ((ji66) < (t202.length : Int)) = true := decide_eq_true c68
               clear c68
               by_cases c69 : x227001_2.length < 4398046511104
               ·
                rw [if_pos c69] at H
                have LMc69 := Aside0.mk c69
                clear c69
                obtain ⟨y228, hy228⟩ : ∃ y_ : List (S40), y_ = (x227001_2 ++ [(⟨(rd_T40 t202 (ji66)).f0, (rd_T40 t202 (ji66)).f1⟩ : S40)]) := ⟨_, rfl⟩
                replace H : (downpourlaw04_ReduceUnique.l0 k2 ji34 (t202.length : Int) t221 (t202.length : Int) (wrap64 (x88_2 + 1)) t201 t202 t205 t206 t201 y228) = some r := by first | (rw [hy228]; with_reducible exact H) | (have H2_ := (Option.bind_some _ _).symm.trans H; rw [hy228]; with_reducible exact H2_) | (have H2_ := (Option.bind_some _ _).symm.trans H; with_reducible exact H2_) | with_reducible exact H | (rw [hy228]; exact H) | exact H
                have Ny228 := Aside0.mk hy228
                clear hy228
                have H' := Aside0.mk H
                clear H
                try go_wp2
                have n0_ := am (Kd.N_drew HO_201001.out)
                have n1_ := am (Kd.N_drew HO_214001.out)
                have n2_ := am (Kd.N_drew HO_227001.out)
                have n3_ := am (blk_drew BK200.out)
                have n4_ := am (blk_drew BK213.out)
                have n5_ := am (blk_drew BK226.out)
                have n6_ := am (below_drew1 HB.out)
                clear HO_201001
                clear HO_214001
                clear HO_227001
                clear BK200
                clear BK213
                clear BK226
                clear HB
                have HO_201001 := n0_
                have HO_214001 := n1_
                have HO_227001 := n2_
                have BK200 := n3_
                have BK213 := n4_
                have BK226 := n5_
                have HB := n6_
                clear n0_ n1_ n2_ n3_ n4_ n5_ n6_
                have p227 : 0 ≤ ((ji66) : Int) := of_decide_eq_true (by first | (with_reducible assumption) | assumption)
                have q227 : (ji66) < (t202.length : Int) := of_decide_eq_true (by first | (with_reducible assumption) | assumption)
                obtain ⟨ad227, A227_1, c227_1, e227, hx227_0, hx227_1, hl227_1, hi227_1⟩ := at_T40 (Kd.N_reads' HO_201001.out).2.2 (ji66) p227 q227
                obtain rfl : ad215 = ad227 := (by injection e227)
                obtain ⟨ce227, hce227, hMe227, hcc227⟩ := Kd.N_get HO_201001.out z40 (ji66) p227 (by first | exact q227 | exact of_decide_eq_true (by first | (with_reducible assumption) | assumption) | (have e_ := (Kd.N_reads' HO_201001.out).1; omega))
                obtain ⟨ua227_1, uc227_1, rfl, ul227_1, ge227_1⟩ := k40_openF hMe227
                have hv227_1 := hcc227 1 _ rfl
                rw [add_field _ _ 1 (by omega)] at hv227_1
                replace hv227_1 := Option.some.inj (hv227_1.symm.trans hx227_1)
                injection hv227_1 with hva_ hvn_ hvc_
                rw [hva_] at ge227_1
                rw [hvc_] at ul227_1
                have HL227_1 := am (show Kd.V (Kd.int .u64) 48 _ w.heap.size _ _ ((rd_T40 t202 (ji66)).f1) from Kd.V_mk ul227_1 ge227_1)
                clear hva_ hvn_ hvc_ ge227_1 ul227_1
                clear hcc227 hce227
                have HR227_1 := Aside0.mk hi227_1
                have HC227_1 := Aside0.mk hl227_1
                clear hi227_1 hl227_1
                replace p227 := eq_true p227
                replace q227 := eq_true q227
                refine start_ (n := 17) (S := fun w' => w'.cell? ⟨gb226, 0, none⟩ = some (.int .i64 t201) ∧ w'.cell? ⟨gb226, 1, none⟩ = some (u227001) ∧ w'.cell? ⟨gb200, 0, none⟩ = some (.int .i64 t201) ∧ w'.cell? ⟨gb200, 1, none⟩ = some (.slice (some ad215) t202.length co11) ∧ w'.cell? (ad215.add (((ji66)).toNat * 2)) = some (.int .i64 ((rd_T40 t202 (ji66)).f0)) ∧ w'.cell? ⟨(ad215.add (((ji66)).toNat * 2)).block, (ad215.add (((ji66)).toNat * 2)).off + 1, none⟩ = some (.slice A227_1 ((rd_T40 t202 (ji66)).f1).length c227_1)) (ds := [14, 16]) #[F, F, F, F, F, F, F, F, F, F, F, F, F, F, F, F, F] (by kernel_rfl) rfl rfl ⟨(blk_cell BK226.out 0).trans rfl, (blk_cell BK226.out 1).trans rfl, (blk_cell BK200.out 0).trans rfl, (blk_cell BK200.out 1).trans rfl, hx227_0, hx227_1⟩ (fun hHeld => ?_); refine with_tabW downpourlaw04_ReduceUnique.tab12 downpourlaw04_ReduceUnique.bits12 (fun HT_ HW_ => ?_)
                generalize wr.drew = w70 at HO_201001 HO_214001 HO_227001 BK200 BK213 BK226 HB HL227_1 HR227_1 hx227_0 hx227_1 hHeld ⊢
                refine pure_ (i := 0) (N := some 91) (v := ?_) (a' := ?_) #[T, F, F, F, F, F, F, F, F, F, F, F, F, F, F, F, F] rfl rfl (any_of HT_.out (by kernel_rfl)) (fun _ _ _ h => h) (Or.inl ⟨by rfl, ?_⟩) ?_ ?_
                rotate_left
                ·
                 intro w'
                 go_simp
                 with_reducible rfl
                rotate_left
                ·
                 simp only [Act.put, q1, q2, q3, i64_w, i32_w]
                 rfl
                refine pure_ (i := 2) (N := some 93) (v := ?_) (a' := ?_) #[T, F, T, F, F, F, F, F, F, F, F, F, F, F, F, F, F] rfl rfl (any_of HT_.out (by kernel_rfl)) (fun _ _ _ h => h) (Or.inl ⟨by rfl, ?_⟩) ?_ ?_
                rotate_left
                ·
                 intro w'
                 go_simp
                 with_reducible rfl
                rotate_left
                ·
                 simp only [Act.put, q1, q2, q3, i64_w, i32_w]
                 rfl
                refine pure_ (i := 4) (N := some 95) (v := ?_) (a' := ?_) #[T, F, T, F, T, F, F, F, F, F, F, F, F, F, F, F, F] rfl rfl (any_of HT_.out (by kernel_rfl)) (fun _ _ _ h => h) (Or.inl ⟨by rfl, ?_⟩) ?_ ?_
                rotate_left
                ·
                 intro w'
                 go_simp
                 with_reducible rfl
                rotate_left
                ·
                 simp only [Act.put, q1, q2, q3, i64_w, i32_w]
                 rfl
                refine pure_ (i := 5) (N := some 96) (v := ?_) (a' := ?_) #[T, F, T, F, T, T, F, F, F, F, F, F, F, F, F, F, F] rfl rfl (any_of HT_.out (by kernel_rfl)) (fun _ _ _ h => h) (Or.inl ⟨by rfl, ?_⟩) ?_ ?_
                rotate_left
                ·
                 intro w'
                 go_simp
                 with_reducible rfl
                rotate_left
                ·
                 simp only [Act.put, q1, q2, q3, i64_w, i32_w]
                 rfl
                refine pure_ (i := 6) (N := some 97) (v := ?_) (a' := ?_) #[T, F, T, F, T, T, T, F, F, F, F, F, F, F, F, F, F] rfl rfl (any_of HT_.out (by kernel_rfl)) (fun _ _ _ h => h) (Or.inl ⟨by rfl, ?_⟩) ?_ ?_
                rotate_left
                ·
                 intro w'
                 go_simp
                 with_reducible rfl
                rotate_left
                ·
                 simp only [Act.put, q1, q2, q3, i64_w, i32_w]
                 rfl
                refine pure_ (i := 7) (N := some 98) (v := ?_) (a' := ?_) #[T, F, T, F, T, T, T, T, F, F, F, F, F, F, F, F, F] rfl rfl (any_of HT_.out (by kernel_rfl)) (fun _ _ _ h => h) (Or.inl ⟨by rfl, ?_⟩) ?_ ?_
                rotate_left
                ·
                 intro w'
                 go_simp
                 with_reducible rfl
                rotate_left
                ·
                 simp only [Act.put, q1, q2, q3, i64_w, i32_w]
                 rfl
                refine pure_ (i := 8) (N := some 99) (v := ?_) (a' := ?_) #[T, F, T, F, T, T, T, T, T, F, F, F, F, F, F, F, F] rfl rfl (any_of HT_.out (by kernel_rfl)) (fun _ _ _ h => h) (Or.inl ⟨by rfl, ?_⟩) ?_ ?_
                rotate_left
                ·
                 intro w'
                 go_simp
                 with_reducible rfl
                rotate_left
                ·
                 simp only [Act.put, q1, q2, q3, i64_w, i32_w]
                 rfl
                refine pure_ (i := 9) (N := some 100) (v := ?_) (a' := ?_) #[T, F, T, F, T, T, T, T, T, T, F, F, F, F, F, F, F] rfl rfl (any_of HT_.out (by kernel_rfl)) (fun _ _ _ h => h) (Or.inl ⟨by rfl, ?_⟩) ?_ ?_
                rotate_left
                ·
                 intro w'
                 go_simp
                 with_reducible rfl
                rotate_left
                ·
                 simp only [Act.put, q1, q2, q3, i64_w, i32_w]
                 rfl
                refine pure_ (i := 10) (N := some 101) (v := ?_) (a' := ?_) #[T, F, T, F, T, T, T, T, T, T, T, F, F, F, F, F, F] rfl rfl (any_of HT_.out (by kernel_rfl)) (fun _ _ _ h => h) (Or.inl ⟨by rfl, ?_⟩) ?_ ?_
                rotate_left
                ·
                 intro w'
                 go_simp
                 with_reducible rfl
                rotate_left
                ·
                 simp only [Act.put, q1, q2, q3, i64_w, i32_w]
                 rfl
                refine take_ (i := 1) (N := some 92) (v := ?_) (a' := ?_) #[T, T, T, F, T, T, T, T, T, T, T, F, F, F, F, F, F] rfl rfl (take_ofW HT_.out HW_.out (by kernel_rfl)) (fun _ _ _ h => h) (Or.inl ⟨by rfl, ?_⟩) hHeld ?_ ?_
                rotate_left
                ·
                 rintro w' ⟨s0, s1, s2, s3, s4, s5⟩
                 go_simp
                 with_reducible rfl
                rotate_left
                ·
                 simp only [Act.put, q1, q2, q3, i64_w, i32_w]
                 rfl
                refine take_ (i := 3) (N := some 94) (v := ?_) (a' := ?_) #[T, T, T, T, T, T, T, T, T, T, T, F, F, F, F, F, F] rfl rfl (take_ofW HT_.out HW_.out (by kernel_rfl)) (fun _ _ _ h => h) (Or.inl ⟨by rfl, ?_⟩) hHeld ?_ ?_
                rotate_left
                ·
                 rintro w' ⟨s0, s1, s2, s3, s4, s5⟩
                 go_simp
                 with_reducible rfl
                rotate_left
                ·
                 simp only [Act.put, q1, q2, q3, i64_w, i32_w]
                 rfl
                refine pure_ (i := 11) (N := some 102) (v := ?_) (a' := ?_) #[T, T, T, T, T, T, T, T, T, T, T, T, F, F, F, F, F] rfl rfl (any_of HT_.out (by kernel_rfl)) (fun _ _ _ h => h) (Or.inl ⟨by rfl, ?_⟩) ?_ ?_
                rotate_left
                ·
                 intro w'
                 go_simp
                 with_reducible rfl
                rotate_left
                ·
                 simp only [Act.put, q1, q2, q3, i64_w, i32_w]
                 rfl
                refine take_ (i := 12) (N := some 103) (v := ?_) (a' := ?_) #[T, T, T, T, T, T, T, T, T, T, T, T, T, F, F, F, F] rfl rfl (take_ofW HT_.out HW_.out (by kernel_rfl)) (fun _ _ _ h => h) (Or.inl ⟨by rfl, ?_⟩) hHeld ?_ ?_
                rotate_left
                ·
                 rintro w' ⟨s0, s1, s2, s3, s4, s5⟩
                 go_simp
                 with_reducible rfl
                rotate_left
                ·
                 simp only [Act.put, q1, q2, q3, i64_w, i32_w]
                 rfl
                refine one_ (i := 13) (N := some 104) #[T, T, T, T, T, T, T, T, T, T, T, T, T, T, F, F, F] rfl rfl (one_of HT_.out (by kernel_rfl)) (by decide) (fun K hK => ?_)
                refine value_ (w1 := ?_) (v := ?_) (by rfl) rfl ?_ ?_
                rotate_left 2
                ·
                 go_simp
                 constructor
                 ·
                  rfl
                 ·
                  rfl
                refine hK.out _ _ ⟨(blk_cell (blk_alloc BK226.out _) 0).trans rfl, (blk_cell (blk_alloc BK226.out _) 1).trans rfl, (blk_cell (blk_alloc BK200.out _) 0).trans rfl, (blk_cell (blk_alloc BK200.out _) 1).trans rfl, (World.cell?_alloc_lt _ _ _ (World.block_lt_of_cell? _ _ (hHeld.2.2.2.2.1))).trans (hHeld.2.2.2.2.1), (World.cell?_alloc_lt _ _ _ (World.block_lt_of_cell? _ _ (hHeld.2.2.2.2.2))).trans (hHeld.2.2.2.2.2)⟩ (fun hHeld => ?_)
                clear hK K
                refine norm_ (a' := ?_) ?_ ?_
                rotate_left
                ·
                 show Act.put _ (some 104) _ = _
                 simp only [Act.put, q1, q2, q3, i64_w, i32_w]
                 rfl
                refine last_ (i := 14) (N := some 105) #[T, T, T, T, T, T, T, T, T, T, T, T, T, T, T, F, F] rfl rfl (one_of HT_.out (by kernel_rfl)) (by decide) (fun K hK => ?_)
                refine Kd.N_append_step k40 (w0 := w) w.heap.size (by rfl) (.tmp 92) (.tmp 104) 22 40 (.agg #[(.int .i64 0), (.slice none 0 0)]) 32 rfl Try.underlying22 info40 rfl (by decide) (by omega) u227001 x227001_2 (⟨(rd_T40 t202 (ji66)).f0, (rd_T40 t202 (ji66)).f1⟩ : S40) [.int .i64 ((rd_T40 t202 (ji66)).f0), .slice A227_1 ((rd_T40 t202 (ji66)).f1).length c227_1] (fun k_ => some k_ ≠ (.slice (some ad215) t202.length co11 : Value).ownBlock ∧ some k_ ≠ (.slice Ao18 t206.length co18 : Value).ownBlock ∧ k_ ≠ gb200 ∧ k_ ≠ gb213 ∧ k_ ≠ gb226) (fun k_ => ((fun k_ => some k_ ≠ (.slice (some ad215) t202.length co11 : Value).ownBlock ∧ some k_ ≠ (.slice Ao18 t206.length co18 : Value).ownBlock ∧ k_ ≠ gb200 ∧ k_ ≠ gb213 ∧ k_ ≠ gb226)) k_ ∧ some k_ ≠ (u227001 : Value).ownBlock) rfl rfl ?aP (fun _ hk => hk) ?aF ?aO ?aB ?aS ?aL ?_
                (case aP => exact (k40_mkF _ _ (⟨(rd_T40 t202 (ji66)).f0, (rd_T40 t202 (ji66)).f1⟩ : S40) (Kd.V_reads' (Kd.V_mono (ok' := (fun k_ => ((fun k_ => some k_ ≠ (.slice (some ad215) t202.length co11 : Value).ownBlock ∧ some k_ ≠ (.slice Ao18 t206.length co18 : Value).ownBlock ∧ k_ ≠ gb200 ∧ k_ ≠ gb213 ∧ k_ ≠ gb226)) k_ ∧ some k_ ≠ (u227001 : Value).ownBlock)) (HL227_1.out) (fun k_ hk => ⟨⟨hk.2, ⟨hk.1.1, ⟨hk.1.2.2.1, ⟨hk.1.2.2.2.1, hk.1.2.2.2.2⟩⟩⟩⟩, hk.1.2.1⟩))).2.1 (Kd.V_F (Kd.V_mono (ok' := (fun k_ => ((fun k_ => some k_ ≠ (.slice (some ad215) t202.length co11 : Value).ownBlock ∧ some k_ ≠ (.slice Ao18 t206.length co18 : Value).ownBlock ∧ k_ ≠ gb200 ∧ k_ ≠ gb213 ∧ k_ ≠ gb226)) k_ ∧ some k_ ≠ (u227001 : Value).ownBlock)) (HL227_1.out) (fun k_ hk => ⟨⟨hk.2, ⟨hk.1.1, ⟨hk.1.2.2.1, ⟨hk.1.2.2.2.1, hk.1.2.2.2.2⟩⟩⟩⟩, hk.1.2.1⟩)))))
                (case aB => exact (pb HB))
                (case aF => exact (fun k_ hk => ⟨Kd.fresh' (Kd.N_lt (pn HO_201001)) k_ hk, Kd.fresh' (Kd.N_lt (pn HO_214001)) k_ hk, Kd.freshB (g := gb200) (o := .cells #[.int .i64 t201, .slice (some ad215) t202.length co11] 24 (0, 0)) (pk BK200) k_ hk, Kd.freshB (g := gb213) (o := .cells #[.int .i64 t205, .slice Ao18 t206.length co18] 24 (0, 0)) (pk BK213) k_ hk, Kd.freshB (g := gb226) (o := .cells #[.int .i64 t201, u227001] 24 (0, 0)) (pk BK226) k_ hk⟩))
                (case aO => exact (pn HO_227001))
                (case aS => exact (below_size (pb HB)))
                (case aL => have := LMc69.out; omega)
                intro v229 w71 ho hb hg hat
                rw [← Ny228.out] at ho
                have n0_ := am (Kd.N_afterv (ok := (fun k_ => some k_ ≠ (.slice Ao18 t206.length co18 : Value).ownBlock ∧ k_ ≠ gb200 ∧ k_ ≠ gb213 ∧ k_ ≠ gb226)) (by (with_reducible repeat (first | apply Kd.N_alloc | apply Kd.N_drewN | apply Kd.N_drew)); exact Kd.N_mono HO_201001.out (fun _ hk => ⟨⟨hk.1, ⟨hk.2.2.1, ⟨hk.2.2.2.1, hk.2.2.2.2⟩⟩⟩, hk.2.1⟩)) hg hat)
                have n1_ := am (Kd.N_afterv (ok := (fun k_ => k_ ≠ gb200 ∧ k_ ≠ gb213 ∧ k_ ≠ gb226)) (by (with_reducible repeat (first | apply Kd.N_alloc | apply Kd.N_drewN | apply Kd.N_drew)); exact Kd.N_mono HO_214001.out (fun _ hk => ⟨⟨hk.2.1, ⟨hk.2.2.1, hk.2.2.2⟩⟩, hk.1⟩)) hg hat)
                have n2_ := am (blk_grown (g := gb200) (o := .cells #[.int .i64 t201, .slice (some ad215) t202.length co11] 24 (0, 0)) (pk BK200) hg (Kd.N_ne HO_227001.out BK200.out (by decide)))
                have n3_ := am (blk_grown (g := gb213) (o := .cells #[.int .i64 t205, .slice Ao18 t206.length co18] 24 (0, 0)) (pk BK213) hg (Kd.N_ne HO_227001.out BK213.out (by decide)))
                have n4_ := am (blk_grown (g := gb226) (o := .cells #[.int .i64 t201, u227001] 24 (0, 0)) (pk BK226) hg (Kd.N_ne HO_227001.out BK226.out (by decide)))
                have n5_ := am (Kd.V_afterv (ok := (fun k_ => some k_ ≠ (.slice (some ad215) t202.length co11 : Value).ownBlock ∧ some k_ ≠ (.slice Ao18 t206.length co18 : Value).ownBlock ∧ k_ ≠ gb200 ∧ k_ ≠ gb213 ∧ k_ ≠ gb226)) (by (with_reducible repeat (first | apply Kd.V_alloc | apply Kd.V_drewN | apply Kd.V_drew)); exact Kd.V_mono HL227_1.out (fun _ hk => ⟨⟨hk.2, ⟨hk.1.1, ⟨hk.1.2.2.1, ⟨hk.1.2.2.2.1, hk.1.2.2.2.2⟩⟩⟩⟩, hk.1.2.1⟩)) hg hat)
                have n6_ := am (hb)
                have n7_ := am (ho)
                clear HO_201001
                clear HO_214001
                clear BK200
                clear BK213
                clear BK226
                clear HL227_1
                clear HB
                clear HO_227001
                have HO_201001 := n0_
                have HO_214001 := n1_
                have BK200 := n2_
                have BK213 := n3_
                have BK226 := n4_
                have HL227_1 := n5_
                have HB := n6_
                have HO230 := n7_
                clear n0_ n1_ n2_ n3_ n4_ n5_ n6_ n7_
                clear ho hb hg hat
                obtain ⟨Ao72, co72, eo72⟩ := Kd.N_slice HO230.out
                (first | subst eo72 | (injection eo72 with f1_ f2_ f3_; have f4_ := f1_.symm; have f5_ := f3_.symm; clear f1_ f2_ f3_; subst f4_; subst f5_))
                refine hK.out _ _ ?_
                clear hK K
                refine norm_ (a' := ?_) ?_ ?_
                rotate_left
                ·
                 show Act.put _ (some 105) _ = _
                 simp only [Act.put, q1, q2, q3, i64_w, i32_w]
                 rfl
                refine pure_ (i := 15) (N := some 106) (v := ?_) (a' := ?_) #[T, T, T, T, T, T, T, T, T, T, T, T, T, T, T, T, F] rfl rfl (any_of HT_.out (by kernel_rfl)) (fun _ _ _ h => h) (Or.inl ⟨by rfl, ?_⟩) ?_ ?_
                rotate_left
                ·
                 intro w'
                 go_simp
                 with_reducible rfl
                rotate_left
                ·
                 simp only [Act.put, q1, q2, q3, i64_w, i32_w]
                 rfl
                refine last_ (i := 16) (N := none) #[T, T, T, T, T, T, T, T, T, T, T, T, T, T, T, T, T] rfl rfl (one_of HT_.out (by kernel_rfl)) (by decide) (fun K hK => ?_)
                have hs73 : w71.cell? ⟨gb226, 1, none⟩ = some (u227001) := (blk_cell BK226.out 1).trans rfl
                have hfs73 := blk_frozen BK226.out 1
                have hns73_0 := NB200_226.out
                have hns73_1 := NB213_226.out
                have hms73_0 := NB226_200.out
                have hms73_1 := NB226_213.out
                refine skip_ (w1 := ?_) (by rfl) rfl ?_ ?_
                rotate_left
                ·
                 go_simp
                 rfl
                refine hK.out _ _ ?_
                clear hK K
                refine done_ (done_of HT_.out (by kernel_rfl)) ?_
                obtain ⟨w74, hw⟩ : ∃ w_ : World, (w71.setCell ⟨gb226, 1, none⟩ (.slice Ao72 y228.length co72)) = w_ := ⟨_, rfl⟩
                rw [hw]
                have n0_ : Aside0 (Kd.N k40 40 w74 w.heap.size (fun k_ => some k_ ≠ (.slice Ao18 t206.length co18 : Value).ownBlock ∧ some k_ ≠ (.slice Ao72 y228.length co72 : Value).ownBlock ∧ k_ ≠ gb200 ∧ k_ ≠ gb213 ∧ k_ ≠ gb226) (.slice (some ad215) t202.length co11) t202) := ⟨(by rw [← hw]; exact (by (with_reducible repeat (first | apply Kd.N_alloc | apply Kd.N_drewN | apply Kd.N_drew)); exact Kd.N_mono (Kd.N_far (p := ⟨gb226, 1, none⟩) (Kd.N_mono HO_201001.out (fun k_ hk => (⟨hk, hk.1.2.2.2⟩ : _ ∧ k_ ≠ gb226))) (fun _ hk => hk.2) (.slice Ao72 y228.length co72)) (fun _ hk => ⟨hk.1.1.1, ⟨hk.1.2, ⟨hk.1.1.2.1, ⟨hk.1.1.2.2.1, hk.1.1.2.2.2⟩⟩⟩⟩)))⟩
                have n1_ : Aside0 (Kd.N k40 40 w74 w.heap.size (fun k_ => some k_ ≠ (.slice Ao72 y228.length co72 : Value).ownBlock ∧ k_ ≠ gb200 ∧ k_ ≠ gb213 ∧ k_ ≠ gb226) (.slice Ao18 t206.length co18) t206) := ⟨(by rw [← hw]; exact (by (with_reducible repeat (first | apply Kd.N_alloc | apply Kd.N_drewN | apply Kd.N_drew)); exact Kd.N_mono (Kd.N_far (p := ⟨gb226, 1, none⟩) (Kd.N_mono HO_214001.out (fun k_ hk => (⟨hk, hk.1.2.2⟩ : _ ∧ k_ ≠ gb226))) (fun _ hk => hk.2) (.slice Ao72 y228.length co72)) (fun _ hk => ⟨hk.1.2, ⟨hk.1.1.1, ⟨hk.1.1.2.1, hk.1.1.2.2⟩⟩⟩)))⟩
                have n2_ : Aside0 (Kd.V (Kd.int .u64) 48 w74 w.heap.size (fun k_ => some k_ ≠ (.slice (some ad215) t202.length co11 : Value).ownBlock ∧ some k_ ≠ (.slice Ao18 t206.length co18 : Value).ownBlock ∧ some k_ ≠ (.slice Ao72 y228.length co72 : Value).ownBlock ∧ k_ ≠ gb200 ∧ k_ ≠ gb213 ∧ k_ ≠ gb226) (.slice A227_1 ((rd_T40 t202 (ji66)).f1).length c227_1) ((rd_T40 t202 (ji66)).f1)) := ⟨(by rw [← hw]; exact (by (with_reducible repeat (first | apply Kd.V_alloc | apply Kd.V_drewN | apply Kd.V_drew)); exact Kd.V_mono (Kd.V_far (p := ⟨gb226, 1, none⟩) (Kd.V_mono HL227_1.out (fun k_ hk => (⟨hk, hk.1.2.2.2.2⟩ : _ ∧ k_ ≠ gb226))) (fun _ hk => hk.2) (.slice Ao72 y228.length co72)) (fun _ hk => ⟨hk.1.1.1, ⟨hk.1.1.2.1, ⟨hk.1.2, ⟨hk.1.1.2.2.1, ⟨hk.1.1.2.2.2.1, hk.1.1.2.2.2.2⟩⟩⟩⟩⟩)))⟩
                have n3_ : Aside0 (Kd.N k40 40 w74 w.heap.size (fun k_ => some k_ ≠ (.slice (some ad215) t202.length co11 : Value).ownBlock ∧ some k_ ≠ (.slice Ao18 t206.length co18 : Value).ownBlock ∧ k_ ≠ gb200 ∧ k_ ≠ gb213 ∧ k_ ≠ gb226) (.slice Ao72 y228.length co72) y228) := ⟨(by rw [← hw]; exact (by (with_reducible repeat (first | apply Kd.N_alloc | apply Kd.N_drewN | apply Kd.N_drew)); exact Kd.N_mono (Kd.N_far (p := ⟨gb226, 1, none⟩) (Kd.N_mono HO230.out (fun k_ hk => (⟨hk, hk.2.2.2.2⟩ : _ ∧ k_ ≠ gb226))) (fun _ hk => hk.2) (.slice Ao72 y228.length co72)) (fun _ hk => ⟨hk.1.1, ⟨hk.1.2.1, ⟨hk.1.2.2.1, ⟨hk.1.2.2.2.1, hk.1.2.2.2.2⟩⟩⟩⟩)))⟩
                have n4_ : Aside0 (w74.heap[gb200]? = some (.cells #[.int .i64 t201, .slice (some ad215) t202.length co11] 24 (0, 0))) := ⟨(by rw [← hw]; exact (by (with_reducible repeat (first | refine blk_drewN ?_ _ | refine blk_drew ?_ | refine blk_alloc ?_ _)); refine blk_far ?_ NB200_226.out _; (with_reducible repeat (first | refine blk_drewN ?_ _ | refine blk_drew ?_ | refine blk_alloc ?_ _)); exact BK200.out))⟩
                have n5_ : Aside0 (w74.heap[gb213]? = some (.cells #[.int .i64 t205, .slice Ao18 t206.length co18] 24 (0, 0))) := ⟨(by rw [← hw]; exact (by (with_reducible repeat (first | refine blk_drewN ?_ _ | refine blk_drew ?_ | refine blk_alloc ?_ _)); refine blk_far ?_ NB213_226.out _; (with_reducible repeat (first | refine blk_drewN ?_ _ | refine blk_drew ?_ | refine blk_alloc ?_ _)); exact BK213.out))⟩
                have n6_ : Aside0 (w74.heap[gb226]? = some (.cells #[.int .i64 t201, .slice Ao72 y228.length co72] 24 (0, 0))) := ⟨(by rw [← hw]; exact (by (with_reducible repeat (first | refine blk_drewN ?_ _ | refine blk_drew ?_ | refine blk_alloc ?_ _)); refine blk_put (cs := #[.int .i64 t201, u227001]) ?_ 1 _ rfl; (with_reducible repeat (first | refine blk_drewN ?_ _ | refine blk_drew ?_ | refine blk_alloc ?_ _)); exact BK226.out))⟩
                have n7_ : Aside0 (Below w.heap.size w w74) := ⟨(by rw [← hw]; exact (pb HB))⟩
                clear hw
                clear HO_201001
                clear HO_214001
                clear HL227_1
                clear HO230
                clear BK200
                clear BK213
                clear BK226
                clear HB
                have HO_201001 := n0_
                have HO_214001 := n1_
                have HL227_1 := n2_
                have HO230 := n3_
                have BK200 := n4_
                have BK213 := n5_
                have BK226 := n6_
                have HB := n7_
                clear n0_ n1_ n2_ n3_ n4_ n5_ n6_ n7_
                try go_wp2
                go_roundg k2
                case measure => have := HJ5.out; have := HK2.out; omega
                case rel => exact ⟨(wrap64 (x88_2 + 1)), (y228), (.slice Ao72 y228.length co72), (by first | rfl | (simp; done) | (simp [*]; done)), H', ⟨by have := HJ5.out; have := HK2.out; omega⟩, ⟨by (with_reducible repeat (first | apply Kd.N_alloc | apply Kd.N_drewN | apply Kd.N_drew)); exact HO_201001.out⟩, ⟨by (with_reducible repeat (first | apply Kd.N_alloc | apply Kd.N_drewN | apply Kd.N_drew)); exact HO_214001.out⟩, ⟨by (with_reducible repeat (first | apply Kd.N_alloc | apply Kd.N_drewN | apply Kd.N_drew)); exact HO230.out⟩, ⟨by (with_reducible repeat (first | refine blk_drewN ?_ _ | refine blk_drew ?_ | refine blk_alloc ?_ _)); exact BK200.out⟩, ⟨by (with_reducible repeat (first | refine blk_drewN ?_ _ | refine blk_drew ?_ | refine blk_alloc ?_ _)); exact BK213.out⟩, ⟨by (with_reducible repeat (first | refine blk_drewN ?_ _ | refine blk_drew ?_ | refine blk_alloc ?_ _)); exact BK226.out⟩, ⟨pb HB⟩⟩
               ·
                rw [if_neg c69] at H
                exact absurd H (by simp)
              ·
               rw [if_neg c68] at H
               exact absurd H (by simp)
             ·
              rw [if_neg c67] at H
              exact absurd H (by simp)
           ·
            rw [if_neg c64] at H
            have c64b0 : decide (x88_2 < (t202.length : Int)) = false := decide_eq_false c64
            clear c64
            replace H := Option.bind_eq_some_iff.mp H
            obtain ⟨⟨t231, t232, t235, t238⟩, A750, H⟩ := H
            replace H : ((downpourlaw04_alive.f k2).bind fun t240 => (if t240 = true then (if t221 = 0 then (if t238 = 0 then ((downpourref03_Same.f k2 t205 t206 t231 t232).bind fun t241 => (some t241)) else (some false)) else (some false)) else (some false))) = some r := H
            have A75 := Aside0.mk A750
            clear A750
            replace H := Option.bind_eq_some_iff.mp H
            obtain ⟨t240, A760, H⟩ := H
            replace H : (if t240 = true then (if t221 = 0 then (if t238 = 0 then ((downpourref03_Same.f k2 t205 t206 t231 t232).bind fun t241 => (some t241)) else (some false)) else (some false)) else (some false)) = some r := H
            have A76 := Aside0.mk A760
            clear A760
            by_cases c77 : t240 = true
            ·
             subst c77
             have H1 : (if t221 = 0 then (if t238 = 0 then ((downpourref03_Same.f k2 t205 t206 t231 t232).bind fun t241 => (some t241)) else (some false)) else (some false)) = some r := by rw [if_pos rfl] at H; exact H
             clear H
             have H := H1
             clear H1
             by_cases c78 : t221 = 0
             ·
              rw [if_pos c78] at H
              have c78b0 : (t221 == 0) = true := beq_iff_eq.mpr c78
              have c78b1 : (t221 != 0) = false := bne_eq_false_iff_eq.mpr c78
              clear c78
              by_cases c79 : t238 = 0
              ·
               rw [if_pos c79] at H
               have c79b0 : (t238 == 0) = true := beq_iff_eq.mpr c79
               have c79b1 : (t238 != 0) = false := bne_eq_false_iff_eq.mpr c79
               clear c79
               replace H := Option.bind_eq_some_iff.mp H
               obtain ⟨t241, A800, H⟩ := H
               replace H : (some t241) = some r := H
               have A80 := Aside0.mk A800
               clear A800
               obtain rfl := Option.some.inj H
               have hnb81 := NB226_200.out
               have hnc81 := NB200_226.out
               have hnb82 := NB226_213.out
               have hnc82 := NB213_226.out
               have hcz83_0 : wr.cell? ⟨gb226, 0, none⟩ = some (.int .i64 t201) := (blk_cell BK226.out 0).trans rfl
               have hcz83_1 : wr.cell? ⟨gb226, 1, none⟩ = some (u227001) := (blk_cell BK226.out 1).trans rfl
               have hfz83_0 := blk_frozen BK226.out 0
               have hfz83_1 := blk_frozen BK226.out 1
               obtain ⟨Ao84, co84, eo84⟩ := Kd.N_slice HO_227001.out
               subst eo84
               go_wp2_with (first | ((with_reducible refine gate_callee (f := 8) rfl ?_); refine goesL_ (some 110) rfl rfl Try.func8 (by kernel_rfl) rfl #[.agg #[.int .i64 t201, .slice Ao84 x227001_2.length co84]] rfl (by (try simp only [List.map_toArray, List.map_cons, List.map_nil]); first | done | rfl | (simp only [List.length_drop, List.length_take]; rfl)) ?_; (with_reducible refine (reduce_Echelon.calls k2 t201 (fun k_ => (some k_ ≠ (.slice (some ad215) t202.length co11 : Value).ownBlock ∧ (some k_ ≠ (.slice Ao18 t206.length co18 : Value).ownBlock ∧ (k_ ≠ gb200 ∧ (k_ ≠ gb213 ∧ k_ ≠ gb226))))) _ _ x227001_2 t231 t232 t235 t238 _ ?side1 A75.out).mono ?_); (case side1 => exact Kd.N_V (HO_227001.out)); rintro e w85 ⟨v233, v236, rfl, ho0, ho1, hb⟩; refine ⟨_, rfl, ?_⟩; have n0_ := am (Kd.N_mono (Kd.N_told (Kd.N_told (Kd.N_old (pn HO_201001) hb) (Kd.N_base ho0)) (Kd.R_base ho1)) (fun _ h_ => h_.1)); have n1_ := am (Kd.N_mono (Kd.N_told (Kd.N_told (Kd.N_old (pn HO_214001) hb) (Kd.N_base ho0)) (Kd.R_base ho1)) (fun _ h_ => h_.1)); have n2_ := am (Kd.N_mono (Kd.N_told (Kd.N_told (Kd.N_old (pn HO_227001) hb) (Kd.N_base ho0)) (Kd.R_base ho1)) (fun _ h_ => h_.1)); have n3_ := am (Kd.N_lower (Kd.N_mono (ok' := fun k_ => some k_ ≠ (v236 : Value).ownBlock ∧ some k_ ≠ (.slice (some ad215) t202.length co11 : Value).ownBlock ∧ some k_ ≠ (.slice Ao18 t206.length co18 : Value).ownBlock ∧ k_ ≠ gb200 ∧ k_ ≠ gb213 ∧ k_ ≠ gb226) ho0 (fun k_ hk_ => ⟨hk_.2, Or.elim hk_.1 (fun hs_ => hs_.1) (fun hn_ => (Kd.fresh' (Kd.N_lt (pn HO_201001)) k_ hn_)), Or.elim hk_.1 (fun hs_ => hs_.2.1) (fun hn_ => (Kd.fresh' (Kd.N_lt (pn HO_214001)) k_ hn_)), Or.elim hk_.1 (fun hs_ => hs_.2.2.1) (fun hn_ => (Kd.freshB (g := gb200) (o := .cells #[.int .i64 t201, .slice (some ad215) t202.length co11] 24 (0, 0)) (pk BK200) k_ hn_)), Or.elim hk_.1 (fun hs_ => hs_.2.2.2.1) (fun hn_ => (Kd.freshB (g := gb213) (o := .cells #[.int .i64 t205, .slice Ao18 t206.length co18] 24 (0, 0)) (pk BK213) k_ hn_)), Or.elim hk_.1 (fun hs_ => hs_.2.2.2.2) (fun hn_ => (Kd.freshB (g := gb226) (o := .cells #[.int .i64 t201, .slice Ao84 x227001_2.length co84] 24 (0, 0)) (pk BK226) k_ hn_))⟩)) (below_size (pb HB))); have n4_ := am (Kd.R_lower (Kd.R_mono (ok' := fun k_ => True) ho1 (fun _ hk_ => trivial)) (below_size (pb HB))); have n5_ := bb BK200 hb; have n6_ := bb BK213 hb; have n7_ := bb BK226 hb; have n8_ := am (below_step (pb HB) hb); clear HO_201001 HO_214001 HO_227001 BK200 BK213 BK226 HB; have HO_201001 := n0_; have HO_214001 := n1_; have HO_227001 := n2_; have HO234 := n3_; have HO237 := n4_; have BK200 := n5_; have BK213 := n6_; have BK226 := n7_; have HB := n8_; clear n0_ n1_ n2_ n3_ n4_ n5_ n6_ n7_ n8_; (try clear hb); (try clear hb2); (try clear hk); (try clear hi); (try clear ho0); (try clear ho1)) | ((with_reducible refine gate_dst (N := 15) rfl ?_); (try (refine gate_guard (by rfl) ?_; dsimp only)); refine box_event ?hg (N := 15) ?hd (cs := #[.int .i64 0, .slice none 0 0]) (t := 24) ?hr ?_; (case hd => rfl); (case hg => rfl); (case hr => first | (go_simp; done) | (go_simp; rfl)); intro gb239 hg w86 hbox hb; have n0_ := am (Kd.N_below (Kd.N_elderB (pn HO_201001) gb239 (Nat.le_of_eq hg.symm)) hb); have n1_ := am (Kd.N_below (Kd.N_elderB (pn HO_214001) gb239 (Nat.le_of_eq hg.symm)) hb); have n2_ := am (Kd.N_below (Kd.N_elderB (pn HO_227001) gb239 (Nat.le_of_eq hg.symm)) hb); have n3_ := am (Kd.N_below (Kd.N_elderB (pn HO234) gb239 (Nat.le_of_eq hg.symm)) hb); have n4_ := am (Kd.R_below (pr HO237) hb); have n5_ := bb BK200 hb; have n6_ := bb BK213 hb; have n7_ := bb BK226 hb; have n8_ := am (below_step (pb HB) hb); have n9_ := am (hbox); have n10_ := am ((by rw [hg]; exact (below_size (pb HB)) : w.heap.size ≤ gb239)); have n11_ := am ((by rw [hg]; exact (below_size (pb HB)) : w.heap.size ≤ gb239)); have n12_ := am ((by rw [hg]; exact Nat.ne_of_lt (bl BK200) : gb200 ≠ gb239)); have n13_ := am ((by rw [hg]; exact Nat.ne_of_gt (bl BK200) : gb239 ≠ gb200)); have n14_ := am ((by rw [hg]; exact Nat.ne_of_lt (bl BK213) : gb213 ≠ gb239)); have n15_ := am ((by rw [hg]; exact Nat.ne_of_gt (bl BK213) : gb239 ≠ gb213)); have n16_ := am ((by rw [hg]; exact Nat.ne_of_lt (bl BK226) : gb226 ≠ gb239)); have n17_ := am ((by rw [hg]; exact Nat.ne_of_gt (bl BK226) : gb239 ≠ gb226)); clear HO_201001 HO_214001 HO_227001 HO234 HO237 BK200 BK213 BK226 HB; have HO_201001 := n0_; have HO_214001 := n1_; have HO_227001 := n2_; have HO234 := n3_; have HO237 := n4_; have BK200 := n5_; have BK213 := n6_; have BK226 := n7_; have HB := n8_; have BK239 := n9_; have GW239 := n10_; have GE239 := n11_; have NB200_239 := n12_; have NB239_200 := n13_; have NB213_239 := n14_; have NB239_213 := n15_; have NB226_239 := n16_; have NB239_226 := n17_; clear n0_ n1_ n2_ n3_ n4_ n5_ n6_ n7_ n8_ n9_ n10_ n11_ n12_ n13_ n14_ n15_ n16_ n17_ hb hbox hg; have hnb87 := NB239_200.out; have hnc87 := NB200_239.out; have hnb88 := NB239_213.out; have hnc88 := NB213_239.out; have hnb89 := NB239_226.out; have hnc89 := NB226_239.out; have hcz90_0 : w86.cell? ⟨gb239, 0, none⟩ = some (.int .i64 0) := (blk_cell BK239.out 0).trans rfl; have hcz90_1 : w86.cell? ⟨gb239, 1, none⟩ = some (.slice none 0 0) := (blk_cell BK239.out 1).trans rfl; have hfz90_0 := blk_frozen BK239.out 0; have hfz90_1 := blk_frozen BK239.out 1; obtain ⟨Ao91, co91, eo91⟩ := Kd.N_slice HO234.out; subst eo91) | ((with_reducible refine gate_callee (f := 11) rfl ?_); refine goesL_ (some 114) rfl rfl Try.func11 (by kernel_rfl) rfl #[] rfl (by (try simp only [List.map_toArray, List.map_cons, List.map_nil]); first | done | rfl | (simp only [List.length_drop, List.length_take]; rfl)) ?_; (with_reducible refine (downpourlaw04_alive.calls k2  true _ A76.out).mono ?_); rintro e w92 ⟨rfl, hb⟩; refine ⟨_, rfl, ?_⟩; have n0_ := am (Kd.N_below (by (with_reducible repeat (first | apply Kd.N_alloc | apply Kd.N_drewN | apply Kd.N_drew)); exact (Kd.N_mono (Kd.N_far (p := ⟨gb239, 1, none⟩) (Kd.N_far (p := ⟨gb239, 0, none⟩) (Kd.N_mono HO_201001.out (fun k_ hk => (⟨hk, hk.2⟩ : _ ∧ k_ ≠ gb239))) (fun _ hk => hk.2) (.int .i64 t231)) (fun _ hk => hk.2) (.slice Ao91 t232.length co91)) (fun _ h_ => h_.1))) hb); have n1_ := am (Kd.N_below (by (with_reducible repeat (first | apply Kd.N_alloc | apply Kd.N_drewN | apply Kd.N_drew)); exact (Kd.N_mono (Kd.N_far (p := ⟨gb239, 1, none⟩) (Kd.N_far (p := ⟨gb239, 0, none⟩) (Kd.N_mono HO_214001.out (fun k_ hk => (⟨hk, hk.2⟩ : _ ∧ k_ ≠ gb239))) (fun _ hk => hk.2) (.int .i64 t231)) (fun _ hk => hk.2) (.slice Ao91 t232.length co91)) (fun _ h_ => h_.1))) hb); have n2_ := am (Kd.N_below (by (with_reducible repeat (first | apply Kd.N_alloc | apply Kd.N_drewN | apply Kd.N_drew)); exact (Kd.N_mono (Kd.N_far (p := ⟨gb239, 1, none⟩) (Kd.N_far (p := ⟨gb239, 0, none⟩) (Kd.N_mono HO_227001.out (fun k_ hk => (⟨hk, hk.2⟩ : _ ∧ k_ ≠ gb239))) (fun _ hk => hk.2) (.int .i64 t231)) (fun _ hk => hk.2) (.slice Ao91 t232.length co91)) (fun _ h_ => h_.1))) hb); have n3_ := am (Kd.N_below (by (with_reducible repeat (first | apply Kd.N_alloc | apply Kd.N_drewN | apply Kd.N_drew)); exact (Kd.N_mono (Kd.N_far (p := ⟨gb239, 1, none⟩) (Kd.N_far (p := ⟨gb239, 0, none⟩) (Kd.N_mono HO234.out (fun k_ hk => (⟨hk, hk.2⟩ : _ ∧ k_ ≠ gb239))) (fun _ hk => hk.2) (.int .i64 t231)) (fun _ hk => hk.2) (.slice Ao91 t232.length co91)) (fun _ h_ => h_.1))) hb); have n4_ := am (Kd.R_below (by (with_reducible repeat (first | apply Kd.R_alloc | apply Kd.R_drewN | apply Kd.R_drew)); exact (Kd.R_mono (Kd.R_far (p := ⟨gb239, 1, none⟩) (Kd.R_far (p := ⟨gb239, 0, none⟩) (Kd.R_types HO237.out BK239.out (by decide)) (fun _ hk => hk.2) (.int .i64 t231)) (fun _ hk => hk.2) (.slice Ao91 t232.length co91)) (fun _ h_ => h_.1))) hb); have n5_ := am (blk_below (g := gb200) (o := .cells #[.int .i64 t201, .slice (some ad215) t202.length co11] 24 (0, 0)) (by (with_reducible repeat (first | refine blk_drewN ?_ _ | refine blk_drew ?_ | refine blk_alloc ?_ _)); refine blk_far ?_ NB200_239.out _; (with_reducible repeat (first | refine blk_drewN ?_ _ | refine blk_drew ?_ | refine blk_alloc ?_ _)); refine blk_far ?_ NB200_239.out _; (with_reducible repeat (first | refine blk_drewN ?_ _ | refine blk_drew ?_ | refine blk_alloc ?_ _)); exact BK200.out) hb); have n6_ := am (blk_below (g := gb213) (o := .cells #[.int .i64 t205, .slice Ao18 t206.length co18] 24 (0, 0)) (by (with_reducible repeat (first | refine blk_drewN ?_ _ | refine blk_drew ?_ | refine blk_alloc ?_ _)); refine blk_far ?_ NB213_239.out _; (with_reducible repeat (first | refine blk_drewN ?_ _ | refine blk_drew ?_ | refine blk_alloc ?_ _)); refine blk_far ?_ NB213_239.out _; (with_reducible repeat (first | refine blk_drewN ?_ _ | refine blk_drew ?_ | refine blk_alloc ?_ _)); exact BK213.out) hb); have n7_ := am (blk_below (g := gb226) (o := .cells #[.int .i64 t201, .slice Ao84 x227001_2.length co84] 24 (0, 0)) (by (with_reducible repeat (first | refine blk_drewN ?_ _ | refine blk_drew ?_ | refine blk_alloc ?_ _)); refine blk_far ?_ NB226_239.out _; (with_reducible repeat (first | refine blk_drewN ?_ _ | refine blk_drew ?_ | refine blk_alloc ?_ _)); refine blk_far ?_ NB226_239.out _; (with_reducible repeat (first | refine blk_drewN ?_ _ | refine blk_drew ?_ | refine blk_alloc ?_ _)); exact BK226.out) hb); have n8_ := am (blk_below (g := gb239) (o := .cells #[.int .i64 t231, .slice Ao91 t232.length co91] 24 (0, 0)) (by (with_reducible repeat (first | refine blk_drewN ?_ _ | refine blk_drew ?_ | refine blk_alloc ?_ _)); refine blk_put (cs := #[.int .i64 t231, .slice none 0 0]) ?_ 1 _ rfl; (with_reducible repeat (first | refine blk_drewN ?_ _ | refine blk_drew ?_ | refine blk_alloc ?_ _)); refine blk_put (cs := #[.int .i64 0, .slice none 0 0]) ?_ 0 _ rfl; (with_reducible repeat (first | refine blk_drewN ?_ _ | refine blk_drew ?_ | refine blk_alloc ?_ _)); exact BK239.out) hb); have n9_ := am (below_step (pb HB) hb); clear HO_201001 HO_214001 HO_227001 HO234 HO237 BK200 BK213 BK226 BK239 HB; have HO_201001 := n0_; have HO_214001 := n1_; have HO_227001 := n2_; have HO234 := n3_; have HO237 := n4_; have BK200 := n5_; have BK213 := n6_; have BK226 := n7_; have BK239 := n8_; have HB := n9_; clear n0_ n1_ n2_ n3_ n4_ n5_ n6_ n7_ n8_ n9_; (try clear hb); (try clear hb2); (try clear hk); (try clear hi); have hnb93 := NB213_200.out; have hnc93 := NB200_213.out; have hcz94_0 : w92.cell? ⟨gb213, 0, none⟩ = some (.int .i64 t205) := (blk_cell BK213.out 0).trans rfl; have hcz94_1 : w92.cell? ⟨gb213, 1, none⟩ = some (.slice Ao18 t206.length co18) := (blk_cell BK213.out 1).trans rfl; have hfz94_0 := blk_frozen BK213.out 0; have hfz94_1 := blk_frozen BK213.out 1; have hcz95_0 : w92.cell? ⟨gb239, 0, none⟩ = some (.int .i64 t231) := (blk_cell BK239.out 0).trans rfl; have hcz95_1 : w92.cell? ⟨gb239, 1, none⟩ = some (.slice Ao91 t232.length co91) := (blk_cell BK239.out 1).trans rfl; have hfz95_0 := blk_frozen BK239.out 0; have hfz95_1 := blk_frozen BK239.out 1) | (go_at_call 12; (with_reducible refine (downpourref03_Same.calls k2 t205 _ _ t206 t231 _ _ t232 t241 _ ?side1 ?side2 ?side3 ?side4 A80.out).mono ?_); (case side1 => repeat (first | exact (Kd.N_reads' HO_214001.out).2.2 | (with_reducible refine Kd.C_alloc ?_ _) | (with_reducible refine Kd.C_drewN ?_ _) | (with_reducible refine Kd.C_drew ?_))); (case side2 => exact (Kd.N_reads' HO_214001.out).2.1); (case side3 => repeat (first | exact (Kd.N_reads' HO234.out).2.2 | (with_reducible refine Kd.C_alloc ?_ _) | (with_reducible refine Kd.C_drewN ?_ _) | (with_reducible refine Kd.C_drew ?_))); (case side4 => exact (Kd.N_reads' HO234.out).2.1); rintro e w96 ⟨rfl, hb⟩; have n0_ := am (Kd.N_below (pn HO_201001) hb); have n1_ := am (Kd.N_below (pn HO_214001) hb); have n2_ := am (Kd.N_below (pn HO_227001) hb); have n3_ := am (Kd.N_below (pn HO234) hb); have n4_ := am (Kd.R_below (pr HO237) hb); have n5_ := bb BK200 hb; have n6_ := bb BK213 hb; have n7_ := bb BK226 hb; have n8_ := bb BK239 hb; have n9_ := am (below_step (pb HB) hb); clear HO_201001 HO_214001 HO_227001 HO234 HO237 BK200 BK213 BK226 BK239 HB; have HO_201001 := n0_; have HO_214001 := n1_; have HO_227001 := n2_; have HO234 := n3_; have HO237 := n4_; have BK200 := n5_; have BK213 := n6_; have BK226 := n7_; have BK239 := n8_; have HB := n9_; clear n0_ n1_ n2_ n3_ n4_ n5_ n6_ n7_ n8_ n9_; (try clear hb); (try clear hb2); (try clear hk); (try clear hi)))
               go_ret
               exact ⟨by first | rfl | (simp [errW_none, errW_some] <;> rfl) | (simp only [← hji34, ← hji37]; first | rfl | (simp [errW_none, errW_some] <;> rfl)) | (simp [*, errW_none, errW_some] <;> rfl), pb HB⟩
              ·
               rw [if_neg c79] at H
               have c79b0 : (t238 == 0) = false := beq_eq_false_iff_ne.mpr c79
               have c79b1 : (t238 != 0) = true := bne_iff_ne.mpr c79
               obtain rfl := Option.some.inj H
               have hnb97 := NB226_200.out
               have hnc97 := NB200_226.out
               have hnb98 := NB226_213.out
               have hnc98 := NB213_226.out
               have hcz99_0 : wr.cell? ⟨gb226, 0, none⟩ = some (.int .i64 t201) := (blk_cell BK226.out 0).trans rfl
               have hcz99_1 : wr.cell? ⟨gb226, 1, none⟩ = some (u227001) := (blk_cell BK226.out 1).trans rfl
               have hfz99_0 := blk_frozen BK226.out 0
               have hfz99_1 := blk_frozen BK226.out 1
               obtain ⟨Ao100, co100, eo100⟩ := Kd.N_slice HO_227001.out
               subst eo100
               go_wp2_with (first | ((with_reducible refine gate_callee (f := 8) rfl ?_); refine goesL_ (some 110) rfl rfl Try.func8 (by kernel_rfl) rfl #[.agg #[.int .i64 t201, .slice Ao100 x227001_2.length co100]] rfl (by (try simp only [List.map_toArray, List.map_cons, List.map_nil]); first | done | rfl | (simp only [List.length_drop, List.length_take]; rfl)) ?_; (with_reducible refine (reduce_Echelon.calls k2 t201 (fun k_ => (some k_ ≠ (.slice (some ad215) t202.length co11 : Value).ownBlock ∧ (some k_ ≠ (.slice Ao18 t206.length co18 : Value).ownBlock ∧ (k_ ≠ gb200 ∧ (k_ ≠ gb213 ∧ k_ ≠ gb226))))) _ _ x227001_2 t231 t232 t235 t238 _ ?side1 A75.out).mono ?_); (case side1 => exact Kd.N_V (HO_227001.out)); rintro e w101 ⟨v233, v236, rfl, ho0, ho1, hb⟩; refine ⟨_, rfl, ?_⟩; have n0_ := am (Kd.N_mono (Kd.N_told (Kd.N_told (Kd.N_old (pn HO_201001) hb) (Kd.N_base ho0)) (Kd.R_base ho1)) (fun _ h_ => h_.1)); have n1_ := am (Kd.N_mono (Kd.N_told (Kd.N_told (Kd.N_old (pn HO_214001) hb) (Kd.N_base ho0)) (Kd.R_base ho1)) (fun _ h_ => h_.1)); have n2_ := am (Kd.N_mono (Kd.N_told (Kd.N_told (Kd.N_old (pn HO_227001) hb) (Kd.N_base ho0)) (Kd.R_base ho1)) (fun _ h_ => h_.1)); have n3_ := am (Kd.N_lower (Kd.N_mono (ok' := fun k_ => some k_ ≠ (v236 : Value).ownBlock ∧ some k_ ≠ (.slice (some ad215) t202.length co11 : Value).ownBlock ∧ some k_ ≠ (.slice Ao18 t206.length co18 : Value).ownBlock ∧ k_ ≠ gb200 ∧ k_ ≠ gb213 ∧ k_ ≠ gb226) ho0 (fun k_ hk_ => ⟨hk_.2, Or.elim hk_.1 (fun hs_ => hs_.1) (fun hn_ => (Kd.fresh' (Kd.N_lt (pn HO_201001)) k_ hn_)), Or.elim hk_.1 (fun hs_ => hs_.2.1) (fun hn_ => (Kd.fresh' (Kd.N_lt (pn HO_214001)) k_ hn_)), Or.elim hk_.1 (fun hs_ => hs_.2.2.1) (fun hn_ => (Kd.freshB (g := gb200) (o := .cells #[.int .i64 t201, .slice (some ad215) t202.length co11] 24 (0, 0)) (pk BK200) k_ hn_)), Or.elim hk_.1 (fun hs_ => hs_.2.2.2.1) (fun hn_ => (Kd.freshB (g := gb213) (o := .cells #[.int .i64 t205, .slice Ao18 t206.length co18] 24 (0, 0)) (pk BK213) k_ hn_)), Or.elim hk_.1 (fun hs_ => hs_.2.2.2.2) (fun hn_ => (Kd.freshB (g := gb226) (o := .cells #[.int .i64 t201, .slice Ao100 x227001_2.length co100] 24 (0, 0)) (pk BK226) k_ hn_))⟩)) (below_size (pb HB))); have n4_ := am (Kd.R_lower (Kd.R_mono (ok' := fun k_ => True) ho1 (fun _ hk_ => trivial)) (below_size (pb HB))); have n5_ := bb BK200 hb; have n6_ := bb BK213 hb; have n7_ := bb BK226 hb; have n8_ := am (below_step (pb HB) hb); clear HO_201001 HO_214001 HO_227001 BK200 BK213 BK226 HB; have HO_201001 := n0_; have HO_214001 := n1_; have HO_227001 := n2_; have HO234 := n3_; have HO237 := n4_; have BK200 := n5_; have BK213 := n6_; have BK226 := n7_; have HB := n8_; clear n0_ n1_ n2_ n3_ n4_ n5_ n6_ n7_ n8_; (try clear hb); (try clear hb2); (try clear hk); (try clear hi); (try clear ho0); (try clear ho1)) | ((with_reducible refine gate_dst (N := 15) rfl ?_); (try (refine gate_guard (by rfl) ?_; dsimp only)); refine box_event ?hg (N := 15) ?hd (cs := #[.int .i64 0, .slice none 0 0]) (t := 24) ?hr ?_; (case hd => rfl); (case hg => rfl); (case hr => first | (go_simp; done) | (go_simp; rfl)); intro gb239 hg w102 hbox hb; have n0_ := am (Kd.N_below (Kd.N_elderB (pn HO_201001) gb239 (Nat.le_of_eq hg.symm)) hb); have n1_ := am (Kd.N_below (Kd.N_elderB (pn HO_214001) gb239 (Nat.le_of_eq hg.symm)) hb); have n2_ := am (Kd.N_below (Kd.N_elderB (pn HO_227001) gb239 (Nat.le_of_eq hg.symm)) hb); have n3_ := am (Kd.N_below (Kd.N_elderB (pn HO234) gb239 (Nat.le_of_eq hg.symm)) hb); have n4_ := am (Kd.R_below (pr HO237) hb); have n5_ := bb BK200 hb; have n6_ := bb BK213 hb; have n7_ := bb BK226 hb; have n8_ := am (below_step (pb HB) hb); have n9_ := am (hbox); have n10_ := am ((by rw [hg]; exact (below_size (pb HB)) : w.heap.size ≤ gb239)); have n11_ := am ((by rw [hg]; exact (below_size (pb HB)) : w.heap.size ≤ gb239)); have n12_ := am ((by rw [hg]; exact Nat.ne_of_lt (bl BK200) : gb200 ≠ gb239)); have n13_ := am ((by rw [hg]; exact Nat.ne_of_gt (bl BK200) : gb239 ≠ gb200)); have n14_ := am ((by rw [hg]; exact Nat.ne_of_lt (bl BK213) : gb213 ≠ gb239)); have n15_ := am ((by rw [hg]; exact Nat.ne_of_gt (bl BK213) : gb239 ≠ gb213)); have n16_ := am ((by rw [hg]; exact Nat.ne_of_lt (bl BK226) : gb226 ≠ gb239)); have n17_ := am ((by rw [hg]; exact Nat.ne_of_gt (bl BK226) : gb239 ≠ gb226)); clear HO_201001 HO_214001 HO_227001 HO234 HO237 BK200 BK213 BK226 HB; have HO_201001 := n0_; have HO_214001 := n1_; have HO_227001 := n2_; have HO234 := n3_; have HO237 := n4_; have BK200 := n5_; have BK213 := n6_; have BK226 := n7_; have HB := n8_; have BK239 := n9_; have GW239 := n10_; have GE239 := n11_; have NB200_239 := n12_; have NB239_200 := n13_; have NB213_239 := n14_; have NB239_213 := n15_; have NB226_239 := n16_; have NB239_226 := n17_; clear n0_ n1_ n2_ n3_ n4_ n5_ n6_ n7_ n8_ n9_ n10_ n11_ n12_ n13_ n14_ n15_ n16_ n17_ hb hbox hg; have hnb103 := NB239_200.out; have hnc103 := NB200_239.out; have hnb104 := NB239_213.out; have hnc104 := NB213_239.out; have hnb105 := NB239_226.out; have hnc105 := NB226_239.out; have hcz106_0 : w102.cell? ⟨gb239, 0, none⟩ = some (.int .i64 0) := (blk_cell BK239.out 0).trans rfl; have hcz106_1 : w102.cell? ⟨gb239, 1, none⟩ = some (.slice none 0 0) := (blk_cell BK239.out 1).trans rfl; have hfz106_0 := blk_frozen BK239.out 0; have hfz106_1 := blk_frozen BK239.out 1; obtain ⟨Ao107, co107, eo107⟩ := Kd.N_slice HO234.out; subst eo107) | ((with_reducible refine gate_callee (f := 11) rfl ?_); refine goesL_ (some 114) rfl rfl Try.func11 (by kernel_rfl) rfl #[] rfl (by (try simp only [List.map_toArray, List.map_cons, List.map_nil]); first | done | rfl | (simp only [List.length_drop, List.length_take]; rfl)) ?_; (with_reducible refine (downpourlaw04_alive.calls k2  true _ A76.out).mono ?_); rintro e w108 ⟨rfl, hb⟩; refine ⟨_, rfl, ?_⟩; have n0_ := am (Kd.N_below (by (with_reducible repeat (first | apply Kd.N_alloc | apply Kd.N_drewN | apply Kd.N_drew)); exact (Kd.N_mono (Kd.N_far (p := ⟨gb239, 1, none⟩) (Kd.N_far (p := ⟨gb239, 0, none⟩) (Kd.N_mono HO_201001.out (fun k_ hk => (⟨hk, hk.2⟩ : _ ∧ k_ ≠ gb239))) (fun _ hk => hk.2) (.int .i64 t231)) (fun _ hk => hk.2) (.slice Ao107 t232.length co107)) (fun _ h_ => h_.1))) hb); have n1_ := am (Kd.N_below (by (with_reducible repeat (first | apply Kd.N_alloc | apply Kd.N_drewN | apply Kd.N_drew)); exact (Kd.N_mono (Kd.N_far (p := ⟨gb239, 1, none⟩) (Kd.N_far (p := ⟨gb239, 0, none⟩) (Kd.N_mono HO_214001.out (fun k_ hk => (⟨hk, hk.2⟩ : _ ∧ k_ ≠ gb239))) (fun _ hk => hk.2) (.int .i64 t231)) (fun _ hk => hk.2) (.slice Ao107 t232.length co107)) (fun _ h_ => h_.1))) hb); have n2_ := am (Kd.N_below (by (with_reducible repeat (first | apply Kd.N_alloc | apply Kd.N_drewN | apply Kd.N_drew)); exact (Kd.N_mono (Kd.N_far (p := ⟨gb239, 1, none⟩) (Kd.N_far (p := ⟨gb239, 0, none⟩) (Kd.N_mono HO_227001.out (fun k_ hk => (⟨hk, hk.2⟩ : _ ∧ k_ ≠ gb239))) (fun _ hk => hk.2) (.int .i64 t231)) (fun _ hk => hk.2) (.slice Ao107 t232.length co107)) (fun _ h_ => h_.1))) hb); have n3_ := am (Kd.N_below (by (with_reducible repeat (first | apply Kd.N_alloc | apply Kd.N_drewN | apply Kd.N_drew)); exact (Kd.N_mono (Kd.N_far (p := ⟨gb239, 1, none⟩) (Kd.N_far (p := ⟨gb239, 0, none⟩) (Kd.N_mono HO234.out (fun k_ hk => (⟨hk, hk.2⟩ : _ ∧ k_ ≠ gb239))) (fun _ hk => hk.2) (.int .i64 t231)) (fun _ hk => hk.2) (.slice Ao107 t232.length co107)) (fun _ h_ => h_.1))) hb); have n4_ := am (Kd.R_below (by (with_reducible repeat (first | apply Kd.R_alloc | apply Kd.R_drewN | apply Kd.R_drew)); exact (Kd.R_mono (Kd.R_far (p := ⟨gb239, 1, none⟩) (Kd.R_far (p := ⟨gb239, 0, none⟩) (Kd.R_types HO237.out BK239.out (by decide)) (fun _ hk => hk.2) (.int .i64 t231)) (fun _ hk => hk.2) (.slice Ao107 t232.length co107)) (fun _ h_ => h_.1))) hb); have n5_ := am (blk_below (g := gb200) (o := .cells #[.int .i64 t201, .slice (some ad215) t202.length co11] 24 (0, 0)) (by (with_reducible repeat (first | refine blk_drewN ?_ _ | refine blk_drew ?_ | refine blk_alloc ?_ _)); refine blk_far ?_ NB200_239.out _; (with_reducible repeat (first | refine blk_drewN ?_ _ | refine blk_drew ?_ | refine blk_alloc ?_ _)); refine blk_far ?_ NB200_239.out _; (with_reducible repeat (first | refine blk_drewN ?_ _ | refine blk_drew ?_ | refine blk_alloc ?_ _)); exact BK200.out) hb); have n6_ := am (blk_below (g := gb213) (o := .cells #[.int .i64 t205, .slice Ao18 t206.length co18] 24 (0, 0)) (by (with_reducible repeat (first | refine blk_drewN ?_ _ | refine blk_drew ?_ | refine blk_alloc ?_ _)); refine blk_far ?_ NB213_239.out _; (with_reducible repeat (first | refine blk_drewN ?_ _ | refine blk_drew ?_ | refine blk_alloc ?_ _)); refine blk_far ?_ NB213_239.out _; (with_reducible repeat (first | refine blk_drewN ?_ _ | refine blk_drew ?_ | refine blk_alloc ?_ _)); exact BK213.out) hb); have n7_ := am (blk_below (g := gb226) (o := .cells #[.int .i64 t201, .slice Ao100 x227001_2.length co100] 24 (0, 0)) (by (with_reducible repeat (first | refine blk_drewN ?_ _ | refine blk_drew ?_ | refine blk_alloc ?_ _)); refine blk_far ?_ NB226_239.out _; (with_reducible repeat (first | refine blk_drewN ?_ _ | refine blk_drew ?_ | refine blk_alloc ?_ _)); refine blk_far ?_ NB226_239.out _; (with_reducible repeat (first | refine blk_drewN ?_ _ | refine blk_drew ?_ | refine blk_alloc ?_ _)); exact BK226.out) hb); have n8_ := am (blk_below (g := gb239) (o := .cells #[.int .i64 t231, .slice Ao107 t232.length co107] 24 (0, 0)) (by (with_reducible repeat (first | refine blk_drewN ?_ _ | refine blk_drew ?_ | refine blk_alloc ?_ _)); refine blk_put (cs := #[.int .i64 t231, .slice none 0 0]) ?_ 1 _ rfl; (with_reducible repeat (first | refine blk_drewN ?_ _ | refine blk_drew ?_ | refine blk_alloc ?_ _)); refine blk_put (cs := #[.int .i64 0, .slice none 0 0]) ?_ 0 _ rfl; (with_reducible repeat (first | refine blk_drewN ?_ _ | refine blk_drew ?_ | refine blk_alloc ?_ _)); exact BK239.out) hb); have n9_ := am (below_step (pb HB) hb); clear HO_201001 HO_214001 HO_227001 HO234 HO237 BK200 BK213 BK226 BK239 HB; have HO_201001 := n0_; have HO_214001 := n1_; have HO_227001 := n2_; have HO234 := n3_; have HO237 := n4_; have BK200 := n5_; have BK213 := n6_; have BK226 := n7_; have BK239 := n8_; have HB := n9_; clear n0_ n1_ n2_ n3_ n4_ n5_ n6_ n7_ n8_ n9_; (try clear hb); (try clear hb2); (try clear hk); (try clear hi)))
               go_ret
               exact ⟨by first | rfl | (simp [errW_none, errW_some] <;> rfl) | (simp only [← hji34, ← hji37]; first | rfl | (simp [errW_none, errW_some] <;> rfl)) | (simp [*, errW_none, errW_some] <;> rfl), pb HB⟩
             ·
              rw [if_neg c78] at H
              have c78b0 : (t221 == 0) = false := beq_eq_false_iff_ne.mpr c78
              have c78b1 : (t221 != 0) = true := bne_iff_ne.mpr c78
              obtain rfl := Option.some.inj H
              have hnb109 := NB226_200.out
              have hnc109 := NB200_226.out
              have hnb110 := NB226_213.out
              have hnc110 := NB213_226.out
              have hcz111_0 : wr.cell? ⟨gb226, 0, none⟩ = some (.int .i64 t201) := (blk_cell BK226.out 0).trans rfl
              have hcz111_1 : wr.cell? ⟨gb226, 1, none⟩ = some (u227001) := (blk_cell BK226.out 1).trans rfl
              have hfz111_0 := blk_frozen BK226.out 0
              have hfz111_1 := blk_frozen BK226.out 1
              obtain ⟨Ao112, co112, eo112⟩ := Kd.N_slice HO_227001.out
              subst eo112
              go_wp2_with (first | ((with_reducible refine gate_callee (f := 8) rfl ?_); refine goesL_ (some 110) rfl rfl Try.func8 (by kernel_rfl) rfl #[.agg #[.int .i64 t201, .slice Ao112 x227001_2.length co112]] rfl (by (try simp only [List.map_toArray, List.map_cons, List.map_nil]); first | done | rfl | (simp only [List.length_drop, List.length_take]; rfl)) ?_; (with_reducible refine (reduce_Echelon.calls k2 t201 (fun k_ => (some k_ ≠ (.slice (some ad215) t202.length co11 : Value).ownBlock ∧ (some k_ ≠ (.slice Ao18 t206.length co18 : Value).ownBlock ∧ (k_ ≠ gb200 ∧ (k_ ≠ gb213 ∧ k_ ≠ gb226))))) _ _ x227001_2 t231 t232 t235 t238 _ ?side1 A75.out).mono ?_); (case side1 => exact Kd.N_V (HO_227001.out)); rintro e w113 ⟨v233, v236, rfl, ho0, ho1, hb⟩; refine ⟨_, rfl, ?_⟩; have n0_ := am (Kd.N_mono (Kd.N_told (Kd.N_told (Kd.N_old (pn HO_201001) hb) (Kd.N_base ho0)) (Kd.R_base ho1)) (fun _ h_ => h_.1)); have n1_ := am (Kd.N_mono (Kd.N_told (Kd.N_told (Kd.N_old (pn HO_214001) hb) (Kd.N_base ho0)) (Kd.R_base ho1)) (fun _ h_ => h_.1)); have n2_ := am (Kd.N_mono (Kd.N_told (Kd.N_told (Kd.N_old (pn HO_227001) hb) (Kd.N_base ho0)) (Kd.R_base ho1)) (fun _ h_ => h_.1)); have n3_ := am (Kd.N_lower (Kd.N_mono (ok' := fun k_ => some k_ ≠ (v236 : Value).ownBlock ∧ some k_ ≠ (.slice (some ad215) t202.length co11 : Value).ownBlock ∧ some k_ ≠ (.slice Ao18 t206.length co18 : Value).ownBlock ∧ k_ ≠ gb200 ∧ k_ ≠ gb213 ∧ k_ ≠ gb226) ho0 (fun k_ hk_ => ⟨hk_.2, Or.elim hk_.1 (fun hs_ => hs_.1) (fun hn_ => (Kd.fresh' (Kd.N_lt (pn HO_201001)) k_ hn_)), Or.elim hk_.1 (fun hs_ => hs_.2.1) (fun hn_ => (Kd.fresh' (Kd.N_lt (pn HO_214001)) k_ hn_)), Or.elim hk_.1 (fun hs_ => hs_.2.2.1) (fun hn_ => (Kd.freshB (g := gb200) (o := .cells #[.int .i64 t201, .slice (some ad215) t202.length co11] 24 (0, 0)) (pk BK200) k_ hn_)), Or.elim hk_.1 (fun hs_ => hs_.2.2.2.1) (fun hn_ => (Kd.freshB (g := gb213) (o := .cells #[.int .i64 t205, .slice Ao18 t206.length co18] 24 (0, 0)) (pk BK213) k_ hn_)), Or.elim hk_.1 (fun hs_ => hs_.2.2.2.2) (fun hn_ => (Kd.freshB (g := gb226) (o := .cells #[.int .i64 t201, .slice Ao112 x227001_2.length co112] 24 (0, 0)) (pk BK226) k_ hn_))⟩)) (below_size (pb HB))); have n4_ := am (Kd.R_lower (Kd.R_mono (ok' := fun k_ => True) ho1 (fun _ hk_ => trivial)) (below_size (pb HB))); have n5_ := bb BK200 hb; have n6_ := bb BK213 hb; have n7_ := bb BK226 hb; have n8_ := am (below_step (pb HB) hb); clear HO_201001 HO_214001 HO_227001 BK200 BK213 BK226 HB; have HO_201001 := n0_; have HO_214001 := n1_; have HO_227001 := n2_; have HO234 := n3_; have HO237 := n4_; have BK200 := n5_; have BK213 := n6_; have BK226 := n7_; have HB := n8_; clear n0_ n1_ n2_ n3_ n4_ n5_ n6_ n7_ n8_; (try clear hb); (try clear hb2); (try clear hk); (try clear hi); (try clear ho0); (try clear ho1)) | ((with_reducible refine gate_dst (N := 15) rfl ?_); (try (refine gate_guard (by rfl) ?_; dsimp only)); refine box_event ?hg (N := 15) ?hd (cs := #[.int .i64 0, .slice none 0 0]) (t := 24) ?hr ?_; (case hd => rfl); (case hg => rfl); (case hr => first | (go_simp; done) | (go_simp; rfl)); intro gb239 hg w114 hbox hb; have n0_ := am (Kd.N_below (Kd.N_elderB (pn HO_201001) gb239 (Nat.le_of_eq hg.symm)) hb); have n1_ := am (Kd.N_below (Kd.N_elderB (pn HO_214001) gb239 (Nat.le_of_eq hg.symm)) hb); have n2_ := am (Kd.N_below (Kd.N_elderB (pn HO_227001) gb239 (Nat.le_of_eq hg.symm)) hb); have n3_ := am (Kd.N_below (Kd.N_elderB (pn HO234) gb239 (Nat.le_of_eq hg.symm)) hb); have n4_ := am (Kd.R_below (pr HO237) hb); have n5_ := bb BK200 hb; have n6_ := bb BK213 hb; have n7_ := bb BK226 hb; have n8_ := am (below_step (pb HB) hb); have n9_ := am (hbox); have n10_ := am ((by rw [hg]; exact (below_size (pb HB)) : w.heap.size ≤ gb239)); have n11_ := am ((by rw [hg]; exact (below_size (pb HB)) : w.heap.size ≤ gb239)); have n12_ := am ((by rw [hg]; exact Nat.ne_of_lt (bl BK200) : gb200 ≠ gb239)); have n13_ := am ((by rw [hg]; exact Nat.ne_of_gt (bl BK200) : gb239 ≠ gb200)); have n14_ := am ((by rw [hg]; exact Nat.ne_of_lt (bl BK213) : gb213 ≠ gb239)); have n15_ := am ((by rw [hg]; exact Nat.ne_of_gt (bl BK213) : gb239 ≠ gb213)); have n16_ := am ((by rw [hg]; exact Nat.ne_of_lt (bl BK226) : gb226 ≠ gb239)); have n17_ := am ((by rw [hg]; exact Nat.ne_of_gt (bl BK226) : gb239 ≠ gb226)); clear HO_201001 HO_214001 HO_227001 HO234 HO237 BK200 BK213 BK226 HB; have HO_201001 := n0_; have HO_214001 := n1_; have HO_227001 := n2_; have HO234 := n3_; have HO237 := n4_; have BK200 := n5_; have BK213 := n6_; have BK226 := n7_; have HB := n8_; have BK239 := n9_; have GW239 := n10_; have GE239 := n11_; have NB200_239 := n12_; have NB239_200 := n13_; have NB213_239 := n14_; have NB239_213 := n15_; have NB226_239 := n16_; have NB239_226 := n17_; clear n0_ n1_ n2_ n3_ n4_ n5_ n6_ n7_ n8_ n9_ n10_ n11_ n12_ n13_ n14_ n15_ n16_ n17_ hb hbox hg; have hnb115 := NB239_200.out; have hnc115 := NB200_239.out; have hnb116 := NB239_213.out; have hnc116 := NB213_239.out; have hnb117 := NB239_226.out; have hnc117 := NB226_239.out; have hcz118_0 : w114.cell? ⟨gb239, 0, none⟩ = some (.int .i64 0) := (blk_cell BK239.out 0).trans rfl; have hcz118_1 : w114.cell? ⟨gb239, 1, none⟩ = some (.slice none 0 0) := (blk_cell BK239.out 1).trans rfl; have hfz118_0 := blk_frozen BK239.out 0; have hfz118_1 := blk_frozen BK239.out 1; obtain ⟨Ao119, co119, eo119⟩ := Kd.N_slice HO234.out; subst eo119) | ((with_reducible refine gate_callee (f := 11) rfl ?_); refine goesL_ (some 114) rfl rfl Try.func11 (by kernel_rfl) rfl #[] rfl (by (try simp only [List.map_toArray, List.map_cons, List.map_nil]); first | done | rfl | (simp only [List.length_drop, List.length_take]; rfl)) ?_; (with_reducible refine (downpourlaw04_alive.calls k2  true _ A76.out).mono ?_); rintro e w120 ⟨rfl, hb⟩; refine ⟨_, rfl, ?_⟩; have n0_ := am (Kd.N_below (by (with_reducible repeat (first | apply Kd.N_alloc | apply Kd.N_drewN | apply Kd.N_drew)); exact (Kd.N_mono (Kd.N_far (p := ⟨gb239, 1, none⟩) (Kd.N_far (p := ⟨gb239, 0, none⟩) (Kd.N_mono HO_201001.out (fun k_ hk => (⟨hk, hk.2⟩ : _ ∧ k_ ≠ gb239))) (fun _ hk => hk.2) (.int .i64 t231)) (fun _ hk => hk.2) (.slice Ao119 t232.length co119)) (fun _ h_ => h_.1))) hb); have n1_ := am (Kd.N_below (by (with_reducible repeat (first | apply Kd.N_alloc | apply Kd.N_drewN | apply Kd.N_drew)); exact (Kd.N_mono (Kd.N_far (p := ⟨gb239, 1, none⟩) (Kd.N_far (p := ⟨gb239, 0, none⟩) (Kd.N_mono HO_214001.out (fun k_ hk => (⟨hk, hk.2⟩ : _ ∧ k_ ≠ gb239))) (fun _ hk => hk.2) (.int .i64 t231)) (fun _ hk => hk.2) (.slice Ao119 t232.length co119)) (fun _ h_ => h_.1))) hb); have n2_ := am (Kd.N_below (by (with_reducible repeat (first | apply Kd.N_alloc | apply Kd.N_drewN | apply Kd.N_drew)); exact (Kd.N_mono (Kd.N_far (p := ⟨gb239, 1, none⟩) (Kd.N_far (p := ⟨gb239, 0, none⟩) (Kd.N_mono HO_227001.out (fun k_ hk => (⟨hk, hk.2⟩ : _ ∧ k_ ≠ gb239))) (fun _ hk => hk.2) (.int .i64 t231)) (fun _ hk => hk.2) (.slice Ao119 t232.length co119)) (fun _ h_ => h_.1))) hb); have n3_ := am (Kd.N_below (by (with_reducible repeat (first | apply Kd.N_alloc | apply Kd.N_drewN | apply Kd.N_drew)); exact (Kd.N_mono (Kd.N_far (p := ⟨gb239, 1, none⟩) (Kd.N_far (p := ⟨gb239, 0, none⟩) (Kd.N_mono HO234.out (fun k_ hk => (⟨hk, hk.2⟩ : _ ∧ k_ ≠ gb239))) (fun _ hk => hk.2) (.int .i64 t231)) (fun _ hk => hk.2) (.slice Ao119 t232.length co119)) (fun _ h_ => h_.1))) hb); have n4_ := am (Kd.R_below (by (with_reducible repeat (first | apply Kd.R_alloc | apply Kd.R_drewN | apply Kd.R_drew)); exact (Kd.R_mono (Kd.R_far (p := ⟨gb239, 1, none⟩) (Kd.R_far (p := ⟨gb239, 0, none⟩) (Kd.R_types HO237.out BK239.out (by decide)) (fun _ hk => hk.2) (.int .i64 t231)) (fun _ hk => hk.2) (.slice Ao119 t232.length co119)) (fun _ h_ => h_.1))) hb); have n5_ := am (blk_below (g := gb200) (o := .cells #[.int .i64 t201, .slice (some ad215) t202.length co11] 24 (0, 0)) (by (with_reducible repeat (first | refine blk_drewN ?_ _ | refine blk_drew ?_ | refine blk_alloc ?_ _)); refine blk_far ?_ NB200_239.out _; (with_reducible repeat (first | refine blk_drewN ?_ _ | refine blk_drew ?_ | refine blk_alloc ?_ _)); refine blk_far ?_ NB200_239.out _; (with_reducible repeat (first | refine blk_drewN ?_ _ | refine blk_drew ?_ | refine blk_alloc ?_ _)); exact BK200.out) hb); have n6_ := am (blk_below (g := gb213) (o := .cells #[.int .i64 t205, .slice Ao18 t206.length co18] 24 (0, 0)) (by (with_reducible repeat (first | refine blk_drewN ?_ _ | refine blk_drew ?_ | refine blk_alloc ?_ _)); refine blk_far ?_ NB213_239.out _; (with_reducible repeat (first | refine blk_drewN ?_ _ | refine blk_drew ?_ | refine blk_alloc ?_ _)); refine blk_far ?_ NB213_239.out _; (with_reducible repeat (first | refine blk_drewN ?_ _ | refine blk_drew ?_ | refine blk_alloc ?_ _)); exact BK213.out) hb); have n7_ := am (blk_below (g := gb226) (o := .cells #[.int .i64 t201, .slice Ao112 x227001_2.length co112] 24 (0, 0)) (by (with_reducible repeat (first | refine blk_drewN ?_ _ | refine blk_drew ?_ | refine blk_alloc ?_ _)); refine blk_far ?_ NB226_239.out _; (with_reducible repeat (first | refine blk_drewN ?_ _ | refine blk_drew ?_ | refine blk_alloc ?_ _)); refine blk_far ?_ NB226_239.out _; (with_reducible repeat (first | refine blk_drewN ?_ _ | refine blk_drew ?_ | refine blk_alloc ?_ _)); exact BK226.out) hb); have n8_ := am (blk_below (g := gb239) (o := .cells #[.int .i64 t231, .slice Ao119 t232.length co119] 24 (0, 0)) (by (with_reducible repeat (first | refine blk_drewN ?_ _ | refine blk_drew ?_ | refine blk_alloc ?_ _)); refine blk_put (cs := #[.int .i64 t231, .slice none 0 0]) ?_ 1 _ rfl; (with_reducible repeat (first | refine blk_drewN ?_ _ | refine blk_drew ?_ | refine blk_alloc ?_ _)); refine blk_put (cs := #[.int .i64 0, .slice none 0 0]) ?_ 0 _ rfl; (with_reducible repeat (first | refine blk_drewN ?_ _ | refine blk_drew ?_ | refine blk_alloc ?_ _)); exact BK239.out) hb); have n9_ := am (below_step (pb HB) hb); clear HO_201001 HO_214001 HO_227001 HO234 HO237 BK200 BK213 BK226 BK239 HB; have HO_201001 := n0_; have HO_214001 := n1_; have HO_227001 := n2_; have HO234 := n3_; have HO237 := n4_; have BK200 := n5_; have BK213 := n6_; have BK226 := n7_; have BK239 := n8_; have HB := n9_; clear n0_ n1_ n2_ n3_ n4_ n5_ n6_ n7_ n8_ n9_; (try clear hb); (try clear hb2); (try clear hk); (try clear hi)))
              go_ret
              exact ⟨by first | rfl | (simp [errW_none, errW_some] <;> rfl) | (simp only [← hji34, ← hji37]; first | rfl | (simp [errW_none, errW_some] <;> rfl)) | (simp [*, errW_none, errW_some] <;> rfl), pb HB⟩
            ·
             replace c77 := Bool.eq_false_iff.mpr c77
             subst c77
             have H1 : (some false) = some r := by rw [if_neg (show ¬ (false = true) by decide)] at H; exact H
             clear H
             have H := H1
             clear H1
             obtain rfl := Option.some.inj H
             have hnb121 := NB226_200.out
             have hnc121 := NB200_226.out
             have hnb122 := NB226_213.out
             have hnc122 := NB213_226.out
             have hcz123_0 : wr.cell? ⟨gb226, 0, none⟩ = some (.int .i64 t201) := (blk_cell BK226.out 0).trans rfl
             have hcz123_1 : wr.cell? ⟨gb226, 1, none⟩ = some (u227001) := (blk_cell BK226.out 1).trans rfl
             have hfz123_0 := blk_frozen BK226.out 0
             have hfz123_1 := blk_frozen BK226.out 1
             obtain ⟨Ao124, co124, eo124⟩ := Kd.N_slice HO_227001.out
             subst eo124
             go_wp2_with (first | ((with_reducible refine gate_callee (f := 8) rfl ?_); refine goesL_ (some 110) rfl rfl Try.func8 (by kernel_rfl) rfl #[.agg #[.int .i64 t201, .slice Ao124 x227001_2.length co124]] rfl (by (try simp only [List.map_toArray, List.map_cons, List.map_nil]); first | done | rfl | (simp only [List.length_drop, List.length_take]; rfl)) ?_; (with_reducible refine (reduce_Echelon.calls k2 t201 (fun k_ => (some k_ ≠ (.slice (some ad215) t202.length co11 : Value).ownBlock ∧ (some k_ ≠ (.slice Ao18 t206.length co18 : Value).ownBlock ∧ (k_ ≠ gb200 ∧ (k_ ≠ gb213 ∧ k_ ≠ gb226))))) _ _ x227001_2 t231 t232 t235 t238 _ ?side1 A75.out).mono ?_); (case side1 => exact Kd.N_V (HO_227001.out)); rintro e w125 ⟨v233, v236, rfl, ho0, ho1, hb⟩; refine ⟨_, rfl, ?_⟩; have n0_ := am (Kd.N_mono (Kd.N_told (Kd.N_told (Kd.N_old (pn HO_201001) hb) (Kd.N_base ho0)) (Kd.R_base ho1)) (fun _ h_ => h_.1)); have n1_ := am (Kd.N_mono (Kd.N_told (Kd.N_told (Kd.N_old (pn HO_214001) hb) (Kd.N_base ho0)) (Kd.R_base ho1)) (fun _ h_ => h_.1)); have n2_ := am (Kd.N_mono (Kd.N_told (Kd.N_told (Kd.N_old (pn HO_227001) hb) (Kd.N_base ho0)) (Kd.R_base ho1)) (fun _ h_ => h_.1)); have n3_ := am (Kd.N_lower (Kd.N_mono (ok' := fun k_ => some k_ ≠ (v236 : Value).ownBlock ∧ some k_ ≠ (.slice (some ad215) t202.length co11 : Value).ownBlock ∧ some k_ ≠ (.slice Ao18 t206.length co18 : Value).ownBlock ∧ k_ ≠ gb200 ∧ k_ ≠ gb213 ∧ k_ ≠ gb226) ho0 (fun k_ hk_ => ⟨hk_.2, Or.elim hk_.1 (fun hs_ => hs_.1) (fun hn_ => (Kd.fresh' (Kd.N_lt (pn HO_201001)) k_ hn_)), Or.elim hk_.1 (fun hs_ => hs_.2.1) (fun hn_ => (Kd.fresh' (Kd.N_lt (pn HO_214001)) k_ hn_)), Or.elim hk_.1 (fun hs_ => hs_.2.2.1) (fun hn_ => (Kd.freshB (g := gb200) (o := .cells #[.int .i64 t201, .slice (some ad215) t202.length co11] 24 (0, 0)) (pk BK200) k_ hn_)), Or.elim hk_.1 (fun hs_ => hs_.2.2.2.1) (fun hn_ => (Kd.freshB (g := gb213) (o := .cells #[.int .i64 t205, .slice Ao18 t206.length co18] 24 (0, 0)) (pk BK213) k_ hn_)), Or.elim hk_.1 (fun hs_ => hs_.2.2.2.2) (fun hn_ => (Kd.freshB (g := gb226) (o := .cells #[.int .i64 t201, .slice Ao124 x227001_2.length co124] 24 (0, 0)) (pk BK226) k_ hn_))⟩)) (below_size (pb HB))); have n4_ := am (Kd.R_lower (Kd.R_mono (ok' := fun k_ => True) ho1 (fun _ hk_ => trivial)) (below_size (pb HB))); have n5_ := bb BK200 hb; have n6_ := bb BK213 hb; have n7_ := bb BK226 hb; have n8_ := am (below_step (pb HB) hb); clear HO_201001 HO_214001 HO_227001 BK200 BK213 BK226 HB; have HO_201001 := n0_; have HO_214001 := n1_; have HO_227001 := n2_; have HO234 := n3_; have HO237 := n4_; have BK200 := n5_; have BK213 := n6_; have BK226 := n7_; have HB := n8_; clear n0_ n1_ n2_ n3_ n4_ n5_ n6_ n7_ n8_; (try clear hb); (try clear hb2); (try clear hk); (try clear hi); (try clear ho0); (try clear ho1)) | ((with_reducible refine gate_dst (N := 15) rfl ?_); (try (refine gate_guard (by rfl) ?_; dsimp only)); refine box_event ?hg (N := 15) ?hd (cs := #[.int .i64 0, .slice none 0 0]) (t := 24) ?hr ?_; (case hd => rfl); (case hg => rfl); (case hr => first | (go_simp; done) | (go_simp; rfl)); intro gb239 hg w126 hbox hb; have n0_ := am (Kd.N_below (Kd.N_elderB (pn HO_201001) gb239 (Nat.le_of_eq hg.symm)) hb); have n1_ := am (Kd.N_below (Kd.N_elderB (pn HO_214001) gb239 (Nat.le_of_eq hg.symm)) hb); have n2_ := am (Kd.N_below (Kd.N_elderB (pn HO_227001) gb239 (Nat.le_of_eq hg.symm)) hb); have n3_ := am (Kd.N_below (Kd.N_elderB (pn HO234) gb239 (Nat.le_of_eq hg.symm)) hb); have n4_ := am (Kd.R_below (pr HO237) hb); have n5_ := bb BK200 hb; have n6_ := bb BK213 hb; have n7_ := bb BK226 hb; have n8_ := am (below_step (pb HB) hb); have n9_ := am (hbox); have n10_ := am ((by rw [hg]; exact (below_size (pb HB)) : w.heap.size ≤ gb239)); have n11_ := am ((by rw [hg]; exact (below_size (pb HB)) : w.heap.size ≤ gb239)); have n12_ := am ((by rw [hg]; exact Nat.ne_of_lt (bl BK200) : gb200 ≠ gb239)); have n13_ := am ((by rw [hg]; exact Nat.ne_of_gt (bl BK200) : gb239 ≠ gb200)); have n14_ := am ((by rw [hg]; exact Nat.ne_of_lt (bl BK213) : gb213 ≠ gb239)); have n15_ := am ((by rw [hg]; exact Nat.ne_of_gt (bl BK213) : gb239 ≠ gb213)); have n16_ := am ((by rw [hg]; exact Nat.ne_of_lt (bl BK226) : gb226 ≠ gb239)); have n17_ := am ((by rw [hg]; exact Nat.ne_of_gt (bl BK226) : gb239 ≠ gb226)); clear HO_201001 HO_214001 HO_227001 HO234 HO237 BK200 BK213 BK226 HB; have HO_201001 := n0_; have HO_214001 := n1_; have HO_227001 := n2_; have HO234 := n3_; have HO237 := n4_; have BK200 := n5_; have BK213 := n6_; have BK226 := n7_; have HB := n8_; have BK239 := n9_; have GW239 := n10_; have GE239 := n11_; have NB200_239 := n12_; have NB239_200 := n13_; have NB213_239 := n14_; have NB239_213 := n15_; have NB226_239 := n16_; have NB239_226 := n17_; clear n0_ n1_ n2_ n3_ n4_ n5_ n6_ n7_ n8_ n9_ n10_ n11_ n12_ n13_ n14_ n15_ n16_ n17_ hb hbox hg; have hnb127 := NB239_200.out; have hnc127 := NB200_239.out; have hnb128 := NB239_213.out; have hnc128 := NB213_239.out; have hnb129 := NB239_226.out; have hnc129 := NB226_239.out; have hcz130_0 : w126.cell? ⟨gb239, 0, none⟩ = some (.int .i64 0) := (blk_cell BK239.out 0).trans rfl; have hcz130_1 : w126.cell? ⟨gb239, 1, none⟩ = some (.slice none 0 0) := (blk_cell BK239.out 1).trans rfl; have hfz130_0 := blk_frozen BK239.out 0; have hfz130_1 := blk_frozen BK239.out 1; obtain ⟨Ao131, co131, eo131⟩ := Kd.N_slice HO234.out; subst eo131) | ((with_reducible refine gate_callee (f := 11) rfl ?_); refine goesL_ (some 114) rfl rfl Try.func11 (by kernel_rfl) rfl #[] rfl (by (try simp only [List.map_toArray, List.map_cons, List.map_nil]); first | done | rfl | (simp only [List.length_drop, List.length_take]; rfl)) ?_; (with_reducible refine (downpourlaw04_alive.calls k2  false _ A76.out).mono ?_); rintro e w132 ⟨rfl, hb⟩; refine ⟨_, rfl, ?_⟩; have n0_ := am (Kd.N_below (by (with_reducible repeat (first | apply Kd.N_alloc | apply Kd.N_drewN | apply Kd.N_drew)); exact (Kd.N_mono (Kd.N_far (p := ⟨gb239, 1, none⟩) (Kd.N_far (p := ⟨gb239, 0, none⟩) (Kd.N_mono HO_201001.out (fun k_ hk => (⟨hk, hk.2⟩ : _ ∧ k_ ≠ gb239))) (fun _ hk => hk.2) (.int .i64 t231)) (fun _ hk => hk.2) (.slice Ao131 t232.length co131)) (fun _ h_ => h_.1))) hb); have n1_ := am (Kd.N_below (by (with_reducible repeat (first | apply Kd.N_alloc | apply Kd.N_drewN | apply Kd.N_drew)); exact (Kd.N_mono (Kd.N_far (p := ⟨gb239, 1, none⟩) (Kd.N_far (p := ⟨gb239, 0, none⟩) (Kd.N_mono HO_214001.out (fun k_ hk => (⟨hk, hk.2⟩ : _ ∧ k_ ≠ gb239))) (fun _ hk => hk.2) (.int .i64 t231)) (fun _ hk => hk.2) (.slice Ao131 t232.length co131)) (fun _ h_ => h_.1))) hb); have n2_ := am (Kd.N_below (by (with_reducible repeat (first | apply Kd.N_alloc | apply Kd.N_drewN | apply Kd.N_drew)); exact (Kd.N_mono (Kd.N_far (p := ⟨gb239, 1, none⟩) (Kd.N_far (p := ⟨gb239, 0, none⟩) (Kd.N_mono HO_227001.out (fun k_ hk => (⟨hk, hk.2⟩ : _ ∧ k_ ≠ gb239))) (fun _ hk => hk.2) (.int .i64 t231)) (fun _ hk => hk.2) (.slice Ao131 t232.length co131)) (fun _ h_ => h_.1))) hb); have n3_ := am (Kd.N_below (by (with_reducible repeat (first | apply Kd.N_alloc | apply Kd.N_drewN | apply Kd.N_drew)); exact (Kd.N_mono (Kd.N_far (p := ⟨gb239, 1, none⟩) (Kd.N_far (p := ⟨gb239, 0, none⟩) (Kd.N_mono HO234.out (fun k_ hk => (⟨hk, hk.2⟩ : _ ∧ k_ ≠ gb239))) (fun _ hk => hk.2) (.int .i64 t231)) (fun _ hk => hk.2) (.slice Ao131 t232.length co131)) (fun _ h_ => h_.1))) hb); have n4_ := am (Kd.R_below (by (with_reducible repeat (first | apply Kd.R_alloc | apply Kd.R_drewN | apply Kd.R_drew)); exact (Kd.R_mono (Kd.R_far (p := ⟨gb239, 1, none⟩) (Kd.R_far (p := ⟨gb239, 0, none⟩) (Kd.R_types HO237.out BK239.out (by decide)) (fun _ hk => hk.2) (.int .i64 t231)) (fun _ hk => hk.2) (.slice Ao131 t232.length co131)) (fun _ h_ => h_.1))) hb); have n5_ := am (blk_below (g := gb200) (o := .cells #[.int .i64 t201, .slice (some ad215) t202.length co11] 24 (0, 0)) (by (with_reducible repeat (first | refine blk_drewN ?_ _ | refine blk_drew ?_ | refine blk_alloc ?_ _)); refine blk_far ?_ NB200_239.out _; (with_reducible repeat (first | refine blk_drewN ?_ _ | refine blk_drew ?_ | refine blk_alloc ?_ _)); refine blk_far ?_ NB200_239.out _; (with_reducible repeat (first | refine blk_drewN ?_ _ | refine blk_drew ?_ | refine blk_alloc ?_ _)); exact BK200.out) hb); have n6_ := am (blk_below (g := gb213) (o := .cells #[.int .i64 t205, .slice Ao18 t206.length co18] 24 (0, 0)) (by (with_reducible repeat (first | refine blk_drewN ?_ _ | refine blk_drew ?_ | refine blk_alloc ?_ _)); refine blk_far ?_ NB213_239.out _; (with_reducible repeat (first | refine blk_drewN ?_ _ | refine blk_drew ?_ | refine blk_alloc ?_ _)); refine blk_far ?_ NB213_239.out _; (with_reducible repeat (first | refine blk_drewN ?_ _ | refine blk_drew ?_ | refine blk_alloc ?_ _)); exact BK213.out) hb); have n7_ := am (blk_below (g := gb226) (o := .cells #[.int .i64 t201, .slice Ao124 x227001_2.length co124] 24 (0, 0)) (by (with_reducible repeat (first | refine blk_drewN ?_ _ | refine blk_drew ?_ | refine blk_alloc ?_ _)); refine blk_far ?_ NB226_239.out _; (with_reducible repeat (first | refine blk_drewN ?_ _ | refine blk_drew ?_ | refine blk_alloc ?_ _)); refine blk_far ?_ NB226_239.out _; (with_reducible repeat (first | refine blk_drewN ?_ _ | refine blk_drew ?_ | refine blk_alloc ?_ _)); exact BK226.out) hb); have n8_ := am (blk_below (g := gb239) (o := .cells #[.int .i64 t231, .slice Ao131 t232.length co131] 24 (0, 0)) (by (with_reducible repeat (first | refine blk_drewN ?_ _ | refine blk_drew ?_ | refine blk_alloc ?_ _)); refine blk_put (cs := #[.int .i64 t231, .slice none 0 0]) ?_ 1 _ rfl; (with_reducible repeat (first | refine blk_drewN ?_ _ | refine blk_drew ?_ | refine blk_alloc ?_ _)); refine blk_put (cs := #[.int .i64 0, .slice none 0 0]) ?_ 0 _ rfl; (with_reducible repeat (first | refine blk_drewN ?_ _ | refine blk_drew ?_ | refine blk_alloc ?_ _)); exact BK239.out) hb); have n9_ := am (below_step (pb HB) hb); clear HO_201001 HO_214001 HO_227001 HO234 HO237 BK200 BK213 BK226 BK239 HB; have HO_201001 := n0_; have HO_214001 := n1_; have HO_227001 := n2_; have HO234 := n3_; have HO237 := n4_; have BK200 := n5_; have BK213 := n6_; have BK226 := n7_; have BK239 := n8_; have HB := n9_; clear n0_ n1_ n2_ n3_ n4_ n5_ n6_ n7_ n8_ n9_; (try clear hb); (try clear hb2); (try clear hk); (try clear hi)))
             go_ret
             exact ⟨by first | rfl | (simp [errW_none, errW_some] <;> rfl) | (simp only [← hji34, ← hji37]; first | rfl | (simp [errW_none, errW_some] <;> rfl)) | (simp [*, errW_none, errW_some] <;> rfl), pb HB⟩
        ·
         rw [if_neg c39] at H
         exact absurd H (by simp)
       ·
        rw [if_neg c38] at H
        exact absurd H (by simp)
      ·
       rw [if_neg c36] at H
       exact absurd H (by simp)
     ·
      rw [if_neg c35] at H
      exact absurd H (by simp)

end Go.Proofs.Ytfcedhejbnoinaa.PB
