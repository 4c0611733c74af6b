-- PRINTED by print.py (a twelfth state) out of the translation. Not trusted: Lean checks it.
import Derived.Test.YtfcedhejbnoinaaPCx0
import Derived.Test.YtfcedhejbnoinaaPCx1
import Derived.Test.YtfcedhejbnoinaaPCx6
import Derived.Test.YtfcedhejbnoinaaPCx7
namespace Go.Proofs.Ytfcedhejbnoinaa.PC
open Go.RowKit Go.Proofs.YtfcedhejbnoinaaW.PrintWords Go.Proofs.YtfcedhejbnoinaaW.PrintLast Go.Proofs.YtfcedhejbnoinaaW.PrintMore
open Bool renaming true → T, false → F
open List renaming setIfInBounds_toArray → q1, set_cons_zero → q2, set_cons_succ → q3
attribute [local go_sem] run_store_func max2_int min2_int max_two min_two max_three min_three max_four min_four   -- for this text's walks alone
set_option linter.unusedVariables false
set_option linter.unusedSimpArgs false

/-! ### downpourref04_with: function 32 -/
mutual
def downpourref04_with.l0 : Nat → List (S40) → Int → List (S40) → List (S40) → Int → Int → Int → List Int → Option ((List (S40)))
 | 0, _, _, _, _, _, _, _, _ => none
 | k + 1, x0, x5, x6, x14, x15, x16, x261000, x261001 => if x16 < x15 then (if 0 ≤ x16 then (if x16 < (x14.length : Int) then ((downpourref04_First.f k ((rd_T40 x14 x16).f0) ((rd_T40 x14 x16).f1)).bind fun t267 => (if t267 < x5 then ((downpourref01_Bit.f ((rd_T40 x14 x16).f0) ((rd_T40 x14 x16).f1) x5).bind fun t268 => (if t268 = 1 then ((downpourref01_Xor.f k ((rd_T40 x14 x16).f0) ((rd_T40 x14 x16).f1) x261000 x261001).bind fun bt269 => (if x6.length < 4398046511104 then (downpourref04_with.l0 k x0 x5 (x6 ++ [(⟨bt269.1, bt269.2⟩ : S40)]) x14 x15 (wrap64 (x16 + 1)) x261000 x261001) else (none))) else (if x6.length < 4398046511104 then (downpourref04_with.l0 k x0 x5 (x6 ++ [(⟨(rd_T40 x14 x16).f0, (rd_T40 x14 x16).f1⟩ : S40)]) x14 x15 (wrap64 (x16 + 1)) x261000 x261001) else (none)))) else (downpourref04_with.l0 k x0 x5 x6 x14 x15 (wrap64 (x16 + 1)) x261000 x261001))) else (none)) else (none)) else (if x6.length < 4398046511104 then (downpourref04_with.l1 k x5 (x6 ++ [(⟨x261000, x261001⟩ : S40)]) x0 (x0.length : Int) 0) else (none))
def downpourref04_with.l1 : Nat → Int → List (S40) → List (S40) → Int → Int → Option ((List (S40)))
 | 0, _, _, _, _, _ => none
 | k + 1, x5, x6, x40, x41, x42 => if x42 < x41 then (if 0 ≤ x42 then (if x42 < (x40.length : Int) then ((downpourref04_First.f k ((rd_T40 x40 x42).f0) ((rd_T40 x40 x42).f1)).bind fun t284 => (if t284 > x5 then (if x6.length < 4398046511104 then (downpourref04_with.l1 k x5 (x6 ++ [(⟨(rd_T40 x40 x42).f0, (rd_T40 x40 x42).f1⟩ : S40)]) x40 x41 (wrap64 (x42 + 1))) else (none)) else (downpourref04_with.l1 k x5 x6 x40 x41 (wrap64 (x42 + 1))))) else (none)) else (none)) else (some x6)
end
def downpourref04_with.f (k : Nat) (l0 : List (S40)) (a1_0 : Int) (l1_1 : List Int) : Option ((List (S40))) := (downpourref04_First.f k a1_0 l1_1).bind fun t261 => (downpourref04_with.l0 k l0 t261 (([] : List (S40))) l0 (l0.length : Int) 0 a1_0 l1_1)
theorem downpourref04_with.mono_l : ∀ k, (∀ y0 y1 y2 y3 y4 y5 y6 y7, LeO (downpourref04_with.l0 k y0 y1 y2 y3 y4 y5 y6 y7) (downpourref04_with.l0 (k + 1) y0 y1 y2 y3 y4 y5 y6 y7)) ∧ (∀ y0 y1 y2 y3 y4, LeO (downpourref04_with.l1 k y0 y1 y2 y3 y4) (downpourref04_with.l1 (k + 1) y0 y1 y2 y3 y4))
 | 0 => ⟨fun _ _ _ _ _ _ _ _ r h => by simp [downpourref04_with.l0] at h, fun _ _ _ _ _ r h => by simp [downpourref04_with.l1] at h⟩
 | k + 1 => by
  obtain ⟨ih0, ih1⟩ := downpourref04_with.mono_l k
  refine ⟨?_, ?_⟩
  ·
   intro y0 y1 y2 y3 y4 y5 y6 y7
   unfold downpourref04_with.l0
   repeat' first
   | (with_reducible exact ih0 _ _ _ _ _ _ _ _)
   | (with_reducible exact ih1 _ _ _ _ _)
   | (with_reducible exact downpourref01_Xor.mono _ _ _ _ _)
   | (with_reducible exact downpourref04_First.mono _ _ _)
   | (with_reducible exact LeO.refl _)
   | (with_reducible exact LeO.none _)
   | (with_reducible refine LeO.ite ?_ ?_)
   | (with_reducible refine LeO.bind ?_ (fun _ => ?_))
   | exact ih0 _ _ _ _ _ _ _ _
   | exact ih1 _ _ _ _ _
   | exact downpourref01_Xor.mono _ _ _ _ _
   | exact downpourref04_First.mono _ _ _
   | exact LeO.none _
   | refine LeO.ite ?_ ?_
   | refine LeO.bind ?_ (fun _ => ?_)
  ·
   intro y0 y1 y2 y3 y4
   unfold downpourref04_with.l1
   repeat' first
   | (with_reducible exact ih0 _ _ _ _ _ _ _ _)
   | (with_reducible exact ih1 _ _ _ _ _)
   | (with_reducible exact downpourref01_Xor.mono _ _ _ _ _)
   | (with_reducible exact downpourref04_First.mono _ _ _)
   | (with_reducible exact LeO.refl _)
   | (with_reducible exact LeO.none _)
   | (with_reducible refine LeO.ite ?_ ?_)
   | (with_reducible refine LeO.bind ?_ (fun _ => ?_))
   | exact ih0 _ _ _ _ _ _ _ _
   | exact ih1 _ _ _ _ _
   | exact downpourref01_Xor.mono _ _ _ _ _
   | exact downpourref04_First.mono _ _ _
   | exact LeO.none _
   | refine LeO.ite ?_ ?_
   | refine LeO.bind ?_ (fun _ => ?_)
theorem downpourref04_with.mono : ∀ a0 a1 a2 k, LeO (downpourref04_with.f k a0 a1 a2) (downpourref04_with.f (k + 1) a0 a1 a2) := by
 intro a0 a1 a2 k
 obtain ⟨ih0, ih1⟩ := downpourref04_with.mono_l k
 unfold downpourref04_with.f
 repeat' first
   | (with_reducible exact ih0 _ _ _ _ _ _ _ _)
   | (with_reducible exact ih1 _ _ _ _ _)
   | (with_reducible exact downpourref01_Xor.mono _ _ _ _ _)
   | (with_reducible exact downpourref04_First.mono _ _ _)
   | (with_reducible exact LeO.refl _)
   | (with_reducible exact LeO.none _)
   | (with_reducible refine LeO.ite ?_ ?_)
   | (with_reducible refine LeO.bind ?_ (fun _ => ?_))
   | exact ih0 _ _ _ _ _ _ _ _
   | exact ih1 _ _ _ _ _
   | exact downpourref01_Xor.mono _ _ _ _ _
   | exact downpourref04_First.mono _ _ _
   | exact LeO.none _
   | refine LeO.ite ?_ ?_
   | refine LeO.bind ?_ (fun _ => ?_)
set_option maxHeartbeats 8000000 in
set_option maxRecDepth 100000 in
theorem downpourref04_with.calls (k : Nat) (P0_ : Nat → Prop) (A0 : Option Addr) (c0 : Nat) (l0 : List (S40)) (a1_0 : Int) (P1_1_ : Nat → Prop) (A1_1 : Option Addr) (c1_1 : Nat) (l1_1 : List Int) (r : List (S40)) (w : World) (hs0 : Kd.V k40 40 w w.heap.size (fun k_ => P0_ k_) (.slice A0 l0.length c0) l0) (hs1_1 : Kd.V (Kd.int .u64) 48 w w.heap.size (fun k_ => P1_1_ k_) (.slice A1_1 l1_1.length c1_1) l1_1) (h : downpourref04_with.f k l0 a1_0 l1_1 = some r) :
  Calls Try.prog 32 #[.slice A0 l0.length c0, .agg #[.int .i64 a1_0, .slice A1_1 l1_1.length c1_1]] w fun e w' => ∃ v0_ : Value, e = .returned (v0_) ∧ Kd.N k40 40 w' w.heap.size (fun k_ => ((P0_ k_ ∨ P1_1_ k_) ∨ w.heap.size ≤ k_)) v0_ r ∧ Below w.heap.size w w' := by
 have hu40 := Try.underlying40
 have HO0 := am (show Kd.V k40 40 w w.heap.size (fun k_ => ((P0_ k_ ∨ P1_1_ k_) ∨ w.heap.size ≤ k_)) (.slice A0 l0.length c0) l0 from Kd.V_mono hs0 (fun k_ hk => .inl (.inl hk)))
 have HO1_1 := am (show Kd.V (Kd.int .u64) 48 w w.heap.size (fun k_ => ((P0_ k_ ∨ P1_1_ k_) ∨ w.heap.size ≤ k_)) (.slice A1_1 l1_1.length c1_1) l1_1 from Kd.V_mono hs1_1 (fun k_ hk => .inl (.inr hk)))
 have HB := am (Below.refl w.heap.size w)
 have H : ((downpourref04_First.f k a1_0 l1_1).bind fun t261 => (downpourref04_with.l0 k l0 t261 (([] : List (S40))) l0 (l0.length : Int) 0 a1_0 l1_1)) = some r := h
 clear h
 replace H := Option.bind_eq_some_iff.mp H
 obtain ⟨t261, A30, H⟩ := H
 replace H : (downpourref04_with.l0 k l0 t261 (([] : List (S40))) l0 (l0.length : Int) 0 a1_0 l1_1) = some r := H
 have A3 := Aside0.mk A30
 clear A30
 obtain ⟨y262, hy262⟩ : ∃ y_ : List (S40), y_ = (([] : List (S40))) := ⟨_, rfl⟩
 replace H : (downpourref04_with.l0 k l0 t261 y262 l0 (l0.length : Int) 0 a1_0 l1_1) = some r := by first | (rw [hy262]; with_reducible exact H) | (have H2_ := (Option.bind_some _ _).symm.trans H; rw [hy262]; with_reducible exact H2_) | (have H2_ := (Option.bind_some _ _).symm.trans H; with_reducible exact H2_) | with_reducible exact H | (rw [hy262]; exact H) | exact H
 have Ny262 := Aside0.mk hy262
 clear hy262
 have H' := Aside0.mk H
 clear H
 go_enter Try.func32, Try.ntmps32
 go_wp2_with (first | ((with_reducible refine gate_dst (N := 3) rfl ?_); refine box_event ?hg (N := 3) ?hd (cs := #[.int .i64 a1_0, .slice A1_1 l1_1.length c1_1]) (t := 40) ?hr ?_; (case hd => rfl); (case hg => rfl); (case hr => first | (go_simp; done) | (go_simp; rfl)); intro gb260 hg w4 hbox hb; have n0_ := am (Kd.V_below (Kd.V_elderB (pv HO0) gb260 (Nat.le_of_eq hg.symm)) hb); have n1_ := am (Kd.V_below (Kd.V_elderB (pv HO1_1) gb260 (Nat.le_of_eq hg.symm)) hb); have n2_ := am (below_step (pb HB) hb); have n3_ := am (hbox); have n4_ := am ((by rw [hg]; exact (below_size (pb HB)) : w.heap.size ≤ gb260)); have n5_ := am ((by rw [hg]; exact (below_size (pb HB)) : w.heap.size ≤ gb260)); clear HO0 HO1_1 HB; have HO0 := n0_; have HO1_1 := n1_; have HB := n2_; have BK260 := n3_; have GW260 := n4_; have GE260 := n5_; clear n0_ n1_ n2_ n3_ n4_ n5_ hb hbox hg; have hcz5_0 : w4.cell? ⟨gb260, 0, none⟩ = some (.int .i64 a1_0) := (blk_cell BK260.out 0).trans rfl; have hcz5_1 : w4.cell? ⟨gb260, 1, none⟩ = some (.slice A1_1 l1_1.length c1_1) := (blk_cell BK260.out 1).trans rfl; have hfz5_0 := blk_frozen BK260.out 0; have hfz5_1 := blk_frozen BK260.out 1) | ((with_reducible refine gate_callee (f := 31) rfl ?_); refine goesL_ (some 12) rfl rfl Try.func31 (by kernel_rfl) rfl #[.agg #[.int .i64 a1_0, .slice A1_1 l1_1.length c1_1]] rfl (by (try simp only [List.map_toArray, List.map_cons, List.map_nil]); first | done | rfl | (simp only [List.length_drop, List.length_take]; rfl)) ?_; (with_reducible refine (downpourref04_First.calls k a1_0 _ _ l1_1 t261 _ ?side1 ?side2 A3.out).mono ?_); (case side1 => repeat (first | exact (Kd.V_reads' HO1_1.out).2.2 | (with_reducible refine Kd.C_alloc ?_ _) | (with_reducible refine Kd.C_drewN ?_ _) | (with_reducible refine Kd.C_drew ?_))); (case side2 => exact (Kd.V_reads' HO1_1.out).2.1); rintro e w6 ⟨rfl, hb⟩; refine ⟨_, rfl, ?_⟩; have n0_ := am (Kd.V_below (pv HO0) hb); have n1_ := am (Kd.V_below (pv HO1_1) hb); have n2_ := bb BK260 hb; have n3_ := am (below_step (pb HB) hb); clear HO0 HO1_1 BK260 HB; have HO0 := n0_; have HO1_1 := n1_; have BK260 := n2_; have HB := n3_; clear n0_ n1_ n2_ n3_; (try clear hb); (try clear hb2); (try clear hk); (try clear hi)) | ((with_reducible refine gate_dst (N := 13) rfl ?_); refine Kd.N_lit k40 _ 40 ?hg (N' := 13) ?hd (xs := ([] : List (S40))) (inner := []) (ok := (fun k_ => ((P0_ k_ ∨ P1_1_ k_) ∨ w.heap.size ≤ k_) ∧ k_ ≠ gb260)) (okp := (fun k_ => ((P0_ k_ ∨ P1_1_ k_) ∨ w.heap.size ≤ k_) ∧ k_ ≠ gb260)) ?hr ?hp (fun _ hk => hk) ((show ∀ k_, w6.heap.size ≤ k_ → (fun k_ => ((P0_ k_ ∨ P1_1_ k_) ∨ w.heap.size ≤ k_) ∧ k_ ≠ gb260) k_ from fun k_ hk => ⟨(.inr (Nat.le_trans (below_size (pb HB)) hk)), Kd.freshB (g := gb260) (o := .cells #[.int .i64 a1_0, .slice A1_1 l1_1.length c1_1] 40 (0, 0)) (pk BK260) k_ hk⟩) _ (Nat.le_refl _)) (Below.refl _ _) (Nat.le_refl _) (by simp) ?_; (case hd => rfl); (case hg => rfl); (case hr => first | (go_simp; done) | (go_simp; rfl)); (case hp => exact (Reps.none _ _)); intro v263 w7 ho8 hb hg_ hnew_; clear hg_ hnew_; (first | rw [← Ny262.out] at ho8 | (simp only [Int.reduceToNat] at ho8; rw [← Ny262.out] at ho8)); have n0_ := am (Kd.V_elder' (pv HO0) (by first | exact Kd.N_base ho8 | exact Kd.S_base ho8 | exact Kd.R_base ho8) hb); have n1_ := am (Kd.V_elder' (pv HO1_1) (by first | exact Kd.N_base ho8 | exact Kd.S_base ho8 | exact Kd.R_base ho8) hb); have n2_ := am (Kd.N_lower ho8 (below_size (pb HB))); have n3_ := bb BK260 hb; have n4_ := am (below_step (pb HB) hb); clear HO0 HO1_1 BK260 HB; have HO0 := n0_; have HO1_1 := n1_; have HO264 := n2_; have BK260 := n3_; have HB := n4_; clear n0_ n1_ n2_ n3_ n4_ hb ho8))
 go_loopg [6, 16] k (fun kq v6 v16 w' => ∃ (x6_1 : List (S40)) (x16_1 : Int), v16 = .int .i64 x16_1 ∧ Aside0 (downpourref04_with.l0 kq l0 t261 x6_1 l0 (l0.length : Int) x16_1 a1_0 l1_1 = some r) ∧ Aside0 (kq ≤ k) ∧ Aside0 (Kd.V k40 40 w' w.heap.size (fun k_ => ((P0_ k_ ∨ P1_1_ k_) ∨ w.heap.size ≤ k_) ∧ some k_ ≠ (v6 : Value).ownBlock ∧ k_ ≠ gb260) (.slice A0 l0.length c0) l0) ∧ Aside0 (Kd.N k40 40 w' w.heap.size (fun k_ => ((P0_ k_ ∨ P1_1_ k_) ∨ w.heap.size ≤ k_) ∧ k_ ≠ gb260) v6 x6_1) ∧ Aside0 (Kd.V k40 40 w' w.heap.size (fun k_ => ((P0_ k_ ∨ P1_1_ k_) ∨ w.heap.size ≤ k_) ∧ some k_ ≠ (v6 : Value).ownBlock ∧ k_ ≠ gb260) (.slice A0 l0.length c0) l0) ∧ Aside0 (Kd.V (Kd.int .u64) 48 w' w.heap.size (fun k_ => ((P0_ k_ ∨ P1_1_ k_) ∨ w.heap.size ≤ k_) ∧ some k_ ≠ (v6 : Value).ownBlock ∧ k_ ≠ gb260) (.slice A1_1 l1_1.length c1_1) l1_1) ∧ Aside0 (w'.heap[gb260]? = some (.cells #[.int .i64 a1_0, (.slice A1_1 l1_1.length c1_1)] 40 (0, 0))) ∧ Aside0 (Below w.heap.size w w'))
 case atStart => exact ⟨(y262), (0), (by first | rfl | (simp; done) | (simp [*]; done)), H', ⟨Nat.le_refl _⟩, ⟨by (with_reducible repeat (first | apply Kd.V_alloc | apply Kd.V_drewN | apply Kd.V_drew)); exact Kd.V_mono HO0.out (fun _ hk => ⟨hk.1.1, ⟨hk.2, hk.1.2⟩⟩)⟩, ⟨by (with_reducible repeat (first | apply Kd.N_alloc | apply Kd.N_drewN | apply Kd.N_drew)); exact HO264.out⟩, ⟨by (with_reducible repeat (first | apply Kd.V_alloc | apply Kd.V_drewN | apply Kd.V_drew)); exact Kd.V_mono HO0.out (fun _ hk => ⟨hk.1.1, ⟨hk.2, hk.1.2⟩⟩)⟩, ⟨by (with_reducible repeat (first | apply Kd.V_alloc | apply Kd.V_drewN | apply Kd.V_drew)); exact Kd.V_mono HO1_1.out (fun _ hk => ⟨hk.1.1, ⟨hk.2, hk.1.2⟩⟩)⟩, ⟨by (with_reducible repeat (first | refine blk_drewN ?_ _ | refine blk_drew ?_ | refine blk_alloc ?_ _)); exact BK260.out⟩, ⟨pb HB⟩⟩
 case round =>
  clear H'
  try clear c1
  try clear p2
  try clear c3
  try clear hcz5_0
  try clear hcz5_1
  try clear hfz5_0
  try clear hfz5_1
  obtain ⟨x6_1, x16_1, rfl, HA, HK1, HO_0, HO_6, HO_14, HO_261001, BK260, HB⟩ := hrel
  cases gk with
  | zero => exact absurd HA.out (by simp [downpourref04_with.l0])
  | succ k1 =>
   have H := HA.out
   clear HA
   simp only [downpourref04_with.l0] at H
   by_cases c9 : x16_1 < (l0.length : Int)
   ·
    rw [if_pos c9] at H
    have c9b0 : decide (x16_1 < (l0.length : Int)) = true := decide_eq_true c9
    clear c9
    by_cases c10 : 0 ≤ x16_1
    ·
     rw [if_pos c10] at H
     have c10b0 : decide (0 ≤ x16_1) = true := decide_eq_true c10
     clear c10
     by_cases c11 : x16_1 < (l0.length : Int)
     ·
      rw [if_pos c11] at H
      have c11b0 : decide (x16_1 < (l0.length : Int)) = true := decide_eq_true c11
      clear c11
      replace H := Option.bind_eq_some_iff.mp H
      obtain ⟨t267, A120, H⟩ := H
      replace H : (if t267 < t261 then ((downpourref01_Bit.f ((rd_T40 l0 x16_1).f0) ((rd_T40 l0 x16_1).f1) t261).bind fun t268 => (if t268 = 1 then ((downpourref01_Xor.f k1 ((rd_T40 l0 x16_1).f0) ((rd_T40 l0 x16_1).f1) a1_0 l1_1).bind fun bt269 => (if x6_1.length < 4398046511104 then (downpourref04_with.l0 k1 l0 t261 (x6_1 ++ [(⟨bt269.1, bt269.2⟩ : S40)]) l0 (l0.length : Int) (wrap64 (x16_1 + 1)) a1_0 l1_1) else (none))) else (if x6_1.length < 4398046511104 then (downpourref04_with.l0 k1 l0 t261 (x6_1 ++ [(⟨(rd_T40 l0 x16_1).f0, (rd_T40 l0 x16_1).f1⟩ : S40)]) l0 (l0.length : Int) (wrap64 (x16_1 + 1)) a1_0 l1_1) else (none)))) else (downpourref04_with.l0 k1 l0 t261 x6_1 l0 (l0.length : Int) (wrap64 (x16_1 + 1)) a1_0 l1_1)) = some r := H
      have A12 := Aside0.mk A120
      clear A120
      by_cases c13 : t267 < t261
      ·
       rw [if_pos c13] at H
       have c13b0 : decide (t267 < t261) = true := decide_eq_true c13
       clear c13
       replace H := Option.bind_eq_some_iff.mp H
       obtain ⟨t268, A140, H⟩ := H
       replace H : (if t268 = 1 then ((downpourref01_Xor.f k1 ((rd_T40 l0 x16_1).f0) ((rd_T40 l0 x16_1).f1) a1_0 l1_1).bind fun bt269 => (if x6_1.length < 4398046511104 then (downpourref04_with.l0 k1 l0 t261 (x6_1 ++ [(⟨bt269.1, bt269.2⟩ : S40)]) l0 (l0.length : Int) (wrap64 (x16_1 + 1)) a1_0 l1_1) else (none))) else (if x6_1.length < 4398046511104 then (downpourref04_with.l0 k1 l0 t261 (x6_1 ++ [(⟨(rd_T40 l0 x16_1).f0, (rd_T40 l0 x16_1).f1⟩ : S40)]) l0 (l0.length : Int) (wrap64 (x16_1 + 1)) a1_0 l1_1) else (none))) = some r := H
       have A14 := Aside0.mk A140
       clear A140
       by_cases c15 : t268 = 1
       ·
        rw [if_pos c15] at H
        have c15b0 : (t268 == 1) = true := beq_iff_eq.mpr c15
        have c15b1 : (t268 != 1) = false := bne_eq_false_iff_eq.mpr c15
        clear c15
        replace H := Option.bind_eq_some_iff.mp H
        obtain ⟨⟨t269, t270⟩, A160, H⟩ := H
        replace H : (if x6_1.length < 4398046511104 then (downpourref04_with.l0 k1 l0 t261 (x6_1 ++ [(⟨t269, t270⟩ : S40)]) l0 (l0.length : Int) (wrap64 (x16_1 + 1)) a1_0 l1_1) else (none)) = some r := H
        have A16 := Aside0.mk A160
        clear A160
        by_cases c17 : x6_1.length < 4398046511104
        ·
         rw [if_pos c17] at H
         have LMc17 := Aside0.mk c17
         clear c17
         obtain ⟨y273, hy273⟩ : ∃ y_ : List (S40), y_ = (x6_1 ++ [(⟨t269, t270⟩ : S40)]) := ⟨_, rfl⟩
         replace H : (downpourref04_with.l0 k1 l0 t261 y273 l0 (l0.length : Int) (wrap64 (x16_1 + 1)) a1_0 l1_1) = some r := by first | (rw [hy273]; with_reducible exact H) | (have H2_ := (Option.bind_some _ _).symm.trans H; rw [hy273]; with_reducible exact H2_) | (have H2_ := (Option.bind_some _ _).symm.trans H; with_reducible exact H2_) | with_reducible exact H | (rw [hy273]; exact H) | exact H
         have Ny273 := Aside0.mk hy273
         clear hy273
         have H' := Aside0.mk H
         clear H
         have p265 : 0 ≤ (x16_1 : Int) := of_decide_eq_true (by first | (with_reducible assumption) | assumption)
         have q265 : x16_1 < (l0.length : Int) := of_decide_eq_true (by first | (with_reducible assumption) | assumption)
         obtain ⟨ad265, A265_1, c265_1, e265, hx265_0, hx265_1, hl265_1, hi265_1⟩ := at_T40 (Kd.V_reads' HO_14.out).2.2 x16_1 p265 q265
         cases e265
         obtain ⟨ce265, hce265, hMe265, hcc265⟩ := Kd.V_get HO_14.out z40 x16_1 p265 (by first | exact q265 | exact of_decide_eq_true (by first | (with_reducible assumption) | assumption) | (have e_ := (Kd.V_reads' HO_14.out).1; omega))
         obtain ⟨ua265_1, uc265_1, rfl, ul265_1, ge265_1⟩ := k40_openF hMe265
         have hv265_1 := hcc265 1 _ rfl
         rw [add_field _ _ 1 (by omega)] at hv265_1
         replace hv265_1 := Option.some.inj (hv265_1.symm.trans hx265_1)
         injection hv265_1 with hva_ hvn_ hvc_
         rw [hva_] at ge265_1
         rw [hvc_] at ul265_1
         have HL265_1 := am (show Kd.V (Kd.int .u64) 48 _ w.heap.size _ _ ((rd_T40 l0 x16_1).f1) from Kd.V_mk ul265_1 ge265_1)
         clear hva_ hvn_ hvc_ ge265_1 ul265_1
         clear hcc265 hce265
         have HR265_1 := Aside0.mk hi265_1
         have HC265_1 := Aside0.mk hl265_1
         clear hi265_1 hl265_1
         replace p265 := eq_true p265
         replace q265 := eq_true q265
         go_wp2_with (first | ((with_reducible refine gate_dst (N := 8) rfl ?_); refine box_event ?hg (N := 8) ?hd (cs := #[.int .i64 0, .slice none 0 0]) (t := 40) ?hr ?_; (case hd => rfl); (case hg => rfl); (case hr => first | (go_simp; done) | (go_simp; rfl)); intro gb266 hg w18 hbox hb; have n0_ := am (Kd.V_below (Kd.V_elderB (pv HO_0) gb266 (Nat.le_of_eq hg.symm)) hb); have n1_ := am (Kd.N_below (Kd.N_elderB (pn HO_6) gb266 (Nat.le_of_eq hg.symm)) hb); have n2_ := am (Kd.V_below (Kd.V_elderB (pv HO_14) gb266 (Nat.le_of_eq hg.symm)) hb); have n3_ := am (Kd.V_below (Kd.V_elderB (pv HO_261001) gb266 (Nat.le_of_eq hg.symm)) hb); have n4_ := am (Kd.V_below (Kd.V_elderB (pv HL265_1) gb266 (Nat.le_of_eq hg.symm)) hb); have n5_ := bb BK260 hb; have n6_ := am (Kd.C_below (by repeat (first | (with_reducible exact HR265_1.out) | (with_reducible refine Kd.C_alloc ?_ _) | (with_reducible refine Kd.C_drewN ?_ _) | (with_reducible refine Kd.C_drew ?_) | exact HR265_1.out)) hb); have n7_ := am (below_step (pb HB) hb); have n8_ := am (hbox); have n9_ := am ((by rw [hg]; exact (below_size (pb HB)) : w.heap.size ≤ gb266)); have n10_ := am ((by rw [hg]; exact (below_size (pb HB)) : w.heap.size ≤ gb266)); have n11_ := am ((by rw [hg]; exact Nat.ne_of_lt (bl BK260) : gb260 ≠ gb266)); have n12_ := am ((by rw [hg]; exact Nat.ne_of_gt (bl BK260) : gb266 ≠ gb260)); clear HO_0 HO_6 HO_14 HO_261001 HL265_1 BK260 HR265_1 HB; have HO_0 := n0_; have HO_6 := n1_; have HO_14 := n2_; have HO_261001 := n3_; have HL265_1 := n4_; have BK260 := n5_; have HR265_1 := n6_; have HB := n7_; have BK266 := n8_; have GW266 := n9_; have GE266 := n10_; have NB260_266 := n11_; have NB266_260 := n12_; clear n0_ n1_ n2_ n3_ n4_ n5_ n6_ n7_ n8_ n9_ n10_ n11_ n12_ hb hbox hg; have hnb19 := NB266_260.out; have hnc19 := NB260_266.out; have hcz20_0 : w18.cell? ⟨gb266, 0, none⟩ = some (.int .i64 0) := (blk_cell BK266.out 0).trans rfl; have hcz20_1 : w18.cell? ⟨gb266, 1, none⟩ = some (.slice none 0 0) := (blk_cell BK266.out 1).trans rfl; have hfz20_0 := blk_frozen BK266.out 0; have hfz20_1 := blk_frozen BK266.out 1) | ((with_reducible refine gate_callee (f := 31) rfl ?_); refine goesL_ (some 21) rfl rfl Try.func31 (by kernel_rfl) rfl #[.agg #[.int .i64 ((rd_T40 l0 x16_1).f0), .slice A265_1 ((rd_T40 l0 x16_1).f1).length c265_1]] rfl (by (try simp only [List.map_toArray, List.map_cons, List.map_nil]); first | done | rfl | (simp only [List.length_drop, List.length_take]; rfl)) ?_; (with_reducible refine (downpourref04_First.calls k1 ((rd_T40 l0 x16_1).f0) _ _ ((rd_T40 l0 x16_1).f1) t267 _ ?side1 ?side2 A12.out).mono ?_); (case side1 => repeat (first | exact ((Kd.V_reads' (by (with_reducible repeat (first | apply Kd.V_alloc | apply Kd.V_drewN | apply Kd.V_drew)); exact (Kd.V_mono (Kd.V_far (p := ⟨gb266, 1, none⟩) (Kd.V_far (p := ⟨gb266, 0, none⟩) (Kd.V_mono HL265_1.out (fun k_ hk => (⟨hk, hk.2⟩ : _ ∧ k_ ≠ gb266))) (fun _ hk => hk.2) (.int .i64 ((rd_T40 l0 x16_1).f0))) (fun _ hk => hk.2) (.slice A265_1 ((rd_T40 l0 x16_1).f1).length c265_1)) (fun _ h_ => h_.1)))).2.2) | (with_reducible refine Kd.C_alloc ?_ _) | (with_reducible refine Kd.C_drewN ?_ _) | (with_reducible refine Kd.C_drew ?_))); (case side2 => exact HC265_1.out); rintro e w21 ⟨rfl, hb⟩; refine ⟨_, rfl, ?_⟩; have n0_ := am (Kd.V_below (by (with_reducible repeat (first | apply Kd.V_alloc | apply Kd.V_drewN | apply Kd.V_drew)); exact (Kd.V_mono (Kd.V_far (p := ⟨gb266, 1, none⟩) (Kd.V_far (p := ⟨gb266, 0, none⟩) (Kd.V_mono HO_0.out (fun k_ hk => (⟨hk, hk.2⟩ : _ ∧ k_ ≠ gb266))) (fun _ hk => hk.2) (.int .i64 ((rd_T40 l0 x16_1).f0))) (fun _ hk => hk.2) (.slice A265_1 ((rd_T40 l0 x16_1).f1).length c265_1)) (fun _ h_ => h_.1))) hb); have n1_ := am (Kd.N_below (by (with_reducible repeat (first | apply Kd.N_alloc | apply Kd.N_drewN | apply Kd.N_drew)); exact (Kd.N_mono (Kd.N_far (p := ⟨gb266, 1, none⟩) (Kd.N_far (p := ⟨gb266, 0, none⟩) (Kd.N_mono HO_6.out (fun k_ hk => (⟨hk, hk.2⟩ : _ ∧ k_ ≠ gb266))) (fun _ hk => hk.2) (.int .i64 ((rd_T40 l0 x16_1).f0))) (fun _ hk => hk.2) (.slice A265_1 ((rd_T40 l0 x16_1).f1).length c265_1)) (fun _ h_ => h_.1))) hb); have n2_ := am (Kd.V_below (by (with_reducible repeat (first | apply Kd.V_alloc | apply Kd.V_drewN | apply Kd.V_drew)); exact (Kd.V_mono (Kd.V_far (p := ⟨gb266, 1, none⟩) (Kd.V_far (p := ⟨gb266, 0, none⟩) (Kd.V_mono HO_14.out (fun k_ hk => (⟨hk, hk.2⟩ : _ ∧ k_ ≠ gb266))) (fun _ hk => hk.2) (.int .i64 ((rd_T40 l0 x16_1).f0))) (fun _ hk => hk.2) (.slice A265_1 ((rd_T40 l0 x16_1).f1).length c265_1)) (fun _ h_ => h_.1))) hb); have n3_ := am (Kd.V_below (by (with_reducible repeat (first | apply Kd.V_alloc | apply Kd.V_drewN | apply Kd.V_drew)); exact (Kd.V_mono (Kd.V_far (p := ⟨gb266, 1, none⟩) (Kd.V_far (p := ⟨gb266, 0, none⟩) (Kd.V_mono HO_261001.out (fun k_ hk => (⟨hk, hk.2⟩ : _ ∧ k_ ≠ gb266))) (fun _ hk => hk.2) (.int .i64 ((rd_T40 l0 x16_1).f0))) (fun _ hk => hk.2) (.slice A265_1 ((rd_T40 l0 x16_1).f1).length c265_1)) (fun _ h_ => h_.1))) hb); have n4_ := am (Kd.V_below (by (with_reducible repeat (first | apply Kd.V_alloc | apply Kd.V_drewN | apply Kd.V_drew)); exact (Kd.V_mono (Kd.V_far (p := ⟨gb266, 1, none⟩) (Kd.V_far (p := ⟨gb266, 0, none⟩) (Kd.V_mono HL265_1.out (fun k_ hk => (⟨hk, hk.2⟩ : _ ∧ k_ ≠ gb266))) (fun _ hk => hk.2) (.int .i64 ((rd_T40 l0 x16_1).f0))) (fun _ hk => hk.2) (.slice A265_1 ((rd_T40 l0 x16_1).f1).length c265_1)) (fun _ h_ => h_.1))) hb); have n5_ := am (blk_below (g := gb260) (o := .cells #[.int .i64 a1_0, .slice A1_1 l1_1.length c1_1] 40 (0, 0)) (by (with_reducible repeat (first | refine blk_drewN ?_ _ | refine blk_drew ?_ | refine blk_alloc ?_ _)); refine blk_far ?_ NB260_266.out _; (with_reducible repeat (first | refine blk_drewN ?_ _ | refine blk_drew ?_ | refine blk_alloc ?_ _)); refine blk_far ?_ NB260_266.out _; (with_reducible repeat (first | refine blk_drewN ?_ _ | refine blk_drew ?_ | refine blk_alloc ?_ _)); exact BK260.out) hb); have n6_ := am (Kd.C_below ((Kd.V_reads' (by (with_reducible repeat (first | apply Kd.V_alloc | apply Kd.V_drewN | apply Kd.V_drew)); exact (Kd.V_mono (Kd.V_far (p := ⟨gb266, 1, none⟩) (Kd.V_far (p := ⟨gb266, 0, none⟩) (Kd.V_mono HL265_1.out (fun k_ hk => (⟨hk, hk.2⟩ : _ ∧ k_ ≠ gb266))) (fun _ hk => hk.2) (.int .i64 ((rd_T40 l0 x16_1).f0))) (fun _ hk => hk.2) (.slice A265_1 ((rd_T40 l0 x16_1).f1).length c265_1)) (fun _ h_ => h_.1)))).2.2) hb); have n7_ := am (blk_below (g := gb266) (o := .cells #[.int .i64 ((rd_T40 l0 x16_1).f0), .slice A265_1 ((rd_T40 l0 x16_1).f1).length c265_1] 40 (0, 0)) (by (with_reducible repeat (first | refine blk_drewN ?_ _ | refine blk_drew ?_ | refine blk_alloc ?_ _)); refine blk_put (cs := #[.int .i64 ((rd_T40 l0 x16_1).f0), .slice none 0 0]) ?_ 1 _ rfl; (with_reducible repeat (first | refine blk_drewN ?_ _ | refine blk_drew ?_ | refine blk_alloc ?_ _)); refine blk_put (cs := #[.int .i64 0, .slice none 0 0]) ?_ 0 _ rfl; (with_reducible repeat (first | refine blk_drewN ?_ _ | refine blk_drew ?_ | refine blk_alloc ?_ _)); exact BK266.out) hb); have n8_ := am (below_step (pb HB) hb); clear HO_0 HO_6 HO_14 HO_261001 HL265_1 BK260 HR265_1 BK266 HB; have HO_0 := n0_; have HO_6 := n1_; have HO_14 := n2_; have HO_261001 := n3_; have HL265_1 := n4_; have BK260 := n5_; have HR265_1 := n6_; have BK266 := n7_; have HB := n8_; clear n0_ n1_ n2_ n3_ n4_ n5_ n6_ n7_ n8_; (try clear hb); (try clear hb2); (try clear hk); (try clear hi); have hcz22_0 : w21.cell? ⟨gb266, 0, none⟩ = some (.int .i64 ((rd_T40 l0 x16_1).f0)) := (blk_cell BK266.out 0).trans rfl; have hcz22_1 : w21.cell? ⟨gb266, 1, none⟩ = some (.slice A265_1 ((rd_T40 l0 x16_1).f1).length c265_1) := (blk_cell BK266.out 1).trans rfl; have hfz22_0 := blk_frozen BK266.out 0; have hfz22_1 := blk_frozen BK266.out 1) | ((with_reducible refine gate_callee (f := 39) rfl ?_); refine goesL_ (some 26) rfl rfl Try.func39 (by kernel_rfl) rfl #[.agg #[.int .i64 ((rd_T40 l0 x16_1).f0), .slice A265_1 ((rd_T40 l0 x16_1).f1).length c265_1], .int .i64 t261] rfl (by (try simp only [List.map_toArray, List.map_cons, List.map_nil]); first | done | rfl | (simp only [List.length_drop, List.length_take]; rfl)) ?_; (with_reducible refine (downpourref01_Bit.calls ((rd_T40 l0 x16_1).f0) _ _ ((rd_T40 l0 x16_1).f1) t261 t268 _ ?side1 ?side2 A14.out).mono ?_); (case side1 => repeat (first | exact (by repeat (first | (with_reducible exact HR265_1.out) | (with_reducible refine Kd.C_alloc ?_ _) | (with_reducible refine Kd.C_drewN ?_ _) | (with_reducible refine Kd.C_drew ?_) | exact HR265_1.out)) | (with_reducible refine Kd.C_alloc ?_ _) | (with_reducible refine Kd.C_drewN ?_ _) | (with_reducible refine Kd.C_drew ?_))); (case side2 => exact HC265_1.out); rintro e w23 ⟨rfl, hb⟩; refine ⟨_, rfl, ?_⟩; have n0_ := am (Kd.V_below (pv HO_0) hb); have n1_ := am (Kd.N_below (pn HO_6) hb); have n2_ := am (Kd.V_below (pv HO_14) hb); have n3_ := am (Kd.V_below (pv HO_261001) hb); have n4_ := am (Kd.V_below (pv HL265_1) hb); have n5_ := bb BK260 hb; have n6_ := am (Kd.C_below (by repeat (first | (with_reducible exact HR265_1.out) | (with_reducible refine Kd.C_alloc ?_ _) | (with_reducible refine Kd.C_drewN ?_ _) | (with_reducible refine Kd.C_drew ?_) | exact HR265_1.out)) hb); have n7_ := bb BK266 hb; have n8_ := am (below_step (pb HB) hb); clear HO_0 HO_6 HO_14 HO_261001 HL265_1 BK260 HR265_1 BK266 HB; have HO_0 := n0_; have HO_6 := n1_; have HO_14 := n2_; have HO_261001 := n3_; have HL265_1 := n4_; have BK260 := n5_; have HR265_1 := n6_; have BK266 := n7_; have HB := n8_; clear n0_ n1_ n2_ n3_ n4_ n5_ n6_ n7_ n8_; (try clear hb); (try clear hb2); (try clear hk); (try clear hi); have hcz24_0 : w23.cell? ⟨gb266, 0, none⟩ = some (.int .i64 ((rd_T40 l0 x16_1).f0)) := (blk_cell BK266.out 0).trans rfl; have hcz24_1 : w23.cell? ⟨gb266, 1, none⟩ = some (.slice A265_1 ((rd_T40 l0 x16_1).f1).length c265_1) := (blk_cell BK266.out 1).trans rfl; have hfz24_0 := blk_frozen BK266.out 0; have hfz24_1 := blk_frozen BK266.out 1; have hcz25_0 : w23.cell? ⟨gb260, 0, none⟩ = some (.int .i64 a1_0) := (blk_cell BK260.out 0).trans rfl; have hcz25_1 : w23.cell? ⟨gb260, 1, none⟩ = some (.slice A1_1 l1_1.length c1_1) := (blk_cell BK260.out 1).trans rfl; have hfz25_0 := blk_frozen BK260.out 0; have hfz25_1 := blk_frozen BK260.out 1) | ((with_reducible refine gate_callee (f := 50) rfl ?_); refine goesL_ (some 30) rfl rfl Try.func50 (by kernel_rfl) rfl #[.agg #[.int .i64 ((rd_T40 l0 x16_1).f0), .slice A265_1 ((rd_T40 l0 x16_1).f1).length c265_1], .agg #[.int .i64 a1_0, .slice A1_1 l1_1.length c1_1]] rfl (by (try simp only [List.map_toArray, List.map_cons, List.map_nil]); first | done | rfl | (simp only [List.length_drop, List.length_take]; rfl)) ?_; (with_reducible refine (downpourref01_Xor.calls k1 ((rd_T40 l0 x16_1).f0) _ _ ((rd_T40 l0 x16_1).f1) a1_0 _ _ l1_1 t269 t270 _ ?side1 ?side2 ?side3 ?side4 A16.out).mono ?_); (case side1 => repeat (first | exact (by repeat (first | (with_reducible exact HR265_1.out) | (with_reducible refine Kd.C_alloc ?_ _) | (with_reducible refine Kd.C_drewN ?_ _) | (with_reducible refine Kd.C_drew ?_) | exact HR265_1.out)) | (with_reducible refine Kd.C_alloc ?_ _) | (with_reducible refine Kd.C_drewN ?_ _) | (with_reducible refine Kd.C_drew ?_))); (case side2 => exact HC265_1.out); (case side3 => repeat (first | exact (Kd.V_reads' HO_261001.out).2.2 | (with_reducible refine Kd.C_alloc ?_ _) | (with_reducible refine Kd.C_drewN ?_ _) | (with_reducible refine Kd.C_drew ?_))); (case side4 => exact (Kd.V_reads' HO_261001.out).2.1); rintro e w26 ⟨v271, rfl, ho0, hb⟩; refine ⟨_, rfl, ?_⟩; have n0_ := am (Kd.V_elder' (pv HO_0) (Kd.R_base ho0) hb); have n1_ := am (Kd.N_elder' (pn HO_6) (Kd.R_base ho0) hb); have n2_ := am (Kd.V_elder' (pv HO_14) (Kd.R_base ho0) hb); have n3_ := am (Kd.V_elder' (pv HO_261001) (Kd.R_base ho0) hb); have n4_ := am (Kd.V_elder' (pv HL265_1) (Kd.R_base ho0) hb); have n5_ := am (Kd.R_lower (Kd.R_newM (M := fun k_ => (w.heap.size ≤ k_)) ho0 (below_size (pb HB)) (fun k_ h_ => h_)) (below_size (pb HB))); have n6_ := bb BK260 hb; have n7_ := am (Kd.C_below (by repeat (first | (with_reducible exact HR265_1.out) | (with_reducible refine Kd.C_alloc ?_ _) | (with_reducible refine Kd.C_drewN ?_ _) | (with_reducible refine Kd.C_drew ?_) | exact HR265_1.out)) hb); have n8_ := bb BK266 hb; have n9_ := am (below_step (pb HB) hb); clear HO_0 HO_6 HO_14 HO_261001 HL265_1 BK260 HR265_1 BK266 HB; have HO_0 := n0_; have HO_6 := n1_; have HO_14 := n2_; have HO_261001 := n3_; have HL265_1 := n4_; have HO272 := n5_; have BK260 := n6_; have HR265_1 := n7_; have BK266 := n8_; have HB := n9_; clear n0_ n1_ n2_ n3_ n4_ n5_ n6_ n7_ n8_ n9_; (try clear hb); (try clear hb2); (try clear hk); (try clear hi); (try clear ho0); have hcz27_0 : w26.cell? ⟨gb266, 0, none⟩ = some (.int .i64 ((rd_T40 l0 x16_1).f0)) := (blk_cell BK266.out 0).trans rfl; have hcz27_1 : w26.cell? ⟨gb266, 1, none⟩ = some (.slice A265_1 ((rd_T40 l0 x16_1).f1).length c265_1) := (blk_cell BK266.out 1).trans rfl; have hfz27_0 := blk_frozen BK266.out 0; have hfz27_1 := blk_frozen BK266.out 1; obtain ⟨Ao28, co28, eo28⟩ := Kd.R_slice HO272.out; subst eo28) | ((with_reducible refine gate_store (t := 40) (p := 8) rfl ?_); refine store_event (t := 40) (p := 8) (v := ?vo_w29) (w1 := ((w26.setCell ⟨gb266, 0, none⟩ (.int .i64 t269)).setCell ⟨gb266, 1, none⟩ (.slice Ao28 t270.length co28))) ?hg ?ho ?hn ?hr ?_; (case ho => rfl); (case hg => rfl); (case hn => rfl); (case hr => first | (go_simp; done) | (go_simp; rfl)); intro w29 hw; have n0_ : Aside0 (Kd.V k40 40 w29 w.heap.size (fun k_ => ((P0_ k_ ∨ P1_1_ k_) ∨ w.heap.size ≤ k_) ∧ some k_ ≠ (u6 : Value).ownBlock ∧ some k_ ≠ (.slice Ao28 t270.length co28 : Value).ownBlock ∧ k_ ≠ gb260 ∧ k_ ≠ gb266) (.slice (some ad265) l0.length c0) l0) := ⟨(by rw [hw]; exact (by (with_reducible repeat (first | apply Kd.V_alloc | apply Kd.V_drewN | apply Kd.V_drew)); exact Kd.V_mono (Kd.V_far (p := ⟨gb266, 1, none⟩) (Kd.V_far (p := ⟨gb266, 0, none⟩) (Kd.V_mono HO_0.out (fun k_ hk => (⟨hk, hk.1.2⟩ : _ ∧ k_ ≠ gb266))) (fun _ hk => hk.2) (.int .i64 t269)) (fun _ hk => hk.2) (.slice Ao28 t270.length co28)) (fun _ hk => ⟨hk.1.1.1.1, ⟨hk.1.1.1.2.1, ⟨hk.1.2, ⟨hk.1.1.1.2.2, hk.1.1.2⟩⟩⟩⟩)))⟩; have n1_ : Aside0 (Kd.N k40 40 w29 w.heap.size (fun k_ => ((P0_ k_ ∨ P1_1_ k_) ∨ w.heap.size ≤ k_) ∧ some k_ ≠ (.slice Ao28 t270.length co28 : Value).ownBlock ∧ k_ ≠ gb260 ∧ k_ ≠ gb266) u6 x6_1) := ⟨(by rw [hw]; exact (by (with_reducible repeat (first | apply Kd.N_alloc | apply Kd.N_drewN | apply Kd.N_drew)); exact Kd.N_mono (Kd.N_far (p := ⟨gb266, 1, none⟩) (Kd.N_far (p := ⟨gb266, 0, none⟩) (Kd.N_mono HO_6.out (fun k_ hk => (⟨hk, hk.1.2⟩ : _ ∧ k_ ≠ gb266))) (fun _ hk => hk.2) (.int .i64 t269)) (fun _ hk => hk.2) (.slice Ao28 t270.length co28)) (fun _ hk => ⟨hk.1.1.1.1, ⟨hk.1.2, ⟨hk.1.1.1.2, hk.1.1.2⟩⟩⟩)))⟩; have n2_ : Aside0 (Kd.V k40 40 w29 w.heap.size (fun k_ => ((P0_ k_ ∨ P1_1_ k_) ∨ w.heap.size ≤ k_) ∧ some k_ ≠ (u6 : Value).ownBlock ∧ some k_ ≠ (.slice Ao28 t270.length co28 : Value).ownBlock ∧ k_ ≠ gb260 ∧ k_ ≠ gb266) (.slice (some ad265) l0.length c0) l0) := ⟨(by rw [hw]; exact (by (with_reducible repeat (first | apply Kd.V_alloc | apply Kd.V_drewN | apply Kd.V_drew)); exact Kd.V_mono (Kd.V_far (p := ⟨gb266, 1, none⟩) (Kd.V_far (p := ⟨gb266, 0, none⟩) (Kd.V_mono HO_14.out (fun k_ hk => (⟨hk, hk.1.2⟩ : _ ∧ k_ ≠ gb266))) (fun _ hk => hk.2) (.int .i64 t269)) (fun _ hk => hk.2) (.slice Ao28 t270.length co28)) (fun _ hk => ⟨hk.1.1.1.1, ⟨hk.1.1.1.2.1, ⟨hk.1.2, ⟨hk.1.1.1.2.2, hk.1.1.2⟩⟩⟩⟩)))⟩; have n3_ : Aside0 (Kd.V (Kd.int .u64) 48 w29 w.heap.size (fun k_ => ((P0_ k_ ∨ P1_1_ k_) ∨ w.heap.size ≤ k_) ∧ some k_ ≠ (u6 : Value).ownBlock ∧ some k_ ≠ (.slice Ao28 t270.length co28 : Value).ownBlock ∧ k_ ≠ gb260 ∧ k_ ≠ gb266) (.slice A1_1 l1_1.length c1_1) l1_1) := ⟨(by rw [hw]; exact (by (with_reducible repeat (first | apply Kd.V_alloc | apply Kd.V_drewN | apply Kd.V_drew)); exact Kd.V_mono (Kd.V_far (p := ⟨gb266, 1, none⟩) (Kd.V_far (p := ⟨gb266, 0, none⟩) (Kd.V_mono HO_261001.out (fun k_ hk => (⟨hk, hk.1.2⟩ : _ ∧ k_ ≠ gb266))) (fun _ hk => hk.2) (.int .i64 t269)) (fun _ hk => hk.2) (.slice Ao28 t270.length co28)) (fun _ hk => ⟨hk.1.1.1.1, ⟨hk.1.1.1.2.1, ⟨hk.1.2, ⟨hk.1.1.1.2.2, hk.1.1.2⟩⟩⟩⟩)))⟩; have n4_ : Aside0 (Kd.V (Kd.int .u64) 48 w29 w.heap.size (fun k_ => ((P0_ k_ ∨ P1_1_ k_) ∨ w.heap.size ≤ k_) ∧ some k_ ≠ (u6 : Value).ownBlock ∧ some k_ ≠ (.slice Ao28 t270.length co28 : Value).ownBlock ∧ k_ ≠ gb260 ∧ k_ ≠ gb266) (.slice A265_1 ((rd_T40 l0 x16_1).f1).length c265_1) ((rd_T40 l0 x16_1).f1)) := ⟨(by rw [hw]; exact (by (with_reducible repeat (first | apply Kd.V_alloc | apply Kd.V_drewN | apply Kd.V_drew)); exact Kd.V_mono (Kd.V_far (p := ⟨gb266, 1, none⟩) (Kd.V_far (p := ⟨gb266, 0, none⟩) (Kd.V_mono HL265_1.out (fun k_ hk => (⟨hk, hk.1.2⟩ : _ ∧ k_ ≠ gb266))) (fun _ hk => hk.2) (.int .i64 t269)) (fun _ hk => hk.2) (.slice Ao28 t270.length co28)) (fun _ hk => ⟨hk.1.1.1.1, ⟨hk.1.1.1.2.1, ⟨hk.1.2, ⟨hk.1.1.1.2.2, hk.1.1.2⟩⟩⟩⟩)))⟩; have n5_ : Aside0 (Kd.R (Kd.int .u64) 48 w29 w.heap.size (fun k_ => (w.heap.size ≤ k_)) (.slice Ao28 t270.length co28) t270) := ⟨(by rw [hw]; exact (by (with_reducible repeat (first | apply Kd.R_alloc | apply Kd.R_drewN | apply Kd.R_drew)); exact Kd.R_mono (Kd.R_far (p := ⟨gb266, 1, none⟩) (Kd.R_far (p := ⟨gb266, 0, none⟩) (Kd.R_types HO272.out BK266.out (by decide)) (fun _ hk => hk.2) (.int .i64 t269)) (fun _ hk => hk.2) (.slice Ao28 t270.length co28)) (fun _ hk => hk.1.1)))⟩; have n6_ : Aside0 (w29.heap[gb260]? = some (.cells #[.int .i64 a1_0, .slice A1_1 l1_1.length c1_1] 40 (0, 0))) := ⟨(by rw [hw]; exact (by (with_reducible repeat (first | refine blk_drewN ?_ _ | refine blk_drew ?_ | refine blk_alloc ?_ _)); refine blk_far ?_ NB260_266.out _; (with_reducible repeat (first | refine blk_drewN ?_ _ | refine blk_drew ?_ | refine blk_alloc ?_ _)); refine blk_far ?_ NB260_266.out _; (with_reducible repeat (first | refine blk_drewN ?_ _ | refine blk_drew ?_ | refine blk_alloc ?_ _)); exact BK260.out))⟩; have n7_ : Aside0 (w29.heap[gb266]? = some (.cells #[.int .i64 t269, .slice Ao28 t270.length co28] 40 (0, 0))) := ⟨(by rw [hw]; exact (by (with_reducible repeat (first | refine blk_drewN ?_ _ | refine blk_drew ?_ | refine blk_alloc ?_ _)); refine blk_put (cs := #[.int .i64 t269, .slice A265_1 ((rd_T40 l0 x16_1).f1).length c265_1]) ?_ 1 _ rfl; (with_reducible repeat (first | refine blk_drewN ?_ _ | refine blk_drew ?_ | refine blk_alloc ?_ _)); refine blk_put (cs := #[.int .i64 ((rd_T40 l0 x16_1).f0), .slice A265_1 ((rd_T40 l0 x16_1).f1).length c265_1]) ?_ 0 _ rfl; (with_reducible repeat (first | refine blk_drewN ?_ _ | refine blk_drew ?_ | refine blk_alloc ?_ _)); exact BK266.out))⟩; have n8_ : Aside0 (Below w.heap.size w w29) := ⟨(by rw [hw]; exact (pb HB))⟩; clear hw HO_0 HO_6 HO_14 HO_261001 HL265_1 HO272 BK260 BK266 HB; have HO_0 := n0_; have HO_6 := n1_; have HO_14 := n2_; have HO_261001 := n3_; have HL265_1 := n4_; have HO272 := n5_; have BK260 := n6_; have BK266 := n7_; have HB := n8_; clear n0_ n1_ n2_ n3_ n4_ n5_ n6_ n7_ n8_; have hcz30_0 : w29.cell? ⟨gb266, 0, none⟩ = some (.int .i64 t269) := (blk_cell BK266.out 0).trans rfl; have hcz30_1 : w29.cell? ⟨gb266, 1, none⟩ = some (.slice Ao28 t270.length co28) := (blk_cell BK266.out 1).trans rfl; have hfz30_0 := blk_frozen BK266.out 0; have hfz30_1 := blk_frozen BK266.out 1) | ((with_reducible refine gate_builtin (b := .append) (xs := #[.tmp 31, .tmp 33]) rfl ?_); at_builtin; refine Kd.N_append k40 (w0 := w) w.heap.size rfl (.tmp 31) (.tmp 33) 22 40 (.agg #[(.int .i64 0), (.slice none 0 0)]) 32 rfl Try.underlying22 info40 rfl (by decide) (by omega) u6 x6_1 (⟨t269, t270⟩ : S40) [.int .i64 t269, .slice Ao28 t270.length co28] (fun k_ => ((P0_ k_ ∨ P1_1_ k_) ∨ w.heap.size ≤ k_) ∧ k_ ≠ gb260 ∧ k_ ≠ gb266) (fun k_ => ((fun k_ => ((P0_ k_ ∨ P1_1_ k_) ∨ w.heap.size ≤ k_) ∧ k_ ≠ gb260 ∧ k_ ≠ gb266)) k_ ∧ some k_ ≠ (u6 : Value).ownBlock) rfl rfl ?aP (fun _ hk => hk) ?aF ?aO ?aB ?aS ?aL ?_; (case aP => exact (k40_mkF _ _ (⟨t269, t270⟩ : S40) (Kd.R_reads' (Kd.R_mono (ok' := (fun k_ => ((fun k_ => ((P0_ k_ ∨ P1_1_ k_) ∨ w.heap.size ≤ k_) ∧ k_ ≠ gb260 ∧ k_ ≠ gb266)) k_ ∧ some k_ ≠ (u6 : Value).ownBlock)) (Kd.R_types (Kd.R_types (Kd.R_apart' (HO272.out) (Kd.N_typed HO_6.out) (by decide)) BK260.out (by decide)) BK266.out (by decide)) (fun k_ hk => ⟨⟨(.inr (hk.1.1.1)), ⟨hk.1.2, hk.2⟩⟩, hk.1.1.2⟩))).2.1 (Kd.R_F (Kd.R_mono (ok' := (fun k_ => ((fun k_ => ((P0_ k_ ∨ P1_1_ k_) ∨ w.heap.size ≤ k_) ∧ k_ ≠ gb260 ∧ k_ ≠ gb266)) k_ ∧ some k_ ≠ (u6 : Value).ownBlock)) (Kd.R_types (Kd.R_types (Kd.R_apart' (HO272.out) (Kd.N_typed HO_6.out) (by decide)) BK260.out (by decide)) BK266.out (by decide)) (fun k_ hk => ⟨⟨(.inr (hk.1.1.1)), ⟨hk.1.2, hk.2⟩⟩, hk.1.1.2⟩))))); (case aB => exact (pb HB)); (case aF => exact (fun k_ hk => ⟨(.inr (Nat.le_trans (below_size (pb HB)) hk)), Kd.freshB (g := gb260) (o := .cells #[.int .i64 a1_0, .slice A1_1 l1_1.length c1_1] 40 (0, 0)) (pk BK260) k_ hk, Kd.freshB (g := gb266) (o := .cells #[.int .i64 t269, .slice Ao28 t270.length co28] 40 (0, 0)) (pk BK266) k_ hk⟩)); (case aO => exact (by (with_reducible repeat (first | apply Kd.N_alloc | apply Kd.N_drewN | apply Kd.N_drew)); exact Kd.N_mono HO_6.out (fun _ hk => ⟨hk.1, ⟨hk.2.2.1, hk.2.2.2⟩⟩))); (case aS => exact (below_size (pb HB))); (case aL => have := LMc17.out; omega); intro v274 w31 ho hb hg hat; rw [← Ny273.out] at ho; have n0_ := am (Kd.V_afterv (ok := (fun k_ => ((P0_ k_ ∨ P1_1_ k_) ∨ w.heap.size ≤ k_) ∧ some k_ ≠ (.slice Ao28 t270.length co28 : Value).ownBlock ∧ k_ ≠ gb260 ∧ k_ ≠ gb266)) (by (with_reducible repeat (first | apply Kd.V_alloc | apply Kd.V_drewN | apply Kd.V_drew)); exact Kd.V_mono HO_0.out (fun _ hk => ⟨⟨hk.1, ⟨hk.2.2.1, ⟨hk.2.2.2.1, hk.2.2.2.2⟩⟩⟩, hk.2.1⟩)) hg hat); have n1_ := am (Kd.V_afterv (ok := (fun k_ => ((P0_ k_ ∨ P1_1_ k_) ∨ w.heap.size ≤ k_) ∧ some k_ ≠ (.slice Ao28 t270.length co28 : Value).ownBlock ∧ k_ ≠ gb260 ∧ k_ ≠ gb266)) (by (with_reducible repeat (first | apply Kd.V_alloc | apply Kd.V_drewN | apply Kd.V_drew)); exact Kd.V_mono HO_14.out (fun _ hk => ⟨⟨hk.1, ⟨hk.2.2.1, ⟨hk.2.2.2.1, hk.2.2.2.2⟩⟩⟩, hk.2.1⟩)) hg hat); have n2_ := am (Kd.V_afterv (ok := (fun k_ => ((P0_ k_ ∨ P1_1_ k_) ∨ w.heap.size ≤ k_) ∧ some k_ ≠ (.slice Ao28 t270.length co28 : Value).ownBlock ∧ k_ ≠ gb260 ∧ k_ ≠ gb266)) (by (with_reducible repeat (first | apply Kd.V_alloc | apply Kd.V_drewN | apply Kd.V_drew)); exact Kd.V_mono HO_261001.out (fun _ hk => ⟨⟨hk.1, ⟨hk.2.2.1, ⟨hk.2.2.2.1, hk.2.2.2.2⟩⟩⟩, hk.2.1⟩)) hg hat); have n3_ := am (blk_grown (g := gb260) (o := .cells #[.int .i64 a1_0, .slice A1_1 l1_1.length c1_1] 40 (0, 0)) (pk BK260) hg (Kd.N_away HO_6.out (fun _ hk => hk.2.2.1))); have n4_ := am (Kd.V_afterv (ok := (fun k_ => ((P0_ k_ ∨ P1_1_ k_) ∨ w.heap.size ≤ k_) ∧ some k_ ≠ (.slice Ao28 t270.length co28 : Value).ownBlock ∧ k_ ≠ gb260 ∧ k_ ≠ gb266)) (by (with_reducible repeat (first | apply Kd.V_alloc | apply Kd.V_drewN | apply Kd.V_drew)); exact Kd.V_mono HL265_1.out (fun _ hk => ⟨⟨hk.1, ⟨hk.2.2.1, ⟨hk.2.2.2.1, hk.2.2.2.2⟩⟩⟩, hk.2.1⟩)) hg hat); have n5_ := am (blk_grown (g := gb266) (o := .cells #[.int .i64 t269, .slice Ao28 t270.length co28] 40 (0, 0)) (pk BK266) hg (Kd.N_away HO_6.out (fun _ hk => hk.2.2.2))); have n6_ := am (hb); have n7_ := am (ho); clear HO_0 HO_14 HO_261001 BK260 HL265_1 BK266 HB HO_6 HO272; have HO_0 := n0_; have HO_14 := n1_; have HO_261001 := n2_; have BK260 := n3_; have HL265_1 := n4_; have BK266 := n5_; have HB := n6_; have HO275 := n7_; clear n0_ n1_ n2_ n3_ n4_ n5_ n6_ n7_ ho hb hg hat))
         go_roundg k1
         case measure => have := HK1.out; omega
         case rel => exact ⟨(y273), (wrap64 (x16_1 + 1)), (by first | rfl | (simp; done) | (simp [*]; done)), H', ⟨by have := HK1.out; omega⟩, ⟨by (with_reducible repeat (first | apply Kd.V_alloc | apply Kd.V_drewN | apply Kd.V_drew)); exact Kd.V_mono HO_0.out (fun _ hk => ⟨hk.1.1, ⟨hk.2, hk.1.2.2.1⟩⟩)⟩, ⟨by (with_reducible repeat (first | apply Kd.N_alloc | apply Kd.N_drewN | apply Kd.N_drew)); exact Kd.N_mono HO275.out (fun _ hk => ⟨hk.1, hk.2.1⟩)⟩, ⟨by (with_reducible repeat (first | apply Kd.V_alloc | apply Kd.V_drewN | apply Kd.V_drew)); exact Kd.V_mono HO_14.out (fun _ hk => ⟨hk.1.1, ⟨hk.2, hk.1.2.2.1⟩⟩)⟩, ⟨by (with_reducible repeat (first | apply Kd.V_alloc | apply Kd.V_drewN | apply Kd.V_drew)); exact Kd.V_mono HO_261001.out (fun _ hk => ⟨hk.1.1, ⟨hk.2, hk.1.2.2.1⟩⟩)⟩, ⟨by (with_reducible repeat (first | refine blk_drewN ?_ _ | refine blk_drew ?_ | refine blk_alloc ?_ _)); exact BK260.out⟩, ⟨pb HB⟩⟩
        ·
         rw [if_neg c17] at H
         exact absurd H (by simp)
       ·
        rw [if_neg c15] at H
        have c15b0 : (t268 == 1) = false := beq_eq_false_iff_ne.mpr c15
        have c15b1 : (t268 != 1) = true := bne_iff_ne.mpr c15
        by_cases c32 : x6_1.length < 4398046511104
        ·
         rw [if_pos c32] at H
         have LMc32 := Aside0.mk c32
         clear c32
         obtain ⟨y276, hy276⟩ : ∃ y_ : List (S40), y_ = (x6_1 ++ [(⟨(rd_T40 l0 x16_1).f0, (rd_T40 l0 x16_1).f1⟩ : S40)]) := ⟨_, rfl⟩
         replace H : (downpourref04_with.l0 k1 l0 t261 y276 l0 (l0.length : Int) (wrap64 (x16_1 + 1)) a1_0 l1_1) = some r := by first | (rw [hy276]; with_reducible exact H) | (have H2_ := (Option.bind_some _ _).symm.trans H; rw [hy276]; with_reducible exact H2_) | (have H2_ := (Option.bind_some _ _).symm.trans H; with_reducible exact H2_) | with_reducible exact H | (rw [hy276]; exact H) | exact H
         have Ny276 := Aside0.mk hy276
         clear hy276
         have H' := Aside0.mk H
         clear H
         have p265 : 0 ≤ (x16_1 : Int) := of_decide_eq_true (by first | (with_reducible assumption) | assumption)
         have q265 : x16_1 < (l0.length : Int) := of_decide_eq_true (by first | (with_reducible assumption) | assumption)
         obtain ⟨ad265, A265_1, c265_1, e265, hx265_0, hx265_1, hl265_1, hi265_1⟩ := at_T40 (Kd.V_reads' HO_14.out).2.2 x16_1 p265 q265
         cases e265
         obtain ⟨ce265, hce265, hMe265, hcc265⟩ := Kd.V_get HO_14.out z40 x16_1 p265 (by first | exact q265 | exact of_decide_eq_true (by first | (with_reducible assumption) | assumption) | (have e_ := (Kd.V_reads' HO_14.out).1; omega))
         obtain ⟨ua265_1, uc265_1, rfl, ul265_1, ge265_1⟩ := k40_openF hMe265
         have hv265_1 := hcc265 1 _ rfl
         rw [add_field _ _ 1 (by omega)] at hv265_1
         replace hv265_1 := Option.some.inj (hv265_1.symm.trans hx265_1)
         injection hv265_1 with hva_ hvn_ hvc_
         rw [hva_] at ge265_1
         rw [hvc_] at ul265_1
         have HL265_1 := am (show Kd.V (Kd.int .u64) 48 _ w.heap.size _ _ ((rd_T40 l0 x16_1).f1) from Kd.V_mk ul265_1 ge265_1)
         clear hva_ hvn_ hvc_ ge265_1 ul265_1
         clear hcc265 hce265
         have HR265_1 := Aside0.mk hi265_1
         have HC265_1 := Aside0.mk hl265_1
         clear hi265_1 hl265_1
         replace p265 := eq_true p265
         replace q265 := eq_true q265
         go_wp2_with (first | ((with_reducible refine gate_dst (N := 8) rfl ?_); refine box_event ?hg (N := 8) ?hd (cs := #[.int .i64 0, .slice none 0 0]) (t := 40) ?hr ?_; (case hd => rfl); (case hg => rfl); (case hr => first | (go_simp; done) | (go_simp; rfl)); intro gb266 hg w33 hbox hb; have n0_ := am (Kd.V_below (Kd.V_elderB (pv HO_0) gb266 (Nat.le_of_eq hg.symm)) hb); have n1_ := am (Kd.N_below (Kd.N_elderB (pn HO_6) gb266 (Nat.le_of_eq hg.symm)) hb); have n2_ := am (Kd.V_below (Kd.V_elderB (pv HO_14) gb266 (Nat.le_of_eq hg.symm)) hb); have n3_ := am (Kd.V_below (Kd.V_elderB (pv HO_261001) gb266 (Nat.le_of_eq hg.symm)) hb); have n4_ := am (Kd.V_below (Kd.V_elderB (pv HL265_1) gb266 (Nat.le_of_eq hg.symm)) hb); have n5_ := bb BK260 hb; have n6_ := am (Kd.C_below (by repeat (first | (with_reducible exact HR265_1.out) | (with_reducible refine Kd.C_alloc ?_ _) | (with_reducible refine Kd.C_drewN ?_ _) | (with_reducible refine Kd.C_drew ?_) | exact HR265_1.out)) hb); have n7_ := am (below_step (pb HB) hb); have n8_ := am (hbox); have n9_ := am ((by rw [hg]; exact (below_size (pb HB)) : w.heap.size ≤ gb266)); have n10_ := am ((by rw [hg]; exact (below_size (pb HB)) : w.heap.size ≤ gb266)); have n11_ := am ((by rw [hg]; exact Nat.ne_of_lt (bl BK260) : gb260 ≠ gb266)); have n12_ := am ((by rw [hg]; exact Nat.ne_of_gt (bl BK260) : gb266 ≠ gb260)); clear HO_0 HO_6 HO_14 HO_261001 HL265_1 BK260 HR265_1 HB; have HO_0 := n0_; have HO_6 := n1_; have HO_14 := n2_; have HO_261001 := n3_; have HL265_1 := n4_; have BK260 := n5_; have HR265_1 := n6_; have HB := n7_; have BK266 := n8_; have GW266 := n9_; have GE266 := n10_; have NB260_266 := n11_; have NB266_260 := n12_; clear n0_ n1_ n2_ n3_ n4_ n5_ n6_ n7_ n8_ n9_ n10_ n11_ n12_ hb hbox hg; have hnb34 := NB266_260.out; have hnc34 := NB260_266.out; have hcz35_0 : w33.cell? ⟨gb266, 0, none⟩ = some (.int .i64 0) := (blk_cell BK266.out 0).trans rfl; have hcz35_1 : w33.cell? ⟨gb266, 1, none⟩ = some (.slice none 0 0) := (blk_cell BK266.out 1).trans rfl; have hfz35_0 := blk_frozen BK266.out 0; have hfz35_1 := blk_frozen BK266.out 1) | ((with_reducible refine gate_callee (f := 31) rfl ?_); refine goesL_ (some 21) rfl rfl Try.func31 (by kernel_rfl) rfl #[.agg #[.int .i64 ((rd_T40 l0 x16_1).f0), .slice A265_1 ((rd_T40 l0 x16_1).f1).length c265_1]] rfl (by (try simp only [List.map_toArray, List.map_cons, List.map_nil]); first | done | rfl | (simp only [List.length_drop, List.length_take]; rfl)) ?_; (with_reducible refine (downpourref04_First.calls k1 ((rd_T40 l0 x16_1).f0) _ _ ((rd_T40 l0 x16_1).f1) t267 _ ?side1 ?side2 A12.out).mono ?_); (case side1 => repeat (first | exact ((Kd.V_reads' (by (with_reducible repeat (first | apply Kd.V_alloc | apply Kd.V_drewN | apply Kd.V_drew)); exact (Kd.V_mono (Kd.V_far (p := ⟨gb266, 1, none⟩) (Kd.V_far (p := ⟨gb266, 0, none⟩) (Kd.V_mono HL265_1.out (fun k_ hk => (⟨hk, hk.2⟩ : _ ∧ k_ ≠ gb266))) (fun _ hk => hk.2) (.int .i64 ((rd_T40 l0 x16_1).f0))) (fun _ hk => hk.2) (.slice A265_1 ((rd_T40 l0 x16_1).f1).length c265_1)) (fun _ h_ => h_.1)))).2.2) | (with_reducible refine Kd.C_alloc ?_ _) | (with_reducible refine Kd.C_drewN ?_ _) | (with_reducible refine Kd.C_drew ?_))); (case side2 => exact HC265_1.out); rintro e w36 ⟨rfl, hb⟩; refine ⟨_, rfl, ?_⟩; have n0_ := am (Kd.V_below (by (with_reducible repeat (first | apply Kd.V_alloc | apply Kd.V_drewN | apply Kd.V_drew)); exact (Kd.V_mono (Kd.V_far (p := ⟨gb266, 1, none⟩) (Kd.V_far (p := ⟨gb266, 0, none⟩) (Kd.V_mono HO_0.out (fun k_ hk => (⟨hk, hk.2⟩ : _ ∧ k_ ≠ gb266))) (fun _ hk => hk.2) (.int .i64 ((rd_T40 l0 x16_1).f0))) (fun _ hk => hk.2) (.slice A265_1 ((rd_T40 l0 x16_1).f1).length c265_1)) (fun _ h_ => h_.1))) hb); have n1_ := am (Kd.N_below (by (with_reducible repeat (first | apply Kd.N_alloc | apply Kd.N_drewN | apply Kd.N_drew)); exact (Kd.N_mono (Kd.N_far (p := ⟨gb266, 1, none⟩) (Kd.N_far (p := ⟨gb266, 0, none⟩) (Kd.N_mono HO_6.out (fun k_ hk => (⟨hk, hk.2⟩ : _ ∧ k_ ≠ gb266))) (fun _ hk => hk.2) (.int .i64 ((rd_T40 l0 x16_1).f0))) (fun _ hk => hk.2) (.slice A265_1 ((rd_T40 l0 x16_1).f1).length c265_1)) (fun _ h_ => h_.1))) hb); have n2_ := am (Kd.V_below (by (with_reducible repeat (first | apply Kd.V_alloc | apply Kd.V_drewN | apply Kd.V_drew)); exact (Kd.V_mono (Kd.V_far (p := ⟨gb266, 1, none⟩) (Kd.V_far (p := ⟨gb266, 0, none⟩) (Kd.V_mono HO_14.out (fun k_ hk => (⟨hk, hk.2⟩ : _ ∧ k_ ≠ gb266))) (fun _ hk => hk.2) (.int .i64 ((rd_T40 l0 x16_1).f0))) (fun _ hk => hk.2) (.slice A265_1 ((rd_T40 l0 x16_1).f1).length c265_1)) (fun _ h_ => h_.1))) hb); have n3_ := am (Kd.V_below (by (with_reducible repeat (first | apply Kd.V_alloc | apply Kd.V_drewN | apply Kd.V_drew)); exact (Kd.V_mono (Kd.V_far (p := ⟨gb266, 1, none⟩) (Kd.V_far (p := ⟨gb266, 0, none⟩) (Kd.V_mono HO_261001.out (fun k_ hk => (⟨hk, hk.2⟩ : _ ∧ k_ ≠ gb266))) (fun _ hk => hk.2) (.int .i64 ((rd_T40 l0 x16_1).f0))) (fun _ hk => hk.2) (.slice A265_1 ((rd_T40 l0 x16_1).f1).length c265_1)) (fun _ h_ => h_.1))) hb); have n4_ := am (Kd.V_below (by (with_reducible repeat (first | apply Kd.V_alloc | apply Kd.V_drewN | apply Kd.V_drew)); exact (Kd.V_mono (Kd.V_far (p := ⟨gb266, 1, none⟩) (Kd.V_far (p := ⟨gb266, 0, none⟩) (Kd.V_mono HL265_1.out (fun k_ hk => (⟨hk, hk.2⟩ : _ ∧ k_ ≠ gb266))) (fun _ hk => hk.2) (.int .i64 ((rd_T40 l0 x16_1).f0))) (fun _ hk => hk.2) (.slice A265_1 ((rd_T40 l0 x16_1).f1).length c265_1)) (fun _ h_ => h_.1))) hb); have n5_ := am (blk_below (g := gb260) (o := .cells #[.int .i64 a1_0, .slice A1_1 l1_1.length c1_1] 40 (0, 0)) (by (with_reducible repeat (first | refine blk_drewN ?_ _ | refine blk_drew ?_ | refine blk_alloc ?_ _)); refine blk_far ?_ NB260_266.out _; (with_reducible repeat (first | refine blk_drewN ?_ _ | refine blk_drew ?_ | refine blk_alloc ?_ _)); refine blk_far ?_ NB260_266.out _; (with_reducible repeat (first | refine blk_drewN ?_ _ | refine blk_drew ?_ | refine blk_alloc ?_ _)); exact BK260.out) hb); have n6_ := am (Kd.C_below ((Kd.V_reads' (by (with_reducible repeat (first | apply Kd.V_alloc | apply Kd.V_drewN | apply Kd.V_drew)); exact (Kd.V_mono (Kd.V_far (p := ⟨gb266, 1, none⟩) (Kd.V_far (p := ⟨gb266, 0, none⟩) (Kd.V_mono HL265_1.out (fun k_ hk => (⟨hk, hk.2⟩ : _ ∧ k_ ≠ gb266))) (fun _ hk => hk.2) (.int .i64 ((rd_T40 l0 x16_1).f0))) (fun _ hk => hk.2) (.slice A265_1 ((rd_T40 l0 x16_1).f1).length c265_1)) (fun _ h_ => h_.1)))).2.2) hb); have n7_ := am (blk_below (g := gb266) (o := .cells #[.int .i64 ((rd_T40 l0 x16_1).f0), .slice A265_1 ((rd_T40 l0 x16_1).f1).length c265_1] 40 (0, 0)) (by (with_reducible repeat (first | refine blk_drewN ?_ _ | refine blk_drew ?_ | refine blk_alloc ?_ _)); refine blk_put (cs := #[.int .i64 ((rd_T40 l0 x16_1).f0), .slice none 0 0]) ?_ 1 _ rfl; (with_reducible repeat (first | refine blk_drewN ?_ _ | refine blk_drew ?_ | refine blk_alloc ?_ _)); refine blk_put (cs := #[.int .i64 0, .slice none 0 0]) ?_ 0 _ rfl; (with_reducible repeat (first | refine blk_drewN ?_ _ | refine blk_drew ?_ | refine blk_alloc ?_ _)); exact BK266.out) hb); have n8_ := am (below_step (pb HB) hb); clear HO_0 HO_6 HO_14 HO_261001 HL265_1 BK260 HR265_1 BK266 HB; have HO_0 := n0_; have HO_6 := n1_; have HO_14 := n2_; have HO_261001 := n3_; have HL265_1 := n4_; have BK260 := n5_; have HR265_1 := n6_; have BK266 := n7_; have HB := n8_; clear n0_ n1_ n2_ n3_ n4_ n5_ n6_ n7_ n8_; (try clear hb); (try clear hb2); (try clear hk); (try clear hi); have hcz37_0 : w36.cell? ⟨gb266, 0, none⟩ = some (.int .i64 ((rd_T40 l0 x16_1).f0)) := (blk_cell BK266.out 0).trans rfl; have hcz37_1 : w36.cell? ⟨gb266, 1, none⟩ = some (.slice A265_1 ((rd_T40 l0 x16_1).f1).length c265_1) := (blk_cell BK266.out 1).trans rfl; have hfz37_0 := blk_frozen BK266.out 0; have hfz37_1 := blk_frozen BK266.out 1) | ((with_reducible refine gate_callee (f := 39) rfl ?_); refine goesL_ (some 26) rfl rfl Try.func39 (by kernel_rfl) rfl #[.agg #[.int .i64 ((rd_T40 l0 x16_1).f0), .slice A265_1 ((rd_T40 l0 x16_1).f1).length c265_1], .int .i64 t261] rfl (by (try simp only [List.map_toArray, List.map_cons, List.map_nil]); first | done | rfl | (simp only [List.length_drop, List.length_take]; rfl)) ?_; (with_reducible refine (downpourref01_Bit.calls ((rd_T40 l0 x16_1).f0) _ _ ((rd_T40 l0 x16_1).f1) t261 t268 _ ?side1 ?side2 A14.out).mono ?_); (case side1 => repeat (first | exact (by repeat (first | (with_reducible exact HR265_1.out) | (with_reducible refine Kd.C_alloc ?_ _) | (with_reducible refine Kd.C_drewN ?_ _) | (with_reducible refine Kd.C_drew ?_) | exact HR265_1.out)) | (with_reducible refine Kd.C_alloc ?_ _) | (with_reducible refine Kd.C_drewN ?_ _) | (with_reducible refine Kd.C_drew ?_))); (case side2 => exact HC265_1.out); rintro e w38 ⟨rfl, hb⟩; refine ⟨_, rfl, ?_⟩; have n0_ := am (Kd.V_below (pv HO_0) hb); have n1_ := am (Kd.N_below (pn HO_6) hb); have n2_ := am (Kd.V_below (pv HO_14) hb); have n3_ := am (Kd.V_below (pv HO_261001) hb); have n4_ := am (Kd.V_below (pv HL265_1) hb); have n5_ := bb BK260 hb; have n6_ := am (Kd.C_below (by repeat (first | (with_reducible exact HR265_1.out) | (with_reducible refine Kd.C_alloc ?_ _) | (with_reducible refine Kd.C_drewN ?_ _) | (with_reducible refine Kd.C_drew ?_) | exact HR265_1.out)) hb); have n7_ := bb BK266 hb; have n8_ := am (below_step (pb HB) hb); clear HO_0 HO_6 HO_14 HO_261001 HL265_1 BK260 HR265_1 BK266 HB; have HO_0 := n0_; have HO_6 := n1_; have HO_14 := n2_; have HO_261001 := n3_; have HL265_1 := n4_; have BK260 := n5_; have HR265_1 := n6_; have BK266 := n7_; have HB := n8_; clear n0_ n1_ n2_ n3_ n4_ n5_ n6_ n7_ n8_; (try clear hb); (try clear hb2); (try clear hk); (try clear hi); have hcz39_0 : w38.cell? ⟨gb266, 0, none⟩ = some (.int .i64 ((rd_T40 l0 x16_1).f0)) := (blk_cell BK266.out 0).trans rfl; have hcz39_1 : w38.cell? ⟨gb266, 1, none⟩ = some (.slice A265_1 ((rd_T40 l0 x16_1).f1).length c265_1) := (blk_cell BK266.out 1).trans rfl; have hfz39_0 := blk_frozen BK266.out 0; have hfz39_1 := blk_frozen BK266.out 1) | ((with_reducible refine gate_builtin (b := .append) (xs := #[.tmp 31, .tmp 33]) rfl ?_); at_builtin; refine Kd.N_append k40 (w0 := w) w.heap.size rfl (.tmp 31) (.tmp 33) 22 40 (.agg #[(.int .i64 0), (.slice none 0 0)]) 32 rfl Try.underlying22 info40 rfl (by decide) (by omega) u6 x6_1 (⟨(rd_T40 l0 x16_1).f0, (rd_T40 l0 x16_1).f1⟩ : S40) [.int .i64 ((rd_T40 l0 x16_1).f0), .slice A265_1 ((rd_T40 l0 x16_1).f1).length c265_1] (fun k_ => ((P0_ k_ ∨ P1_1_ k_) ∨ w.heap.size ≤ k_) ∧ k_ ≠ gb260 ∧ k_ ≠ gb266) (fun k_ => ((fun k_ => ((P0_ k_ ∨ P1_1_ k_) ∨ w.heap.size ≤ k_) ∧ k_ ≠ gb260 ∧ k_ ≠ gb266)) k_ ∧ some k_ ≠ (u6 : Value).ownBlock) rfl rfl ?aP (fun _ hk => hk) ?aF ?aO ?aB ?aS ?aL ?_; (case aP => exact (k40_mkF _ _ (⟨(rd_T40 l0 x16_1).f0, (rd_T40 l0 x16_1).f1⟩ : S40) (Kd.V_reads' (Kd.V_mono (ok' := (fun k_ => ((fun k_ => ((P0_ k_ ∨ P1_1_ k_) ∨ w.heap.size ≤ k_) ∧ k_ ≠ gb260 ∧ k_ ≠ gb266)) k_ ∧ some k_ ≠ (u6 : Value).ownBlock)) (HL265_1.out) (fun k_ hk => ⟨⟨hk.1.1, ⟨hk.1.2.2, hk.2⟩⟩, hk.1.2.1⟩))).2.1 (Kd.V_F (Kd.V_mono (ok' := (fun k_ => ((fun k_ => ((P0_ k_ ∨ P1_1_ k_) ∨ w.heap.size ≤ k_) ∧ k_ ≠ gb260 ∧ k_ ≠ gb266)) k_ ∧ some k_ ≠ (u6 : Value).ownBlock)) (HL265_1.out) (fun k_ hk => ⟨⟨hk.1.1, ⟨hk.1.2.2, hk.2⟩⟩, hk.1.2.1⟩))))); (case aB => exact (pb HB)); (case aF => exact (fun k_ hk => ⟨(.inr (Nat.le_trans (below_size (pb HB)) hk)), Kd.freshB (g := gb260) (o := .cells #[.int .i64 a1_0, .slice A1_1 l1_1.length c1_1] 40 (0, 0)) (pk BK260) k_ hk, Kd.freshB (g := gb266) (o := .cells #[.int .i64 ((rd_T40 l0 x16_1).f0), .slice A265_1 ((rd_T40 l0 x16_1).f1).length c265_1] 40 (0, 0)) (pk BK266) k_ hk⟩)); (case aO => exact (by (with_reducible repeat (first | apply Kd.N_alloc | apply Kd.N_drewN | apply Kd.N_drew)); exact Kd.N_mono HO_6.out (fun _ hk => ⟨hk.1.1, ⟨hk.1.2, hk.2⟩⟩))); (case aS => exact (below_size (pb HB))); (case aL => have := LMc32.out; omega); intro v277 w40 ho hb hg hat; rw [← Ny276.out] at ho; have n0_ := am (Kd.V_afterv (ok := (fun k_ => ((P0_ k_ ∨ P1_1_ k_) ∨ w.heap.size ≤ k_) ∧ k_ ≠ gb260 ∧ k_ ≠ gb266)) (by (with_reducible repeat (first | apply Kd.V_alloc | apply Kd.V_drewN | apply Kd.V_drew)); exact Kd.V_mono HO_0.out (fun _ hk => ⟨⟨hk.1.1, ⟨hk.1.2.2, hk.2⟩⟩, hk.1.2.1⟩)) hg hat); have n1_ := am (Kd.V_afterv (ok := (fun k_ => ((P0_ k_ ∨ P1_1_ k_) ∨ w.heap.size ≤ k_) ∧ k_ ≠ gb260 ∧ k_ ≠ gb266)) (by (with_reducible repeat (first | apply Kd.V_alloc | apply Kd.V_drewN | apply Kd.V_drew)); exact Kd.V_mono HO_14.out (fun _ hk => ⟨⟨hk.1.1, ⟨hk.1.2.2, hk.2⟩⟩, hk.1.2.1⟩)) hg hat); have n2_ := am (Kd.V_afterv (ok := (fun k_ => ((P0_ k_ ∨ P1_1_ k_) ∨ w.heap.size ≤ k_) ∧ k_ ≠ gb260 ∧ k_ ≠ gb266)) (by (with_reducible repeat (first | apply Kd.V_alloc | apply Kd.V_drewN | apply Kd.V_drew)); exact Kd.V_mono HO_261001.out (fun _ hk => ⟨⟨hk.1.1, ⟨hk.1.2.2, hk.2⟩⟩, hk.1.2.1⟩)) hg hat); have n3_ := am (blk_grown (g := gb260) (o := .cells #[.int .i64 a1_0, .slice A1_1 l1_1.length c1_1] 40 (0, 0)) (pk BK260) hg (Kd.N_away HO_6.out (fun _ hk => hk.1.2))); have n4_ := am (Kd.V_afterv (ok := (fun k_ => ((P0_ k_ ∨ P1_1_ k_) ∨ w.heap.size ≤ k_) ∧ k_ ≠ gb260 ∧ k_ ≠ gb266)) (by (with_reducible repeat (first | apply Kd.V_alloc | apply Kd.V_drewN | apply Kd.V_drew)); exact Kd.V_mono HL265_1.out (fun _ hk => ⟨⟨hk.1.1, ⟨hk.1.2.2, hk.2⟩⟩, hk.1.2.1⟩)) hg hat); have n5_ := am (blk_grown (g := gb266) (o := .cells #[.int .i64 ((rd_T40 l0 x16_1).f0), .slice A265_1 ((rd_T40 l0 x16_1).f1).length c265_1] 40 (0, 0)) (pk BK266) hg (Kd.N_away HO_6.out (fun _ hk => hk.2))); have n6_ := am (hb); have n7_ := am (ho); clear HO_0 HO_14 HO_261001 BK260 HL265_1 BK266 HB HO_6; have HO_0 := n0_; have HO_14 := n1_; have HO_261001 := n2_; have BK260 := n3_; have HL265_1 := n4_; have BK266 := n5_; have HB := n6_; have HO278 := n7_; clear n0_ n1_ n2_ n3_ n4_ n5_ n6_ n7_ ho hb hg hat))
         go_roundg k1
         case measure => have := HK1.out; omega
         case rel => exact ⟨(y276), (wrap64 (x16_1 + 1)), (by first | rfl | (simp; done) | (simp [*]; done)), H', ⟨by have := HK1.out; omega⟩, ⟨by (with_reducible repeat (first | apply Kd.V_alloc | apply Kd.V_drewN | apply Kd.V_drew)); exact Kd.V_mono HO_0.out (fun _ hk => ⟨hk.1.1, ⟨hk.2, hk.1.2.1⟩⟩)⟩, ⟨by (with_reducible repeat (first | apply Kd.N_alloc | apply Kd.N_drewN | apply Kd.N_drew)); exact Kd.N_mono HO278.out (fun _ hk => ⟨hk.1, hk.2.1⟩)⟩, ⟨by (with_reducible repeat (first | apply Kd.V_alloc | apply Kd.V_drewN | apply Kd.V_drew)); exact Kd.V_mono HO_14.out (fun _ hk => ⟨hk.1.1, ⟨hk.2, hk.1.2.1⟩⟩)⟩, ⟨by (with_reducible repeat (first | apply Kd.V_alloc | apply Kd.V_drewN | apply Kd.V_drew)); exact Kd.V_mono HO_261001.out (fun _ hk => ⟨hk.1.1, ⟨hk.2, hk.1.2.1⟩⟩)⟩, ⟨by (with_reducible repeat (first | refine blk_drewN ?_ _ | refine blk_drew ?_ | refine blk_alloc ?_ _)); exact BK260.out⟩, ⟨pb HB⟩⟩
        ·
         rw [if_neg c32] at H
         exact absurd H (by simp)
      ·
       rw [if_neg c13] at H
       have c13b0 : decide (t267 < t261) = false := decide_eq_false c13
       clear c13
       have H' := Aside0.mk H
       clear H
       have p265 : 0 ≤ (x16_1 : Int) := of_decide_eq_true (by first | (with_reducible assumption) | assumption)
       have q265 : x16_1 < (l0.length : Int) := of_decide_eq_true (by first | (with_reducible assumption) | assumption)
       obtain ⟨ad265, A265_1, c265_1, e265, hx265_0, hx265_1, hl265_1, hi265_1⟩ := at_T40 (Kd.V_reads' HO_14.out).2.2 x16_1 p265 q265
       cases e265
       obtain ⟨ce265, hce265, hMe265, hcc265⟩ := Kd.V_get HO_14.out z40 x16_1 p265 (by first | exact q265 | exact of_decide_eq_true (by first | (with_reducible assumption) | assumption) | (have e_ := (Kd.V_reads' HO_14.out).1; omega))
       obtain ⟨ua265_1, uc265_1, rfl, ul265_1, ge265_1⟩ := k40_openF hMe265
       have hv265_1 := hcc265 1 _ rfl
       rw [add_field _ _ 1 (by omega)] at hv265_1
       replace hv265_1 := Option.some.inj (hv265_1.symm.trans hx265_1)
       injection hv265_1 with hva_ hvn_ hvc_
       rw [hva_] at ge265_1
       rw [hvc_] at ul265_1
       have HL265_1 := am (show Kd.V (Kd.int .u64) 48 _ w.heap.size _ _ ((rd_T40 l0 x16_1).f1) from Kd.V_mk ul265_1 ge265_1)
       clear hva_ hvn_ hvc_ ge265_1 ul265_1
       clear hcc265 hce265
       have HR265_1 := Aside0.mk hi265_1
       have HC265_1 := Aside0.mk hl265_1
       clear hi265_1 hl265_1
       replace p265 := eq_true p265
       replace q265 := eq_true q265
       go_wp2_with (first | ((with_reducible refine gate_dst (N := 8) rfl ?_); refine box_event ?hg (N := 8) ?hd (cs := #[.int .i64 0, .slice none 0 0]) (t := 40) ?hr ?_; (case hd => rfl); (case hg => rfl); (case hr => first | (go_simp; done) | (go_simp; rfl)); intro gb266 hg w41 hbox hb; have n0_ := am (Kd.V_below (Kd.V_elderB (pv HO_0) gb266 (Nat.le_of_eq hg.symm)) hb); have n1_ := am (Kd.N_below (Kd.N_elderB (pn HO_6) gb266 (Nat.le_of_eq hg.symm)) hb); have n2_ := am (Kd.V_below (Kd.V_elderB (pv HO_14) gb266 (Nat.le_of_eq hg.symm)) hb); have n3_ := am (Kd.V_below (Kd.V_elderB (pv HO_261001) gb266 (Nat.le_of_eq hg.symm)) hb); have n4_ := am (Kd.V_below (Kd.V_elderB (pv HL265_1) gb266 (Nat.le_of_eq hg.symm)) hb); have n5_ := bb BK260 hb; have n6_ := am (Kd.C_below (by repeat (first | (with_reducible exact HR265_1.out) | (with_reducible refine Kd.C_alloc ?_ _) | (with_reducible refine Kd.C_drewN ?_ _) | (with_reducible refine Kd.C_drew ?_) | exact HR265_1.out)) hb); have n7_ := am (below_step (pb HB) hb); have n8_ := am (hbox); have n9_ := am ((by rw [hg]; exact (below_size (pb HB)) : w.heap.size ≤ gb266)); have n10_ := am ((by rw [hg]; exact (below_size (pb HB)) : w.heap.size ≤ gb266)); have n11_ := am ((by rw [hg]; exact Nat.ne_of_lt (bl BK260) : gb260 ≠ gb266)); have n12_ := am ((by rw [hg]; exact Nat.ne_of_gt (bl BK260) : gb266 ≠ gb260)); clear HO_0 HO_6 HO_14 HO_261001 HL265_1 BK260 HR265_1 HB; have HO_0 := n0_; have HO_6 := n1_; have HO_14 := n2_; have HO_261001 := n3_; have HL265_1 := n4_; have BK260 := n5_; have HR265_1 := n6_; have HB := n7_; have BK266 := n8_; have GW266 := n9_; have GE266 := n10_; have NB260_266 := n11_; have NB266_260 := n12_; clear n0_ n1_ n2_ n3_ n4_ n5_ n6_ n7_ n8_ n9_ n10_ n11_ n12_ hb hbox hg; have hnb42 := NB266_260.out; have hnc42 := NB260_266.out; have hcz43_0 : w41.cell? ⟨gb266, 0, none⟩ = some (.int .i64 0) := (blk_cell BK266.out 0).trans rfl; have hcz43_1 : w41.cell? ⟨gb266, 1, none⟩ = some (.slice none 0 0) := (blk_cell BK266.out 1).trans rfl; have hfz43_0 := blk_frozen BK266.out 0; have hfz43_1 := blk_frozen BK266.out 1) | ((with_reducible refine gate_callee (f := 31) rfl ?_); refine goesL_ (some 21) rfl rfl Try.func31 (by kernel_rfl) rfl #[.agg #[.int .i64 ((rd_T40 l0 x16_1).f0), .slice A265_1 ((rd_T40 l0 x16_1).f1).length c265_1]] rfl (by (try simp only [List.map_toArray, List.map_cons, List.map_nil]); first | done | rfl | (simp only [List.length_drop, List.length_take]; rfl)) ?_; (with_reducible refine (downpourref04_First.calls k1 ((rd_T40 l0 x16_1).f0) _ _ ((rd_T40 l0 x16_1).f1) t267 _ ?side1 ?side2 A12.out).mono ?_); (case side1 => repeat (first | exact ((Kd.V_reads' (by (with_reducible repeat (first | apply Kd.V_alloc | apply Kd.V_drewN | apply Kd.V_drew)); exact (Kd.V_mono (Kd.V_far (p := ⟨gb266, 1, none⟩) (Kd.V_far (p := ⟨gb266, 0, none⟩) (Kd.V_mono HL265_1.out (fun k_ hk => (⟨hk, hk.2⟩ : _ ∧ k_ ≠ gb266))) (fun _ hk => hk.2) (.int .i64 ((rd_T40 l0 x16_1).f0))) (fun _ hk => hk.2) (.slice A265_1 ((rd_T40 l0 x16_1).f1).length c265_1)) (fun _ h_ => h_.1)))).2.2) | (with_reducible refine Kd.C_alloc ?_ _) | (with_reducible refine Kd.C_drewN ?_ _) | (with_reducible refine Kd.C_drew ?_))); (case side2 => exact HC265_1.out); rintro e w44 ⟨rfl, hb⟩; refine ⟨_, rfl, ?_⟩; have n0_ := am (Kd.V_below (by (with_reducible repeat (first | apply Kd.V_alloc | apply Kd.V_drewN | apply Kd.V_drew)); exact (Kd.V_mono (Kd.V_far (p := ⟨gb266, 1, none⟩) (Kd.V_far (p := ⟨gb266, 0, none⟩) (Kd.V_mono HO_0.out (fun k_ hk => (⟨hk, hk.2⟩ : _ ∧ k_ ≠ gb266))) (fun _ hk => hk.2) (.int .i64 ((rd_T40 l0 x16_1).f0))) (fun _ hk => hk.2) (.slice A265_1 ((rd_T40 l0 x16_1).f1).length c265_1)) (fun _ h_ => h_.1))) hb); have n1_ := am (Kd.N_below (by (with_reducible repeat (first | apply Kd.N_alloc | apply Kd.N_drewN | apply Kd.N_drew)); exact (Kd.N_mono (Kd.N_far (p := ⟨gb266, 1, none⟩) (Kd.N_far (p := ⟨gb266, 0, none⟩) (Kd.N_mono HO_6.out (fun k_ hk => (⟨hk, hk.2⟩ : _ ∧ k_ ≠ gb266))) (fun _ hk => hk.2) (.int .i64 ((rd_T40 l0 x16_1).f0))) (fun _ hk => hk.2) (.slice A265_1 ((rd_T40 l0 x16_1).f1).length c265_1)) (fun _ h_ => h_.1))) hb); have n2_ := am (Kd.V_below (by (with_reducible repeat (first | apply Kd.V_alloc | apply Kd.V_drewN | apply Kd.V_drew)); exact (Kd.V_mono (Kd.V_far (p := ⟨gb266, 1, none⟩) (Kd.V_far (p := ⟨gb266, 0, none⟩) (Kd.V_mono HO_14.out (fun k_ hk => (⟨hk, hk.2⟩ : _ ∧ k_ ≠ gb266))) (fun _ hk => hk.2) (.int .i64 ((rd_T40 l0 x16_1).f0))) (fun _ hk => hk.2) (.slice A265_1 ((rd_T40 l0 x16_1).f1).length c265_1)) (fun _ h_ => h_.1))) hb); have n3_ := am (Kd.V_below (by (with_reducible repeat (first | apply Kd.V_alloc | apply Kd.V_drewN | apply Kd.V_drew)); exact (Kd.V_mono (Kd.V_far (p := ⟨gb266, 1, none⟩) (Kd.V_far (p := ⟨gb266, 0, none⟩) (Kd.V_mono HO_261001.out (fun k_ hk => (⟨hk, hk.2⟩ : _ ∧ k_ ≠ gb266))) (fun _ hk => hk.2) (.int .i64 ((rd_T40 l0 x16_1).f0))) (fun _ hk => hk.2) (.slice A265_1 ((rd_T40 l0 x16_1).f1).length c265_1)) (fun _ h_ => h_.1))) hb); have n4_ := am (Kd.V_below (by (with_reducible repeat (first | apply Kd.V_alloc | apply Kd.V_drewN | apply Kd.V_drew)); exact (Kd.V_mono (Kd.V_far (p := ⟨gb266, 1, none⟩) (Kd.V_far (p := ⟨gb266, 0, none⟩) (Kd.V_mono HL265_1.out (fun k_ hk => (⟨hk, hk.2⟩ : _ ∧ k_ ≠ gb266))) (fun _ hk => hk.2) (.int .i64 ((rd_T40 l0 x16_1).f0))) (fun _ hk => hk.2) (.slice A265_1 ((rd_T40 l0 x16_1).f1).length c265_1)) (fun _ h_ => h_.1))) hb); have n5_ := am (blk_below (g := gb260) (o := .cells #[.int .i64 a1_0, .slice A1_1 l1_1.length c1_1] 40 (0, 0)) (by (with_reducible repeat (first | refine blk_drewN ?_ _ | refine blk_drew ?_ | refine blk_alloc ?_ _)); refine blk_far ?_ NB260_266.out _; (with_reducible repeat (first | refine blk_drewN ?_ _ | refine blk_drew ?_ | refine blk_alloc ?_ _)); refine blk_far ?_ NB260_266.out _; (with_reducible repeat (first | refine blk_drewN ?_ _ | refine blk_drew ?_ | refine blk_alloc ?_ _)); exact BK260.out) hb); have n6_ := am (Kd.C_below ((Kd.V_reads' (by (with_reducible repeat (first | apply Kd.V_alloc | apply Kd.V_drewN | apply Kd.V_drew)); exact (Kd.V_mono (Kd.V_far (p := ⟨gb266, 1, none⟩) (Kd.V_far (p := ⟨gb266, 0, none⟩) (Kd.V_mono HL265_1.out (fun k_ hk => (⟨hk, hk.2⟩ : _ ∧ k_ ≠ gb266))) (fun _ hk => hk.2) (.int .i64 ((rd_T40 l0 x16_1).f0))) (fun _ hk => hk.2) (.slice A265_1 ((rd_T40 l0 x16_1).f1).length c265_1)) (fun _ h_ => h_.1)))).2.2) hb); have n7_ := am (blk_below (g := gb266) (o := .cells #[.int .i64 ((rd_T40 l0 x16_1).f0), .slice A265_1 ((rd_T40 l0 x16_1).f1).length c265_1] 40 (0, 0)) (by (with_reducible repeat (first | refine blk_drewN ?_ _ | refine blk_drew ?_ | refine blk_alloc ?_ _)); refine blk_put (cs := #[.int .i64 ((rd_T40 l0 x16_1).f0), .slice none 0 0]) ?_ 1 _ rfl; (with_reducible repeat (first | refine blk_drewN ?_ _ | refine blk_drew ?_ | refine blk_alloc ?_ _)); refine blk_put (cs := #[.int .i64 0, .slice none 0 0]) ?_ 0 _ rfl; (with_reducible repeat (first | refine blk_drewN ?_ _ | refine blk_drew ?_ | refine blk_alloc ?_ _)); exact BK266.out) hb); have n8_ := am (below_step (pb HB) hb); clear HO_0 HO_6 HO_14 HO_261001 HL265_1 BK260 HR265_1 BK266 HB; have HO_0 := n0_; have HO_6 := n1_; have HO_14 := n2_; have HO_261001 := n3_; have HL265_1 := n4_; have BK260 := n5_; have HR265_1 := n6_; have BK266 := n7_; have HB := n8_; clear n0_ n1_ n2_ n3_ n4_ n5_ n6_ n7_ n8_; (try clear hb); (try clear hb2); (try clear hk); (try clear hi)))
       go_roundg k1
       case measure => have := HK1.out; omega
       case rel => exact ⟨(x6_1), (wrap64 (x16_1 + 1)), (by first | rfl | (simp; done) | (simp [*]; done)), H', ⟨by have := HK1.out; omega⟩, ⟨by (with_reducible repeat (first | apply Kd.V_alloc | apply Kd.V_drewN | apply Kd.V_drew)); exact Kd.V_mono HO_0.out (fun _ hk => ⟨hk.1.1, ⟨hk.1.2.1, hk.1.2.2⟩⟩)⟩, ⟨by (with_reducible repeat (first | apply Kd.N_alloc | apply Kd.N_drewN | apply Kd.N_drew)); exact Kd.N_mono HO_6.out (fun _ hk => ⟨hk.1.1, hk.1.2⟩)⟩, ⟨by (with_reducible repeat (first | apply Kd.V_alloc | apply Kd.V_drewN | apply Kd.V_drew)); exact Kd.V_mono HO_14.out (fun _ hk => ⟨hk.1.1, ⟨hk.1.2.1, hk.1.2.2⟩⟩)⟩, ⟨by (with_reducible repeat (first | apply Kd.V_alloc | apply Kd.V_drewN | apply Kd.V_drew)); exact Kd.V_mono HO_261001.out (fun _ hk => ⟨hk.1.1, ⟨hk.1.2.1, hk.1.2.2⟩⟩)⟩, ⟨by (with_reducible repeat (first | refine blk_drewN ?_ _ | refine blk_drew ?_ | refine blk_alloc ?_ _)); exact BK260.out⟩, ⟨pb HB⟩⟩
     ·
      rw [if_neg c11] at H
      exact absurd H (by simp)
    ·
     rw [if_neg c10] at H
     exact absurd H (by simp)
   ·
    rw [if_neg c9] at H
    have c9b0 : decide (x16_1 < (l0.length : Int)) = false := decide_eq_false c9
    clear c9
    by_cases c45 : x6_1.length < 4398046511104
    ·
     rw [if_pos c45] at H
     have LMc45 := Aside0.mk c45
     clear c45
     obtain ⟨y279, hy279⟩ : ∃ y_ : List (S40), y_ = (x6_1 ++ [(⟨a1_0, l1_1⟩ : S40)]) := ⟨_, rfl⟩
     replace H : (downpourref04_with.l1 k1 t261 y279 l0 (l0.length : Int) 0) = some r := by first | (rw [hy279]; with_reducible exact H) | (have H2_ := (Option.bind_some _ _).symm.trans H; rw [hy279]; with_reducible exact H2_) | (have H2_ := (Option.bind_some _ _).symm.trans H; with_reducible exact H2_) | with_reducible exact H | (rw [hy279]; exact H) | exact H
     have Ny279 := Aside0.mk hy279
     clear hy279
     have H' := Aside0.mk H
     clear H
     have hcz46_0 : wr.cell? ⟨gb260, 0, none⟩ = some (.int .i64 a1_0) := (blk_cell BK260.out 0).trans rfl
     have hcz46_1 : wr.cell? ⟨gb260, 1, none⟩ = some (.slice A1_1 l1_1.length c1_1) := (blk_cell BK260.out 1).trans rfl
     have hfz46_0 := blk_frozen BK260.out 0
     have hfz46_1 := blk_frozen BK260.out 1
     go_wp2_with (first | ((with_reducible refine gate_builtin (b := .append) (xs := #[.tmp 36, .tmp 38]) rfl ?_); at_builtin; refine Kd.N_append k40 (w0 := w) w.heap.size rfl (.tmp 36) (.tmp 38) 22 40 (.agg #[(.int .i64 0), (.slice none 0 0)]) 32 rfl Try.underlying22 info40 rfl (by decide) (by omega) u6 x6_1 (⟨a1_0, l1_1⟩ : S40) [.int .i64 a1_0, .slice A1_1 l1_1.length c1_1] (fun k_ => ((P0_ k_ ∨ P1_1_ k_) ∨ w.heap.size ≤ k_) ∧ k_ ≠ gb260) (fun k_ => ((fun k_ => ((P0_ k_ ∨ P1_1_ k_) ∨ w.heap.size ≤ k_) ∧ k_ ≠ gb260)) k_ ∧ some k_ ≠ (u6 : Value).ownBlock) rfl rfl ?aP (fun _ hk => hk) ?aF ?aO ?aB ?aS ?aL ?_; (case aP => exact (k40_mkF _ _ (⟨a1_0, l1_1⟩ : S40) (Kd.V_reads' (Kd.V_mono (ok' := (fun k_ => ((fun k_ => ((P0_ k_ ∨ P1_1_ k_) ∨ w.heap.size ≤ k_) ∧ k_ ≠ gb260)) k_ ∧ some k_ ≠ (u6 : Value).ownBlock)) (HO_261001.out) (fun k_ hk => ⟨⟨hk.1, hk.2.2⟩, hk.2.1⟩))).2.1 (Kd.V_F (Kd.V_mono (ok' := (fun k_ => ((fun k_ => ((P0_ k_ ∨ P1_1_ k_) ∨ w.heap.size ≤ k_) ∧ k_ ≠ gb260)) k_ ∧ some k_ ≠ (u6 : Value).ownBlock)) (HO_261001.out) (fun k_ hk => ⟨⟨hk.1, hk.2.2⟩, hk.2.1⟩))))); (case aB => exact (pb HB)); (case aF => exact (fun k_ hk => ⟨(.inr (Nat.le_trans (below_size (pb HB)) hk)), Kd.freshB (g := gb260) (o := .cells #[.int .i64 a1_0, .slice A1_1 l1_1.length c1_1] 40 (0, 0)) (pk BK260) k_ hk⟩)); (case aO => exact (pn HO_6)); (case aS => exact (below_size (pb HB))); (case aL => have := LMc45.out; omega); intro v280 w47 ho hb hg hat; rw [← Ny279.out] at ho; have n0_ := am (Kd.V_afterv (ok := (fun k_ => ((P0_ k_ ∨ P1_1_ k_) ∨ w.heap.size ≤ k_) ∧ k_ ≠ gb260)) (by (with_reducible repeat (first | apply Kd.V_alloc | apply Kd.V_drewN | apply Kd.V_drew)); exact Kd.V_mono HO_0.out (fun _ hk => ⟨⟨hk.1, hk.2.2⟩, hk.2.1⟩)) hg hat); have n1_ := am (Kd.V_afterv (ok := (fun k_ => ((P0_ k_ ∨ P1_1_ k_) ∨ w.heap.size ≤ k_) ∧ k_ ≠ gb260)) (by (with_reducible repeat (first | apply Kd.V_alloc | apply Kd.V_drewN | apply Kd.V_drew)); exact Kd.V_mono HO_14.out (fun _ hk => ⟨⟨hk.1, hk.2.2⟩, hk.2.1⟩)) hg hat); have n2_ := am (Kd.V_afterv (ok := (fun k_ => ((P0_ k_ ∨ P1_1_ k_) ∨ w.heap.size ≤ k_) ∧ k_ ≠ gb260)) (by (with_reducible repeat (first | apply Kd.V_alloc | apply Kd.V_drewN | apply Kd.V_drew)); exact Kd.V_mono HO_261001.out (fun _ hk => ⟨⟨hk.1, hk.2.2⟩, hk.2.1⟩)) hg hat); have n3_ := am (blk_grown (g := gb260) (o := .cells #[.int .i64 a1_0, .slice A1_1 l1_1.length c1_1] 40 (0, 0)) (pk BK260) hg (Kd.N_away HO_6.out (fun _ hk => hk.2))); have n4_ := am (hb); have n5_ := am (ho); clear HO_0 HO_14 HO_261001 BK260 HB HO_6; have HO_0 := n0_; have HO_14 := n1_; have HO_261001 := n2_; have BK260 := n3_; have HB := n4_; have HO281 := n5_; clear n0_ n1_ n2_ n3_ n4_ n5_ ho hb hg hat))
     go_loopg [6, 42] k1 (fun kq v6 v42 w' => ∃ (x6_2 : List (S40)) (x42_2 : Int), v42 = .int .i64 x42_2 ∧ Aside0 (downpourref04_with.l1 kq t261 x6_2 l0 (l0.length : Int) x42_2 = some r) ∧ Aside0 (kq ≤ k1) ∧ Aside0 (Kd.N k40 40 w' w.heap.size (fun k_ => ((P0_ k_ ∨ P1_1_ k_) ∨ w.heap.size ≤ k_) ∧ k_ ≠ gb260) v6 x6_2) ∧ Aside0 (Kd.V k40 40 w' w.heap.size (fun k_ => ((P0_ k_ ∨ P1_1_ k_) ∨ w.heap.size ≤ k_) ∧ some k_ ≠ (v6 : Value).ownBlock ∧ k_ ≠ gb260) (.slice A0 l0.length c0) l0) ∧ Aside0 (Kd.V (Kd.int .u64) 48 w' w.heap.size (fun k_ => ((P0_ k_ ∨ P1_1_ k_) ∨ w.heap.size ≤ k_) ∧ some k_ ≠ (v6 : Value).ownBlock ∧ k_ ≠ gb260) (.slice A1_1 l1_1.length c1_1) l1_1) ∧ Aside0 (w'.heap[gb260]? = some (.cells #[.int .i64 a1_0, (.slice A1_1 l1_1.length c1_1)] 40 (0, 0))) ∧ Aside0 (Below w.heap.size w w'))
     case atStart => exact ⟨(y279), (0), (by first | rfl | (simp; done) | (simp [*]; done)), H', ⟨Nat.le_refl _⟩, ⟨by (with_reducible repeat (first | apply Kd.N_alloc | apply Kd.N_drewN | apply Kd.N_drew)); exact HO281.out⟩, ⟨by (with_reducible repeat (first | apply Kd.V_alloc | apply Kd.V_drewN | apply Kd.V_drew)); exact Kd.V_mono HO_0.out (fun _ hk => ⟨hk.1.1, ⟨hk.2, hk.1.2⟩⟩)⟩, ⟨by (with_reducible repeat (first | apply Kd.V_alloc | apply Kd.V_drewN | apply Kd.V_drew)); exact Kd.V_mono HO_261001.out (fun _ hk => ⟨hk.1.1, ⟨hk.2, hk.1.2⟩⟩)⟩, ⟨by (with_reducible repeat (first | refine blk_drewN ?_ _ | refine blk_drew ?_ | refine blk_alloc ?_ _)); exact BK260.out⟩, ⟨pb HB⟩⟩
     case round =>
      clear H'
      try clear c1
      try clear c2
      try clear p2
      try clear q2
      try clear hx2
      try clear c3
      try clear c4
      try clear c5
      try clear p6
      try clear c9
      try clear c9b0
      try clear c10
      try clear c10b0
      try clear c11
      try clear c11b0
      try clear c13
      try clear c13b0
      try clear c15
      try clear c15b0
      try clear c15b1
      try clear c17
      try clear c19
      try clear c26
      try clear p26
      try clear q26
      try clear hx26
      try clear c31
      try clear c32
      try clear c34
      try clear c39
      try clear c42
      try clear c45
      try clear hcz20_0
      try clear hcz20_1
      try clear hcz22_0
      try clear hcz22_1
      try clear hcz24_0
      try clear hcz24_1
      try clear hcz25_0
      try clear hcz25_1
      try clear hcz27_0
      try clear hcz27_1
      try clear hcz30_0
      try clear hcz30_1
      try clear hcz35_0
      try clear hcz35_1
      try clear hcz37_0
      try clear hcz37_1
      try clear hcz39_0
      try clear hcz39_1
      try clear hcz43_0
      try clear hcz43_1
      try clear hcz46_0
      try clear hcz46_1
      try clear hcz5_0
      try clear hcz5_1
      try clear hfz20_0
      try clear hfz20_1
      try clear hfz22_0
      try clear hfz22_1
      try clear hfz24_0
      try clear hfz24_1
      try clear hfz25_0
      try clear hfz25_1
      try clear hfz27_0
      try clear hfz27_1
      try clear hfz30_0
      try clear hfz30_1
      try clear hfz35_0
      try clear hfz35_1
      try clear hfz37_0
      try clear hfz37_1
      try clear hfz39_0
      try clear hfz39_1
      try clear hfz43_0
      try clear hfz43_1
      try clear hfz46_0
      try clear hfz46_1
      try clear hfz5_0
      try clear hfz5_1
      try clear hx265_0
      try clear hx265_1
      try clear p2
      try clear p265
      try clear q265
      obtain ⟨x6_2, x42_2, rfl, HA, HK2, HO_6, HO_40, HO_261001, BK260, HB⟩ := hrel
      cases gk with
      | zero => exact absurd HA.out (by simp [downpourref04_with.l1])
      | succ k2 =>
       have H := HA.out
       clear HA
       simp only [downpourref04_with.l1] at H
       by_cases c48 : x42_2 < (l0.length : Int)
       ·
        rw [if_pos c48] at H
        have c48b0 : decide (x42_2 < (l0.length : Int)) = true := decide_eq_true c48
        clear c48
        by_cases c49 : 0 ≤ x42_2
        ·
         rw [if_pos c49] at H
         have c49b0 : decide (0 ≤ x42_2) = true := decide_eq_true c49
         clear c49
         by_cases c50 : x42_2 < (l0.length : Int)
         ·
          rw [if_pos c50] at H
          have c50b0 : decide (x42_2 < (l0.length : Int)) = true := decide_eq_true c50
          clear c50
          replace H := Option.bind_eq_some_iff.mp H
          obtain ⟨t284, A510, H⟩ := H
          replace H : (if t284 > t261 then (if x6_2.length < 4398046511104 then (downpourref04_with.l1 k2 t261 (x6_2 ++ [(⟨(rd_T40 l0 x42_2).f0, (rd_T40 l0 x42_2).f1⟩ : S40)]) l0 (l0.length : Int) (wrap64 (x42_2 + 1))) else (none)) else (downpourref04_with.l1 k2 t261 x6_2 l0 (l0.length : Int) (wrap64 (x42_2 + 1)))) = some r := H
          have A51 := Aside0.mk A510
          clear A510
          by_cases c52 : t284 > t261
          ·
           rw [if_pos c52] at H
           have c52b0 : decide (t261 < t284) = true := decide_eq_true c52
           clear c52
           by_cases c53 : x6_2.length < 4398046511104
           ·
            rw [if_pos c53] at H
            have LMc53 := Aside0.mk c53
            clear c53
            obtain ⟨y285, hy285⟩ : ∃ y_ : List (S40), y_ = (x6_2 ++ [(⟨(rd_T40 l0 x42_2).f0, (rd_T40 l0 x42_2).f1⟩ : S40)]) := ⟨_, rfl⟩
            replace H : (downpourref04_with.l1 k2 t261 y285 l0 (l0.length : Int) (wrap64 (x42_2 + 1))) = some r := by first | (rw [hy285]; with_reducible exact H) | (have H2_ := (Option.bind_some _ _).symm.trans H; rw [hy285]; with_reducible exact H2_) | (have H2_ := (Option.bind_some _ _).symm.trans H; with_reducible exact H2_) | with_reducible exact H | (rw [hy285]; exact H) | exact H
            have Ny285 := Aside0.mk hy285
            clear hy285
            have H' := Aside0.mk H
            clear H
            have p282 : 0 ≤ (x42_2 : Int) := of_decide_eq_true (by first | (with_reducible assumption) | assumption)
            have q282 : x42_2 < (l0.length : Int) := of_decide_eq_true (by first | (with_reducible assumption) | assumption)
            obtain ⟨ad282, A282_1, c282_1, e282, hx282_0, hx282_1, hl282_1, hi282_1⟩ := at_T40 (Kd.V_reads' HO_40.out).2.2 x42_2 p282 q282
            cases e282
            obtain ⟨ce282, hce282, hMe282, hcc282⟩ := Kd.V_get HO_40.out z40 x42_2 p282 (by first | exact q282 | exact of_decide_eq_true (by first | (with_reducible assumption) | assumption) | (have e_ := (Kd.V_reads' HO_40.out).1; omega))
            obtain ⟨ua282_1, uc282_1, rfl, ul282_1, ge282_1⟩ := k40_openF hMe282
            have hv282_1 := hcc282 1 _ rfl
            rw [add_field _ _ 1 (by omega)] at hv282_1
            replace hv282_1 := Option.some.inj (hv282_1.symm.trans hx282_1)
            injection hv282_1 with hva_ hvn_ hvc_
            rw [hva_] at ge282_1
            rw [hvc_] at ul282_1
            have HL282_1 := am (show Kd.V (Kd.int .u64) 48 _ w.heap.size _ _ ((rd_T40 l0 x42_2).f1) from Kd.V_mk ul282_1 ge282_1)
            clear hva_ hvn_ hvc_ ge282_1 ul282_1
            clear hcc282 hce282
            have HR282_1 := Aside0.mk hi282_1
            have HC282_1 := Aside0.mk hl282_1
            clear hi282_1 hl282_1
            replace p282 := eq_true p282
            replace q282 := eq_true q282
            go_wp2_with (first | ((with_reducible refine gate_dst (N := 10) rfl ?_); refine box_event ?hg (N := 10) ?hd (cs := #[.int .i64 0, .slice none 0 0]) (t := 40) ?hr ?_; (case hd => rfl); (case hg => rfl); (case hr => first | (go_simp; done) | (go_simp; rfl)); intro gb283 hg w54 hbox hb; have n0_ := am (Kd.N_below (Kd.N_elderB (pn HO_6) gb283 (Nat.le_of_eq hg.symm)) hb); have n1_ := am (Kd.V_below (Kd.V_elderB (pv HO_40) gb283 (Nat.le_of_eq hg.symm)) hb); have n2_ := am (Kd.V_below (Kd.V_elderB (pv HO_261001) gb283 (Nat.le_of_eq hg.symm)) hb); have n3_ := am (Kd.V_below (Kd.V_elderB (pv HL282_1) gb283 (Nat.le_of_eq hg.symm)) hb); have n4_ := bb BK260 hb; have n5_ := am (Kd.C_below (by repeat (first | (with_reducible exact HR282_1.out) | (with_reducible refine Kd.C_alloc ?_ _) | (with_reducible refine Kd.C_drewN ?_ _) | (with_reducible refine Kd.C_drew ?_) | exact HR282_1.out)) hb); have n6_ := am (below_step (pb HB) hb); have n7_ := am (hbox); have n8_ := am ((by rw [hg]; exact (below_size (pb HB)) : w.heap.size ≤ gb283)); have n9_ := am ((by rw [hg]; exact (below_size (pb HB)) : w.heap.size ≤ gb283)); have n10_ := am ((by rw [hg]; exact Nat.ne_of_lt (bl BK260) : gb260 ≠ gb283)); have n11_ := am ((by rw [hg]; exact Nat.ne_of_gt (bl BK260) : gb283 ≠ gb260)); clear HO_6 HO_40 HO_261001 HL282_1 BK260 HR282_1 HB; have HO_6 := n0_; have HO_40 := n1_; have HO_261001 := n2_; have HL282_1 := n3_; have BK260 := n4_; have HR282_1 := n5_; have HB := n6_; have BK283 := n7_; have GW283 := n8_; have GE283 := n9_; have NB260_283 := n10_; have NB283_260 := n11_; clear n0_ n1_ n2_ n3_ n4_ n5_ n6_ n7_ n8_ n9_ n10_ n11_ hb hbox hg; have hnb55 := NB283_260.out; have hnc55 := NB260_283.out; have hcz56_0 : w54.cell? ⟨gb283, 0, none⟩ = some (.int .i64 0) := (blk_cell BK283.out 0).trans rfl; have hcz56_1 : w54.cell? ⟨gb283, 1, none⟩ = some (.slice none 0 0) := (blk_cell BK283.out 1).trans rfl; have hfz56_0 := blk_frozen BK283.out 0; have hfz56_1 := blk_frozen BK283.out 1) | ((with_reducible refine gate_callee (f := 31) rfl ?_); refine goesL_ (some 47) rfl rfl Try.func31 (by kernel_rfl) rfl #[.agg #[.int .i64 ((rd_T40 l0 x42_2).f0), .slice A282_1 ((rd_T40 l0 x42_2).f1).length c282_1]] rfl (by (try simp only [List.map_toArray, List.map_cons, List.map_nil]); first | done | rfl | (simp only [List.length_drop, List.length_take]; rfl)) ?_; (with_reducible refine (downpourref04_First.calls k2 ((rd_T40 l0 x42_2).f0) _ _ ((rd_T40 l0 x42_2).f1) t284 _ ?side1 ?side2 A51.out).mono ?_); (case side1 => repeat (first | exact ((Kd.V_reads' (by (with_reducible repeat (first | apply Kd.V_alloc | apply Kd.V_drewN | apply Kd.V_drew)); exact (Kd.V_mono (Kd.V_far (p := ⟨gb283, 1, none⟩) (Kd.V_far (p := ⟨gb283, 0, none⟩) (Kd.V_mono HL282_1.out (fun k_ hk => (⟨hk, hk.2⟩ : _ ∧ k_ ≠ gb283))) (fun _ hk => hk.2) (.int .i64 ((rd_T40 l0 x42_2).f0))) (fun _ hk => hk.2) (.slice A282_1 ((rd_T40 l0 x42_2).f1).length c282_1)) (fun _ h_ => h_.1)))).2.2) | (with_reducible refine Kd.C_alloc ?_ _) | (with_reducible refine Kd.C_drewN ?_ _) | (with_reducible refine Kd.C_drew ?_))); (case side2 => exact HC282_1.out); rintro e w57 ⟨rfl, hb⟩; refine ⟨_, rfl, ?_⟩; have n0_ := am (Kd.N_below (by (with_reducible repeat (first | apply Kd.N_alloc | apply Kd.N_drewN | apply Kd.N_drew)); exact (Kd.N_mono (Kd.N_far (p := ⟨gb283, 1, none⟩) (Kd.N_far (p := ⟨gb283, 0, none⟩) (Kd.N_mono HO_6.out (fun k_ hk => (⟨hk, hk.2⟩ : _ ∧ k_ ≠ gb283))) (fun _ hk => hk.2) (.int .i64 ((rd_T40 l0 x42_2).f0))) (fun _ hk => hk.2) (.slice A282_1 ((rd_T40 l0 x42_2).f1).length c282_1)) (fun _ h_ => h_.1))) hb); have n1_ := am (Kd.V_below (by (with_reducible repeat (first | apply Kd.V_alloc | apply Kd.V_drewN | apply Kd.V_drew)); exact (Kd.V_mono (Kd.V_far (p := ⟨gb283, 1, none⟩) (Kd.V_far (p := ⟨gb283, 0, none⟩) (Kd.V_mono HO_40.out (fun k_ hk => (⟨hk, hk.2⟩ : _ ∧ k_ ≠ gb283))) (fun _ hk => hk.2) (.int .i64 ((rd_T40 l0 x42_2).f0))) (fun _ hk => hk.2) (.slice A282_1 ((rd_T40 l0 x42_2).f1).length c282_1)) (fun _ h_ => h_.1))) hb); have n2_ := am (Kd.V_below (by (with_reducible repeat (first | apply Kd.V_alloc | apply Kd.V_drewN | apply Kd.V_drew)); exact (Kd.V_mono (Kd.V_far (p := ⟨gb283, 1, none⟩) (Kd.V_far (p := ⟨gb283, 0, none⟩) (Kd.V_mono HO_261001.out (fun k_ hk => (⟨hk, hk.2⟩ : _ ∧ k_ ≠ gb283))) (fun _ hk => hk.2) (.int .i64 ((rd_T40 l0 x42_2).f0))) (fun _ hk => hk.2) (.slice A282_1 ((rd_T40 l0 x42_2).f1).length c282_1)) (fun _ h_ => h_.1))) hb); have n3_ := am (Kd.V_below (by (with_reducible repeat (first | apply Kd.V_alloc | apply Kd.V_drewN | apply Kd.V_drew)); exact (Kd.V_mono (Kd.V_far (p := ⟨gb283, 1, none⟩) (Kd.V_far (p := ⟨gb283, 0, none⟩) (Kd.V_mono HL282_1.out (fun k_ hk => (⟨hk, hk.2⟩ : _ ∧ k_ ≠ gb283))) (fun _ hk => hk.2) (.int .i64 ((rd_T40 l0 x42_2).f0))) (fun _ hk => hk.2) (.slice A282_1 ((rd_T40 l0 x42_2).f1).length c282_1)) (fun _ h_ => h_.1))) hb); have n4_ := am (blk_below (g := gb260) (o := .cells #[.int .i64 a1_0, .slice A1_1 l1_1.length c1_1] 40 (0, 0)) (by (with_reducible repeat (first | refine blk_drewN ?_ _ | refine blk_drew ?_ | refine blk_alloc ?_ _)); refine blk_far ?_ NB260_283.out _; (with_reducible repeat (first | refine blk_drewN ?_ _ | refine blk_drew ?_ | refine blk_alloc ?_ _)); refine blk_far ?_ NB260_283.out _; (with_reducible repeat (first | refine blk_drewN ?_ _ | refine blk_drew ?_ | refine blk_alloc ?_ _)); exact BK260.out) hb); have n5_ := am (Kd.C_below ((Kd.V_reads' (by (with_reducible repeat (first | apply Kd.V_alloc | apply Kd.V_drewN | apply Kd.V_drew)); exact (Kd.V_mono (Kd.V_far (p := ⟨gb283, 1, none⟩) (Kd.V_far (p := ⟨gb283, 0, none⟩) (Kd.V_mono HL282_1.out (fun k_ hk => (⟨hk, hk.2⟩ : _ ∧ k_ ≠ gb283))) (fun _ hk => hk.2) (.int .i64 ((rd_T40 l0 x42_2).f0))) (fun _ hk => hk.2) (.slice A282_1 ((rd_T40 l0 x42_2).f1).length c282_1)) (fun _ h_ => h_.1)))).2.2) hb); have n6_ := am (blk_below (g := gb283) (o := .cells #[.int .i64 ((rd_T40 l0 x42_2).f0), .slice A282_1 ((rd_T40 l0 x42_2).f1).length c282_1] 40 (0, 0)) (by (with_reducible repeat (first | refine blk_drewN ?_ _ | refine blk_drew ?_ | refine blk_alloc ?_ _)); refine blk_put (cs := #[.int .i64 ((rd_T40 l0 x42_2).f0), .slice none 0 0]) ?_ 1 _ rfl; (with_reducible repeat (first | refine blk_drewN ?_ _ | refine blk_drew ?_ | refine blk_alloc ?_ _)); refine blk_put (cs := #[.int .i64 0, .slice none 0 0]) ?_ 0 _ rfl; (with_reducible repeat (first | refine blk_drewN ?_ _ | refine blk_drew ?_ | refine blk_alloc ?_ _)); exact BK283.out) hb); have n7_ := am (below_step (pb HB) hb); clear HO_6 HO_40 HO_261001 HL282_1 BK260 HR282_1 BK283 HB; have HO_6 := n0_; have HO_40 := n1_; have HO_261001 := n2_; have HL282_1 := n3_; have BK260 := n4_; have HR282_1 := n5_; have BK283 := n6_; have HB := n7_; clear n0_ n1_ n2_ n3_ n4_ n5_ n6_ n7_; (try clear hb); (try clear hb2); (try clear hk); (try clear hi); have hcz58_0 : w57.cell? ⟨gb283, 0, none⟩ = some (.int .i64 ((rd_T40 l0 x42_2).f0)) := (blk_cell BK283.out 0).trans rfl; have hcz58_1 : w57.cell? ⟨gb283, 1, none⟩ = some (.slice A282_1 ((rd_T40 l0 x42_2).f1).length c282_1) := (blk_cell BK283.out 1).trans rfl; have hfz58_0 := blk_frozen BK283.out 0; have hfz58_1 := blk_frozen BK283.out 1) | ((with_reducible refine gate_builtin (b := .append) (xs := #[.tmp 50, .tmp 52]) rfl ?_); at_builtin; refine Kd.N_append k40 (w0 := w) w.heap.size rfl (.tmp 50) (.tmp 52) 22 40 (.agg #[(.int .i64 0), (.slice none 0 0)]) 32 rfl Try.underlying22 info40 rfl (by decide) (by omega) u6 x6_2 (⟨(rd_T40 l0 x42_2).f0, (rd_T40 l0 x42_2).f1⟩ : S40) [.int .i64 ((rd_T40 l0 x42_2).f0), .slice A282_1 ((rd_T40 l0 x42_2).f1).length c282_1] (fun k_ => ((P0_ k_ ∨ P1_1_ k_) ∨ w.heap.size ≤ k_) ∧ k_ ≠ gb260 ∧ k_ ≠ gb283) (fun k_ => ((fun k_ => ((P0_ k_ ∨ P1_1_ k_) ∨ w.heap.size ≤ k_) ∧ k_ ≠ gb260 ∧ k_ ≠ gb283)) k_ ∧ some k_ ≠ (u6 : Value).ownBlock) rfl rfl ?aP (fun _ hk => hk) ?aF ?aO ?aB ?aS ?aL ?_; (case aP => exact (k40_mkF _ _ (⟨(rd_T40 l0 x42_2).f0, (rd_T40 l0 x42_2).f1⟩ : S40) (Kd.V_reads' (Kd.V_mono (ok' := (fun k_ => ((fun k_ => ((P0_ k_ ∨ P1_1_ k_) ∨ w.heap.size ≤ k_) ∧ k_ ≠ gb260 ∧ k_ ≠ gb283)) k_ ∧ some k_ ≠ (u6 : Value).ownBlock)) (HL282_1.out) (fun k_ hk => ⟨⟨hk.1.1, ⟨hk.1.2.2, hk.2⟩⟩, hk.1.2.1⟩))).2.1 (Kd.V_F (Kd.V_mono (ok' := (fun k_ => ((fun k_ => ((P0_ k_ ∨ P1_1_ k_) ∨ w.heap.size ≤ k_) ∧ k_ ≠ gb260 ∧ k_ ≠ gb283)) k_ ∧ some k_ ≠ (u6 : Value).ownBlock)) (HL282_1.out) (fun k_ hk => ⟨⟨hk.1.1, ⟨hk.1.2.2, hk.2⟩⟩, hk.1.2.1⟩))))); (case aB => exact (pb HB)); (case aF => exact (fun k_ hk => ⟨(.inr (Nat.le_trans (below_size (pb HB)) hk)), Kd.freshB (g := gb260) (o := .cells #[.int .i64 a1_0, .slice A1_1 l1_1.length c1_1] 40 (0, 0)) (pk BK260) k_ hk, Kd.freshB (g := gb283) (o := .cells #[.int .i64 ((rd_T40 l0 x42_2).f0), .slice A282_1 ((rd_T40 l0 x42_2).f1).length c282_1] 40 (0, 0)) (pk BK283) k_ hk⟩)); (case aO => exact (by (with_reducible repeat (first | apply Kd.N_alloc | apply Kd.N_drewN | apply Kd.N_drew)); exact Kd.N_mono HO_6.out (fun _ hk => ⟨hk.1.1, ⟨hk.1.2, hk.2⟩⟩))); (case aS => exact (below_size (pb HB))); (case aL => have := LMc53.out; omega); intro v286 w59 ho hb hg hat; rw [← Ny285.out] at ho; have n0_ := am (Kd.V_afterv (ok := (fun k_ => ((P0_ k_ ∨ P1_1_ k_) ∨ w.heap.size ≤ k_) ∧ k_ ≠ gb260 ∧ k_ ≠ gb283)) (by (with_reducible repeat (first | apply Kd.V_alloc | apply Kd.V_drewN | apply Kd.V_drew)); exact Kd.V_mono HO_40.out (fun _ hk => ⟨⟨hk.1.1, ⟨hk.1.2.2, hk.2⟩⟩, hk.1.2.1⟩)) hg hat); have n1_ := am (Kd.V_afterv (ok := (fun k_ => ((P0_ k_ ∨ P1_1_ k_) ∨ w.heap.size ≤ k_) ∧ k_ ≠ gb260 ∧ k_ ≠ gb283)) (by (with_reducible repeat (first | apply Kd.V_alloc | apply Kd.V_drewN | apply Kd.V_drew)); exact Kd.V_mono HO_261001.out (fun _ hk => ⟨⟨hk.1.1, ⟨hk.1.2.2, hk.2⟩⟩, hk.1.2.1⟩)) hg hat); have n2_ := am (blk_grown (g := gb260) (o := .cells #[.int .i64 a1_0, .slice A1_1 l1_1.length c1_1] 40 (0, 0)) (pk BK260) hg (Kd.N_away HO_6.out (fun _ hk => hk.1.2))); have n3_ := am (Kd.V_afterv (ok := (fun k_ => ((P0_ k_ ∨ P1_1_ k_) ∨ w.heap.size ≤ k_) ∧ k_ ≠ gb260 ∧ k_ ≠ gb283)) (by (with_reducible repeat (first | apply Kd.V_alloc | apply Kd.V_drewN | apply Kd.V_drew)); exact Kd.V_mono HL282_1.out (fun _ hk => ⟨⟨hk.1.1, ⟨hk.1.2.2, hk.2⟩⟩, hk.1.2.1⟩)) hg hat); have n4_ := am (blk_grown (g := gb283) (o := .cells #[.int .i64 ((rd_T40 l0 x42_2).f0), .slice A282_1 ((rd_T40 l0 x42_2).f1).length c282_1] 40 (0, 0)) (pk BK283) hg (Kd.N_away HO_6.out (fun _ hk => hk.2))); have n5_ := am (hb); have n6_ := am (ho); clear HO_40 HO_261001 BK260 HL282_1 BK283 HB HO_6; have HO_40 := n0_; have HO_261001 := n1_; have BK260 := n2_; have HL282_1 := n3_; have BK283 := n4_; have HB := n5_; have HO287 := n6_; clear n0_ n1_ n2_ n3_ n4_ n5_ n6_ ho hb hg hat))
            go_roundg k2
            case measure => have := HK1.out; have := HK2.out; omega
            case rel => exact ⟨(y285), (wrap64 (x42_2 + 1)), (by first | rfl | (simp; done) | (simp [*]; done)), H', ⟨by have := HK1.out; have := HK2.out; omega⟩, ⟨by (with_reducible repeat (first | apply Kd.N_alloc | apply Kd.N_drewN | apply Kd.N_drew)); exact Kd.N_mono HO287.out (fun _ hk => ⟨hk.1, hk.2.1⟩)⟩, ⟨by (with_reducible repeat (first | apply Kd.V_alloc | apply Kd.V_drewN | apply Kd.V_drew)); exact Kd.V_mono HO_40.out (fun _ hk => ⟨hk.1.1, ⟨hk.2, hk.1.2.1⟩⟩)⟩, ⟨by (with_reducible repeat (first | apply Kd.V_alloc | apply Kd.V_drewN | apply Kd.V_drew)); exact Kd.V_mono HO_261001.out (fun _ hk => ⟨hk.1.1, ⟨hk.2, hk.1.2.1⟩⟩)⟩, ⟨by (with_reducible repeat (first | refine blk_drewN ?_ _ | refine blk_drew ?_ | refine blk_alloc ?_ _)); exact BK260.out⟩, ⟨pb HB⟩⟩
           ·
            rw [if_neg c53] at H
            exact absurd H (by simp)
          ·
           rw [if_neg c52] at H
           have c52b0 : decide (t261 < t284) = false := decide_eq_false c52
           clear c52
           have H' := Aside0.mk H
           clear H
           have p282 : 0 ≤ (x42_2 : Int) := of_decide_eq_true (by first | (with_reducible assumption) | assumption)
           have q282 : x42_2 < (l0.length : Int) := of_decide_eq_true (by first | (with_reducible assumption) | assumption)
           obtain ⟨ad282, A282_1, c282_1, e282, hx282_0, hx282_1, hl282_1, hi282_1⟩ := at_T40 (Kd.V_reads' HO_40.out).2.2 x42_2 p282 q282
           cases e282
           obtain ⟨ce282, hce282, hMe282, hcc282⟩ := Kd.V_get HO_40.out z40 x42_2 p282 (by first | exact q282 | exact of_decide_eq_true (by first | (with_reducible assumption) | assumption) | (have e_ := (Kd.V_reads' HO_40.out).1; omega))
           obtain ⟨ua282_1, uc282_1, rfl, ul282_1, ge282_1⟩ := k40_openF hMe282
           have hv282_1 := hcc282 1 _ rfl
           rw [add_field _ _ 1 (by omega)] at hv282_1
           replace hv282_1 := Option.some.inj (hv282_1.symm.trans hx282_1)
           injection hv282_1 with hva_ hvn_ hvc_
           rw [hva_] at ge282_1
           rw [hvc_] at ul282_1
           have HL282_1 := am (show Kd.V (Kd.int .u64) 48 _ w.heap.size _ _ ((rd_T40 l0 x42_2).f1) from Kd.V_mk ul282_1 ge282_1)
           clear hva_ hvn_ hvc_ ge282_1 ul282_1
           clear hcc282 hce282
           have HR282_1 := Aside0.mk hi282_1
           have HC282_1 := Aside0.mk hl282_1
           clear hi282_1 hl282_1
           replace p282 := eq_true p282
           replace q282 := eq_true q282
           go_wp2_with (first | ((with_reducible refine gate_dst (N := 10) rfl ?_); refine box_event ?hg (N := 10) ?hd (cs := #[.int .i64 0, .slice none 0 0]) (t := 40) ?hr ?_; (case hd => rfl); (case hg => rfl); (case hr => first | (go_simp; done) | (go_simp; rfl)); intro gb283 hg w60 hbox hb; have n0_ := am (Kd.N_below (Kd.N_elderB (pn HO_6) gb283 (Nat.le_of_eq hg.symm)) hb); have n1_ := am (Kd.V_below (Kd.V_elderB (pv HO_40) gb283 (Nat.le_of_eq hg.symm)) hb); have n2_ := am (Kd.V_below (Kd.V_elderB (pv HO_261001) gb283 (Nat.le_of_eq hg.symm)) hb); have n3_ := am (Kd.V_below (Kd.V_elderB (pv HL282_1) gb283 (Nat.le_of_eq hg.symm)) hb); have n4_ := bb BK260 hb; have n5_ := am (Kd.C_below (by repeat (first | (with_reducible exact HR282_1.out) | (with_reducible refine Kd.C_alloc ?_ _) | (with_reducible refine Kd.C_drewN ?_ _) | (with_reducible refine Kd.C_drew ?_) | exact HR282_1.out)) hb); have n6_ := am (below_step (pb HB) hb); have n7_ := am (hbox); have n8_ := am ((by rw [hg]; exact (below_size (pb HB)) : w.heap.size ≤ gb283)); have n9_ := am ((by rw [hg]; exact (below_size (pb HB)) : w.heap.size ≤ gb283)); have n10_ := am ((by rw [hg]; exact Nat.ne_of_lt (bl BK260) : gb260 ≠ gb283)); have n11_ := am ((by rw [hg]; exact Nat.ne_of_gt (bl BK260) : gb283 ≠ gb260)); clear HO_6 HO_40 HO_261001 HL282_1 BK260 HR282_1 HB; have HO_6 := n0_; have HO_40 := n1_; have HO_261001 := n2_; have HL282_1 := n3_; have BK260 := n4_; have HR282_1 := n5_; have HB := n6_; have BK283 := n7_; have GW283 := n8_; have GE283 := n9_; have NB260_283 := n10_; have NB283_260 := n11_; clear n0_ n1_ n2_ n3_ n4_ n5_ n6_ n7_ n8_ n9_ n10_ n11_ hb hbox hg; have hnb61 := NB283_260.out; have hnc61 := NB260_283.out; have hcz62_0 : w60.cell? ⟨gb283, 0, none⟩ = some (.int .i64 0) := (blk_cell BK283.out 0).trans rfl; have hcz62_1 : w60.cell? ⟨gb283, 1, none⟩ = some (.slice none 0 0) := (blk_cell BK283.out 1).trans rfl; have hfz62_0 := blk_frozen BK283.out 0; have hfz62_1 := blk_frozen BK283.out 1) | ((with_reducible refine gate_callee (f := 31) rfl ?_); refine goesL_ (some 47) rfl rfl Try.func31 (by kernel_rfl) rfl #[.agg #[.int .i64 ((rd_T40 l0 x42_2).f0), .slice A282_1 ((rd_T40 l0 x42_2).f1).length c282_1]] rfl (by (try simp only [List.map_toArray, List.map_cons, List.map_nil]); first | done | rfl | (simp only [List.length_drop, List.length_take]; rfl)) ?_; (with_reducible refine (downpourref04_First.calls k2 ((rd_T40 l0 x42_2).f0) _ _ ((rd_T40 l0 x42_2).f1) t284 _ ?side1 ?side2 A51.out).mono ?_); (case side1 => repeat (first | exact ((Kd.V_reads' (by (with_reducible repeat (first | apply Kd.V_alloc | apply Kd.V_drewN | apply Kd.V_drew)); exact (Kd.V_mono (Kd.V_far (p := ⟨gb283, 1, none⟩) (Kd.V_far (p := ⟨gb283, 0, none⟩) (Kd.V_mono HL282_1.out (fun k_ hk => (⟨hk, hk.2⟩ : _ ∧ k_ ≠ gb283))) (fun _ hk => hk.2) (.int .i64 ((rd_T40 l0 x42_2).f0))) (fun _ hk => hk.2) (.slice A282_1 ((rd_T40 l0 x42_2).f1).length c282_1)) (fun _ h_ => h_.1)))).2.2) | (with_reducible refine Kd.C_alloc ?_ _) | (with_reducible refine Kd.C_drewN ?_ _) | (with_reducible refine Kd.C_drew ?_))); (case side2 => exact HC282_1.out); rintro e w63 ⟨rfl, hb⟩; refine ⟨_, rfl, ?_⟩; have n0_ := am (Kd.N_below (by (with_reducible repeat (first | apply Kd.N_alloc | apply Kd.N_drewN | apply Kd.N_drew)); exact (Kd.N_mono (Kd.N_far (p := ⟨gb283, 1, none⟩) (Kd.N_far (p := ⟨gb283, 0, none⟩) (Kd.N_mono HO_6.out (fun k_ hk => (⟨hk, hk.2⟩ : _ ∧ k_ ≠ gb283))) (fun _ hk => hk.2) (.int .i64 ((rd_T40 l0 x42_2).f0))) (fun _ hk => hk.2) (.slice A282_1 ((rd_T40 l0 x42_2).f1).length c282_1)) (fun _ h_ => h_.1))) hb); have n1_ := am (Kd.V_below (by (with_reducible repeat (first | apply Kd.V_alloc | apply Kd.V_drewN | apply Kd.V_drew)); exact (Kd.V_mono (Kd.V_far (p := ⟨gb283, 1, none⟩) (Kd.V_far (p := ⟨gb283, 0, none⟩) (Kd.V_mono HO_40.out (fun k_ hk => (⟨hk, hk.2⟩ : _ ∧ k_ ≠ gb283))) (fun _ hk => hk.2) (.int .i64 ((rd_T40 l0 x42_2).f0))) (fun _ hk => hk.2) (.slice A282_1 ((rd_T40 l0 x42_2).f1).length c282_1)) (fun _ h_ => h_.1))) hb); have n2_ := am (Kd.V_below (by (with_reducible repeat (first | apply Kd.V_alloc | apply Kd.V_drewN | apply Kd.V_drew)); exact (Kd.V_mono (Kd.V_far (p := ⟨gb283, 1, none⟩) (Kd.V_far (p := ⟨gb283, 0, none⟩) (Kd.V_mono HO_261001.out (fun k_ hk => (⟨hk, hk.2⟩ : _ ∧ k_ ≠ gb283))) (fun _ hk => hk.2) (.int .i64 ((rd_T40 l0 x42_2).f0))) (fun _ hk => hk.2) (.slice A282_1 ((rd_T40 l0 x42_2).f1).length c282_1)) (fun _ h_ => h_.1))) hb); have n3_ := am (Kd.V_below (by (with_reducible repeat (first | apply Kd.V_alloc | apply Kd.V_drewN | apply Kd.V_drew)); exact (Kd.V_mono (Kd.V_far (p := ⟨gb283, 1, none⟩) (Kd.V_far (p := ⟨gb283, 0, none⟩) (Kd.V_mono HL282_1.out (fun k_ hk => (⟨hk, hk.2⟩ : _ ∧ k_ ≠ gb283))) (fun _ hk => hk.2) (.int .i64 ((rd_T40 l0 x42_2).f0))) (fun _ hk => hk.2) (.slice A282_1 ((rd_T40 l0 x42_2).f1).length c282_1)) (fun _ h_ => h_.1))) hb); have n4_ := am (blk_below (g := gb260) (o := .cells #[.int .i64 a1_0, .slice A1_1 l1_1.length c1_1] 40 (0, 0)) (by (with_reducible repeat (first | refine blk_drewN ?_ _ | refine blk_drew ?_ | refine blk_alloc ?_ _)); refine blk_far ?_ NB260_283.out _; (with_reducible repeat (first | refine blk_drewN ?_ _ | refine blk_drew ?_ | refine blk_alloc ?_ _)); refine blk_far ?_ NB260_283.out _; (with_reducible repeat (first | refine blk_drewN ?_ _ | refine blk_drew ?_ | refine blk_alloc ?_ _)); exact BK260.out) hb); have n5_ := am (Kd.C_below ((Kd.V_reads' (by (with_reducible repeat (first | apply Kd.V_alloc | apply Kd.V_drewN | apply Kd.V_drew)); exact (Kd.V_mono (Kd.V_far (p := ⟨gb283, 1, none⟩) (Kd.V_far (p := ⟨gb283, 0, none⟩) (Kd.V_mono HL282_1.out (fun k_ hk => (⟨hk, hk.2⟩ : _ ∧ k_ ≠ gb283))) (fun _ hk => hk.2) (.int .i64 ((rd_T40 l0 x42_2).f0))) (fun _ hk => hk.2) (.slice A282_1 ((rd_T40 l0 x42_2).f1).length c282_1)) (fun _ h_ => h_.1)))).2.2) hb); have n6_ := am (blk_below (g := gb283) (o := .cells #[.int .i64 ((rd_T40 l0 x42_2).f0), .slice A282_1 ((rd_T40 l0 x42_2).f1).length c282_1] 40 (0, 0)) (by (with_reducible repeat (first | refine blk_drewN ?_ _ | refine blk_drew ?_ | refine blk_alloc ?_ _)); refine blk_put (cs := #[.int .i64 ((rd_T40 l0 x42_2).f0), .slice none 0 0]) ?_ 1 _ rfl; (with_reducible repeat (first | refine blk_drewN ?_ _ | refine blk_drew ?_ | refine blk_alloc ?_ _)); refine blk_put (cs := #[.int .i64 0, .slice none 0 0]) ?_ 0 _ rfl; (with_reducible repeat (first | refine blk_drewN ?_ _ | refine blk_drew ?_ | refine blk_alloc ?_ _)); exact BK283.out) hb); have n7_ := am (below_step (pb HB) hb); clear HO_6 HO_40 HO_261001 HL282_1 BK260 HR282_1 BK283 HB; have HO_6 := n0_; have HO_40 := n1_; have HO_261001 := n2_; have HL282_1 := n3_; have BK260 := n4_; have HR282_1 := n5_; have BK283 := n6_; have HB := n7_; clear n0_ n1_ n2_ n3_ n4_ n5_ n6_ n7_; (try clear hb); (try clear hb2); (try clear hk); (try clear hi)))
           go_roundg k2
           case measure => have := HK1.out; have := HK2.out; omega
           case rel => exact ⟨(x6_2), (wrap64 (x42_2 + 1)), (by first | rfl | (simp; done) | (simp [*]; done)), H', ⟨by have := HK1.out; have := HK2.out; omega⟩, ⟨by (with_reducible repeat (first | apply Kd.N_alloc | apply Kd.N_drewN | apply Kd.N_drew)); exact Kd.N_mono HO_6.out (fun _ hk => ⟨hk.1.1, hk.1.2⟩)⟩, ⟨by (with_reducible repeat (first | apply Kd.V_alloc | apply Kd.V_drewN | apply Kd.V_drew)); exact Kd.V_mono HO_40.out (fun _ hk => ⟨hk.1.1, ⟨hk.1.2.1, hk.1.2.2⟩⟩)⟩, ⟨by (with_reducible repeat (first | apply Kd.V_alloc | apply Kd.V_drewN | apply Kd.V_drew)); exact Kd.V_mono HO_261001.out (fun _ hk => ⟨hk.1.1, ⟨hk.1.2.1, hk.1.2.2⟩⟩)⟩, ⟨by (with_reducible repeat (first | refine blk_drewN ?_ _ | refine blk_drew ?_ | refine blk_alloc ?_ _)); exact BK260.out⟩, ⟨pb HB⟩⟩
         ·
          rw [if_neg c50] at H
          exact absurd H (by simp)
        ·
         rw [if_neg c49] at H
         exact absurd H (by simp)
       ·
        rw [if_neg c48] at H
        have c48b0 : decide (x42_2 < (l0.length : Int)) = false := decide_eq_false c48
        clear c48
        obtain rfl := Option.some.inj H
        go_wp2
        go_ret
        exact ⟨_, by first | rfl | (simp [errW_none, errW_some] <;> rfl) | (simp [*, errW_none, errW_some] <;> rfl), by (with_reducible repeat (first | apply Kd.N_alloc | apply Kd.N_drewN | apply Kd.N_drew)); exact Kd.N_mono HO_6.out (fun _ hk => hk.1), pb HB⟩
    ·
     rw [if_neg c45] at H
     exact absurd H (by simp)

/-! ### downpourref04_Echelon: function 13 -/
def downpourref04_Echelon.l0 : Nat → List (S40) → List (S40) → Int → Int → Option ((List (S40)))
 | 0, _, _, _, _ => none
 | k + 1, x3, x9, x10, x11 => if x11 < x10 then (if 0 ≤ x11 then (if x11 < (x9.length : Int) then ((downpourref04_Left.f k x3 ((rd_T40 x9 x11).f0) ((rd_T40 x9 x11).f1)).bind fun bt294 => ((downpourref04_First.f k bt294.1 bt294.2).bind fun t299 => (if t299 ≥ 0 then ((downpourref04_with.f k x3 bt294.1 bt294.2).bind fun t300 => (downpourref04_Echelon.l0 k t300 x9 x10 (wrap64 (x11 + 1)))) else (downpourref04_Echelon.l0 k x3 x9 x10 (wrap64 (x11 + 1)))))) else (none)) else (none)) else (some x3)
def downpourref04_Echelon.f (k : Nat) (a0_0 : Int) (l0_1 : List (S40)) : Option ((List (S40))) := downpourref04_Echelon.l0 k (([] : List (S40))) l0_1 (l0_1.length : Int) 0
theorem downpourref04_Echelon.mono_l : ∀ k, (∀ y0 y1 y2 y3, LeO (downpourref04_Echelon.l0 k y0 y1 y2 y3) (downpourref04_Echelon.l0 (k + 1) y0 y1 y2 y3))
 | 0 => fun _ _ _ _ r h => by simp [downpourref04_Echelon.l0] at h
 | k + 1 => by
  have ih0 := downpourref04_Echelon.mono_l k
  ·
   intro y0 y1 y2 y3
   unfold downpourref04_Echelon.l0
   repeat' first
   | (with_reducible exact ih0 _ _ _ _)
   | (with_reducible exact downpourref04_First.mono _ _ _)
   | (with_reducible exact downpourref04_Left.mono _ _ _ _)
   | (with_reducible exact downpourref04_with.mono _ _ _ _)
   | (with_reducible exact LeO.refl _)
   | (with_reducible exact LeO.none _)
   | (with_reducible refine LeO.ite ?_ ?_)
   | (with_reducible refine LeO.bind ?_ (fun _ => ?_))
   | exact ih0 _ _ _ _
   | exact downpourref04_First.mono _ _ _
   | exact downpourref04_Left.mono _ _ _ _
   | exact downpourref04_with.mono _ _ _ _
   | exact LeO.none _
   | refine LeO.ite ?_ ?_
   | refine LeO.bind ?_ (fun _ => ?_)
theorem downpourref04_Echelon.mono : ∀ a0 a1 k, LeO (downpourref04_Echelon.f k a0 a1) (downpourref04_Echelon.f (k + 1) a0 a1) := by
 intro a0 a1 k
 have ih0 := downpourref04_Echelon.mono_l k
 unfold downpourref04_Echelon.f
 repeat' first
   | (with_reducible exact ih0 _ _ _ _)
   | (with_reducible exact downpourref04_First.mono _ _ _)
   | (with_reducible exact downpourref04_Left.mono _ _ _ _)
   | (with_reducible exact downpourref04_with.mono _ _ _ _)
   | (with_reducible exact LeO.refl _)
   | (with_reducible exact LeO.none _)
   | (with_reducible refine LeO.ite ?_ ?_)
   | (with_reducible refine LeO.bind ?_ (fun _ => ?_))
   | exact ih0 _ _ _ _
   | exact downpourref04_First.mono _ _ _
   | exact downpourref04_Left.mono _ _ _ _
   | exact downpourref04_with.mono _ _ _ _
   | exact LeO.none _
   | refine LeO.ite ?_ ?_
   | refine LeO.bind ?_ (fun _ => ?_)
set_option maxHeartbeats 8000000 in
set_option maxRecDepth 100000 in
theorem downpourref04_Echelon.calls (k : Nat) (a0_0 : Int) (P0_1_ : Nat → Prop) (A0_1 : Option Addr) (c0_1 : Nat) (l0_1 : List (S40)) (r : List (S40)) (w : World) (hs0_1 : Kd.V k40 40 w w.heap.size (fun k_ => P0_1_ k_) (.slice A0_1 l0_1.length c0_1) l0_1) (h : downpourref04_Echelon.f k a0_0 l0_1 = some r) :
  Calls Try.prog 13 #[.agg #[.int .i64 a0_0, .slice A0_1 l0_1.length c0_1]] w fun e w' => ∃ v0_ : Value, e = .returned (v0_) ∧ Kd.N k40 40 w' w.heap.size (fun k_ => (P0_1_ k_ ∨ w.heap.size ≤ k_)) v0_ r ∧ Below w.heap.size w w' := by
 have hu24 := Try.underlying24
 have hu40 := Try.underlying40
 have HO0_1 := am (show Kd.V k40 40 w w.heap.size (fun k_ => (P0_1_ k_ ∨ w.heap.size ≤ k_)) (.slice A0_1 l0_1.length c0_1) l0_1 from Kd.V_mono hs0_1 (fun k_ hk => .inl hk))
 have HB := am (Below.refl w.heap.size w)
 have H : (downpourref04_Echelon.l0 k (([] : List (S40))) l0_1 (l0_1.length : Int) 0) = some r := h
 clear h
 obtain ⟨y289, hy289⟩ : ∃ y_ : List (S40), y_ = (([] : List (S40))) := ⟨_, rfl⟩
 replace H : (downpourref04_Echelon.l0 k y289 l0_1 (l0_1.length : Int) 0) = some r := by first | (rw [hy289]; with_reducible exact H) | (have H2_ := (Option.bind_some _ _).symm.trans H; rw [hy289]; with_reducible exact H2_) | (have H2_ := (Option.bind_some _ _).symm.trans H; with_reducible exact H2_) | with_reducible exact H | (rw [hy289]; exact H) | exact H
 have Ny289 := Aside0.mk hy289
 clear hy289
 have H' := Aside0.mk H
 clear H
 go_enter Try.func13, Try.ntmps13
 go_wp2_with (first | ((with_reducible refine gate_dst (N := 1) rfl ?_); refine box_event ?hg (N := 1) ?hd (cs := #[.int .i64 a0_0, .slice A0_1 l0_1.length c0_1]) (t := 24) ?hr ?_; (case hd => rfl); (case hg => rfl); (case hr => first | (go_simp; done) | (go_simp; rfl)); intro gb288 hg w2 hbox hb; have n0_ := am (Kd.V_below (Kd.V_elderB (pv HO0_1) gb288 (Nat.le_of_eq hg.symm)) hb); have n1_ := am (below_step (pb HB) hb); have n2_ := am (hbox); have n3_ := am ((by rw [hg]; exact (below_size (pb HB)) : w.heap.size ≤ gb288)); have n4_ := am ((by rw [hg]; exact (below_size (pb HB)) : w.heap.size ≤ gb288)); clear HO0_1 HB; have HO0_1 := n0_; have HB := n1_; have BK288 := n2_; have GW288 := n3_; have GE288 := n4_; clear n0_ n1_ n2_ n3_ n4_ hb hbox hg) | ((with_reducible refine gate_dst (N := 7) rfl ?_); refine Kd.N_lit k40 _ 40 ?hg (N' := 7) ?hd (xs := ([] : List (S40))) (inner := []) (ok := (fun k_ => (P0_1_ k_ ∨ w.heap.size ≤ k_) ∧ k_ ≠ gb288)) (okp := (fun k_ => (P0_1_ k_ ∨ w.heap.size ≤ k_) ∧ k_ ≠ gb288)) ?hr ?hp (fun _ hk => hk) ((show ∀ k_, w2.heap.size ≤ k_ → (fun k_ => (P0_1_ k_ ∨ w.heap.size ≤ k_) ∧ k_ ≠ gb288) k_ from fun k_ hk => ⟨(.inr (Nat.le_trans (below_size (pb HB)) hk)), Kd.freshB (g := gb288) (o := .cells #[.int .i64 a0_0, .slice A0_1 l0_1.length c0_1] 24 (0, 0)) (pk BK288) k_ hk⟩) _ (Nat.le_refl _)) (Below.refl _ _) (Nat.le_refl _) (by simp) ?_; (case hd => rfl); (case hg => rfl); (case hr => first | (go_simp; done) | (go_simp; rfl)); (case hp => exact (Reps.none _ _)); intro v290 w3 ho4 hb hg_ hnew_; clear hg_ hnew_; (first | rw [← Ny289.out] at ho4 | (simp only [Int.reduceToNat] at ho4; rw [← Ny289.out] at ho4)); have n0_ := am (Kd.V_elder' (pv HO0_1) (by first | exact Kd.N_base ho4 | exact Kd.S_base ho4 | exact Kd.R_base ho4) hb); have n1_ := am (Kd.N_lower ho4 (below_size (pb HB))); have n2_ := bb BK288 hb; have n3_ := am (below_step (pb HB) hb); clear HO0_1 BK288 HB; have HO0_1 := n0_; have HO291 := n1_; have BK288 := n2_; have HB := n3_; clear n0_ n1_ n2_ n3_ hb ho4; have hcz5_0 : w3.cell? ⟨gb288, 0, none⟩ = some (.int .i64 a0_0) := (blk_cell BK288.out 0).trans rfl; have hcz5_1 : w3.cell? ⟨gb288, 1, none⟩ = some (.slice A0_1 l0_1.length c0_1) := (blk_cell BK288.out 1).trans rfl; have hfz5_0 := blk_frozen BK288.out 0; have hfz5_1 := blk_frozen BK288.out 1))
 go_loopg [3, 11] k (fun kq v3 v11 w' => ∃ (x3_1 : List (S40)) (x11_1 : Int), v11 = .int .i64 x11_1 ∧ Aside0 (downpourref04_Echelon.l0 kq x3_1 l0_1 (l0_1.length : Int) x11_1 = some r) ∧ Aside0 (kq ≤ k) ∧ Aside0 (Kd.N k40 40 w' w.heap.size (fun k_ => (P0_1_ k_ ∨ w.heap.size ≤ k_) ∧ k_ ≠ gb288) v3 x3_1) ∧ Aside0 (Kd.V k40 40 w' w.heap.size (fun k_ => (P0_1_ k_ ∨ w.heap.size ≤ k_) ∧ some k_ ≠ (v3 : Value).ownBlock ∧ k_ ≠ gb288) (.slice A0_1 l0_1.length c0_1) l0_1) ∧ Aside0 (Kd.V k40 40 w' w.heap.size (fun k_ => (P0_1_ k_ ∨ w.heap.size ≤ k_) ∧ some k_ ≠ (v3 : Value).ownBlock ∧ k_ ≠ gb288) (.slice A0_1 l0_1.length c0_1) l0_1) ∧ Aside0 (w'.heap[gb288]? = some (.cells #[.int .i64 a0_0, (.slice A0_1 l0_1.length c0_1)] 24 (0, 0))) ∧ Aside0 (Below w.heap.size w w'))
 case atStart => exact ⟨(y289), (0), (by first | rfl | (simp; done) | (simp [*]; done)), H', ⟨Nat.le_refl _⟩, ⟨by (with_reducible repeat (first | apply Kd.N_alloc | apply Kd.N_drewN | apply Kd.N_drew)); exact HO291.out⟩, ⟨by (with_reducible repeat (first | apply Kd.V_alloc | apply Kd.V_drewN | apply Kd.V_drew)); exact Kd.V_mono HO0_1.out (fun _ hk => ⟨hk.1.1, ⟨hk.2, hk.1.2⟩⟩)⟩, ⟨by (with_reducible repeat (first | apply Kd.V_alloc | apply Kd.V_drewN | apply Kd.V_drew)); exact Kd.V_mono HO0_1.out (fun _ hk => ⟨hk.1.1, ⟨hk.2, hk.1.2⟩⟩)⟩, ⟨by (with_reducible repeat (first | refine blk_drewN ?_ _ | refine blk_drew ?_ | refine blk_alloc ?_ _)); exact BK288.out⟩, ⟨pb HB⟩⟩
 case round =>
  clear H'
  try clear c1
  try clear p2
  try clear hcz5_0
  try clear hcz5_1
  try clear hfz5_0
  try clear hfz5_1
  obtain ⟨x3_1, x11_1, rfl, HA, HK1, HO_3, HO_9, HO_289001, BK288, HB⟩ := hrel
  cases gk with
  | zero => exact absurd HA.out (by simp [downpourref04_Echelon.l0])
  | succ k1 =>
   have H := HA.out
   clear HA
   simp only [downpourref04_Echelon.l0] at H
   by_cases c6 : x11_1 < (l0_1.length : Int)
   ·
    rw [if_pos c6] at H
    have c6b0 : decide (x11_1 < (l0_1.length : Int)) = true := decide_eq_true c6
    clear c6
    by_cases c7 : 0 ≤ x11_1
    ·
     rw [if_pos c7] at H
     have c7b0 : decide (0 ≤ x11_1) = true := decide_eq_true c7
     clear c7
     by_cases c8 : x11_1 < (l0_1.length : Int)
     ·
      rw [if_pos c8] at H
      have c8b0 : decide (x11_1 < (l0_1.length : Int)) = true := decide_eq_true c8
      clear c8
      replace H := Option.bind_eq_some_iff.mp H
      obtain ⟨⟨t294, t295⟩, A90, H⟩ := H
      replace H : ((downpourref04_First.f k1 t294 t295).bind fun t299 => (if t299 ≥ 0 then ((downpourref04_with.f k1 x3_1 t294 t295).bind fun t300 => (downpourref04_Echelon.l0 k1 t300 l0_1 (l0_1.length : Int) (wrap64 (x11_1 + 1)))) else (downpourref04_Echelon.l0 k1 x3_1 l0_1 (l0_1.length : Int) (wrap64 (x11_1 + 1))))) = some r := H
      have A9 := Aside0.mk A90
      clear A90
      replace H := Option.bind_eq_some_iff.mp H
      obtain ⟨t299, A100, H⟩ := H
      replace H : (if t299 ≥ 0 then ((downpourref04_with.f k1 x3_1 t294 t295).bind fun t300 => (downpourref04_Echelon.l0 k1 t300 l0_1 (l0_1.length : Int) (wrap64 (x11_1 + 1)))) else (downpourref04_Echelon.l0 k1 x3_1 l0_1 (l0_1.length : Int) (wrap64 (x11_1 + 1)))) = some r := H
      have A10 := Aside0.mk A100
      clear A100
      by_cases c11 : t299 ≥ 0
      ·
       rw [if_pos c11] at H
       have c11b0 : decide (0 ≤ t299) = true := decide_eq_true c11
       clear c11
       replace H := Option.bind_eq_some_iff.mp H
       obtain ⟨t300, A120, H⟩ := H
       replace H : (downpourref04_Echelon.l0 k1 t300 l0_1 (l0_1.length : Int) (wrap64 (x11_1 + 1))) = some r := H
       have A12 := Aside0.mk A120
       clear A120
       have H' := Aside0.mk H
       clear H
       have p292 : 0 ≤ (x11_1 : Int) := of_decide_eq_true (by first | (with_reducible assumption) | assumption)
       have q292 : x11_1 < (l0_1.length : Int) := of_decide_eq_true (by first | (with_reducible assumption) | assumption)
       obtain ⟨ad292, A292_1, c292_1, e292, hx292_0, hx292_1, hl292_1, hi292_1⟩ := at_T40 (Kd.V_reads' HO_9.out).2.2 x11_1 p292 q292
       cases e292
       obtain ⟨ce292, hce292, hMe292, hcc292⟩ := Kd.V_get HO_9.out z40 x11_1 p292 (by first | exact q292 | exact of_decide_eq_true (by first | (with_reducible assumption) | assumption) | (have e_ := (Kd.V_reads' HO_9.out).1; omega))
       obtain ⟨ua292_1, uc292_1, rfl, ul292_1, ge292_1⟩ := k40_openF hMe292
       have hv292_1 := hcc292 1 _ rfl
       rw [add_field _ _ 1 (by omega)] at hv292_1
       replace hv292_1 := Option.some.inj (hv292_1.symm.trans hx292_1)
       injection hv292_1 with hva_ hvn_ hvc_
       rw [hva_] at ge292_1
       rw [hvc_] at ul292_1
       have HL292_1 := am (show Kd.V (Kd.int .u64) 48 _ w.heap.size _ _ ((rd_T40 l0_1 x11_1).f1) from Kd.V_mk ul292_1 ge292_1)
       clear hva_ hvn_ hvc_ ge292_1 ul292_1
       clear hcc292 hce292
       have HR292_1 := Aside0.mk hi292_1
       have HC292_1 := Aside0.mk hl292_1
       clear hi292_1 hl292_1
       replace p292 := eq_true p292
       replace q292 := eq_true q292
       go_wp2_with (first | ((with_reducible refine gate_dst (N := 5) rfl ?_); refine box_event ?hg (N := 5) ?hd (cs := #[.int .i64 0, .slice none 0 0]) (t := 40) ?hr ?_; (case hd => rfl); (case hg => rfl); (case hr => first | (go_simp; done) | (go_simp; rfl)); intro gb293 hg w13 hbox hb; have n0_ := am (Kd.N_below (Kd.N_elderB (pn HO_3) gb293 (Nat.le_of_eq hg.symm)) hb); have n1_ := am (Kd.V_below (Kd.V_elderB (pv HO_9) gb293 (Nat.le_of_eq hg.symm)) hb); have n2_ := am (Kd.V_below (Kd.V_elderB (pv HO_289001) gb293 (Nat.le_of_eq hg.symm)) hb); have n3_ := am (Kd.V_below (Kd.V_elderB (pv HL292_1) gb293 (Nat.le_of_eq hg.symm)) hb); have n4_ := bb BK288 hb; have n5_ := am (Kd.C_below (by repeat (first | (with_reducible exact HR292_1.out) | (with_reducible refine Kd.C_alloc ?_ _) | (with_reducible refine Kd.C_drewN ?_ _) | (with_reducible refine Kd.C_drew ?_) | exact HR292_1.out)) hb); have n6_ := am (below_step (pb HB) hb); have n7_ := am (hbox); have n8_ := am ((by rw [hg]; exact (below_size (pb HB)) : w.heap.size ≤ gb293)); have n9_ := am ((by rw [hg]; exact (below_size (pb HB)) : w.heap.size ≤ gb293)); have n10_ := am ((by rw [hg]; exact Nat.ne_of_lt (bl BK288) : gb288 ≠ gb293)); have n11_ := am ((by rw [hg]; exact Nat.ne_of_gt (bl BK288) : gb293 ≠ gb288)); clear HO_3 HO_9 HO_289001 HL292_1 BK288 HR292_1 HB; have HO_3 := n0_; have HO_9 := n1_; have HO_289001 := n2_; have HL292_1 := n3_; have BK288 := n4_; have HR292_1 := n5_; have HB := n6_; have BK293 := n7_; have GW293 := n8_; have GE293 := n9_; have NB288_293 := n10_; have NB293_288 := n11_; clear n0_ n1_ n2_ n3_ n4_ n5_ n6_ n7_ n8_ n9_ n10_ n11_ hb hbox hg; have hnb14 := NB293_288.out; have hnc14 := NB288_293.out; have hcz15_0 : w13.cell? ⟨gb293, 0, none⟩ = some (.int .i64 0) := (blk_cell BK293.out 0).trans rfl; have hcz15_1 : w13.cell? ⟨gb293, 1, none⟩ = some (.slice none 0 0) := (blk_cell BK293.out 1).trans rfl; have hfz15_0 := blk_frozen BK293.out 0; have hfz15_1 := blk_frozen BK293.out 1) | ((with_reducible refine gate_store (t := 40) (p := 5) rfl ?_); refine store_event (t := 40) (p := 5) (v := ?vo_w16) (w1 := ((w13.setCell ⟨gb293, 0, none⟩ (.int .i64 ((rd_T40 l0_1 x11_1).f0))).setCell ⟨gb293, 1, none⟩ (.slice A292_1 ((rd_T40 l0_1 x11_1).f1).length c292_1))) ?hg ?ho ?hn ?hr ?_; (case ho => rfl); (case hg => rfl); (case hn => rfl); (case hr => first | (go_simp; done) | (go_simp; rfl)); intro w16 hw; have n0_ : Aside0 (Kd.N k40 40 w16 w.heap.size (fun k_ => (P0_1_ k_ ∨ w.heap.size ≤ k_) ∧ k_ ≠ gb288 ∧ k_ ≠ gb293) u3 x3_1) := ⟨(by rw [hw]; exact (by (with_reducible repeat (first | apply Kd.N_alloc | apply Kd.N_drewN | apply Kd.N_drew)); exact Kd.N_mono (Kd.N_far (p := ⟨gb293, 1, none⟩) (Kd.N_far (p := ⟨gb293, 0, none⟩) (Kd.N_mono HO_3.out (fun k_ hk => (⟨hk, hk.2⟩ : _ ∧ k_ ≠ gb293))) (fun _ hk => hk.2) (.int .i64 ((rd_T40 l0_1 x11_1).f0))) (fun _ hk => hk.2) (.slice A292_1 ((rd_T40 l0_1 x11_1).f1).length c292_1)) (fun _ hk => ⟨hk.1.1.1, ⟨hk.1.1.2, hk.1.2⟩⟩)))⟩; have n1_ : Aside0 (Kd.V k40 40 w16 w.heap.size (fun k_ => (P0_1_ k_ ∨ w.heap.size ≤ k_) ∧ some k_ ≠ (u3 : Value).ownBlock ∧ k_ ≠ gb288 ∧ k_ ≠ gb293) (.slice (some ad292) l0_1.length c0_1) l0_1) := ⟨(by rw [hw]; exact (by (with_reducible repeat (first | apply Kd.V_alloc | apply Kd.V_drewN | apply Kd.V_drew)); exact Kd.V_mono (Kd.V_far (p := ⟨gb293, 1, none⟩) (Kd.V_far (p := ⟨gb293, 0, none⟩) (Kd.V_mono HO_9.out (fun k_ hk => (⟨hk, hk.2⟩ : _ ∧ k_ ≠ gb293))) (fun _ hk => hk.2) (.int .i64 ((rd_T40 l0_1 x11_1).f0))) (fun _ hk => hk.2) (.slice A292_1 ((rd_T40 l0_1 x11_1).f1).length c292_1)) (fun _ hk => ⟨hk.1.1.1, ⟨hk.1.1.2.1, ⟨hk.1.1.2.2, hk.1.2⟩⟩⟩)))⟩; have n2_ : Aside0 (Kd.V k40 40 w16 w.heap.size (fun k_ => (P0_1_ k_ ∨ w.heap.size ≤ k_) ∧ some k_ ≠ (u3 : Value).ownBlock ∧ k_ ≠ gb288 ∧ k_ ≠ gb293) (.slice (some ad292) l0_1.length c0_1) l0_1) := ⟨(by rw [hw]; exact (by (with_reducible repeat (first | apply Kd.V_alloc | apply Kd.V_drewN | apply Kd.V_drew)); exact Kd.V_mono (Kd.V_far (p := ⟨gb293, 1, none⟩) (Kd.V_far (p := ⟨gb293, 0, none⟩) (Kd.V_mono HO_289001.out (fun k_ hk => (⟨hk, hk.2⟩ : _ ∧ k_ ≠ gb293))) (fun _ hk => hk.2) (.int .i64 ((rd_T40 l0_1 x11_1).f0))) (fun _ hk => hk.2) (.slice A292_1 ((rd_T40 l0_1 x11_1).f1).length c292_1)) (fun _ hk => ⟨hk.1.1.1, ⟨hk.1.1.2.1, ⟨hk.1.1.2.2, hk.1.2⟩⟩⟩)))⟩; have n3_ : Aside0 (Kd.V (Kd.int .u64) 48 w16 w.heap.size (fun k_ => (P0_1_ k_ ∨ w.heap.size ≤ k_) ∧ some k_ ≠ (u3 : Value).ownBlock ∧ k_ ≠ gb288 ∧ k_ ≠ gb293) (.slice A292_1 ((rd_T40 l0_1 x11_1).f1).length c292_1) ((rd_T40 l0_1 x11_1).f1)) := ⟨(by rw [hw]; exact (by (with_reducible repeat (first | apply Kd.V_alloc | apply Kd.V_drewN | apply Kd.V_drew)); exact Kd.V_mono (Kd.V_far (p := ⟨gb293, 1, none⟩) (Kd.V_far (p := ⟨gb293, 0, none⟩) (Kd.V_mono HL292_1.out (fun k_ hk => (⟨hk, hk.2⟩ : _ ∧ k_ ≠ gb293))) (fun _ hk => hk.2) (.int .i64 ((rd_T40 l0_1 x11_1).f0))) (fun _ hk => hk.2) (.slice A292_1 ((rd_T40 l0_1 x11_1).f1).length c292_1)) (fun _ hk => ⟨hk.1.1.1, ⟨hk.1.1.2.1, ⟨hk.1.1.2.2, hk.1.2⟩⟩⟩)))⟩; have n4_ : Aside0 (w16.heap[gb288]? = some (.cells #[.int .i64 a0_0, .slice (some ad292) l0_1.length c0_1] 24 (0, 0))) := ⟨(by rw [hw]; exact (by (with_reducible repeat (first | refine blk_drewN ?_ _ | refine blk_drew ?_ | refine blk_alloc ?_ _)); refine blk_far ?_ NB288_293.out _; (with_reducible repeat (first | refine blk_drewN ?_ _ | refine blk_drew ?_ | refine blk_alloc ?_ _)); refine blk_far ?_ NB288_293.out _; (with_reducible repeat (first | refine blk_drewN ?_ _ | refine blk_drew ?_ | refine blk_alloc ?_ _)); exact BK288.out))⟩; have n5_ : Aside0 (w16.heap[gb293]? = some (.cells #[.int .i64 ((rd_T40 l0_1 x11_1).f0), .slice A292_1 ((rd_T40 l0_1 x11_1).f1).length c292_1] 40 (0, 0))) := ⟨(by rw [hw]; exact (by (with_reducible repeat (first | refine blk_drewN ?_ _ | refine blk_drew ?_ | refine blk_alloc ?_ _)); refine blk_put (cs := #[.int .i64 ((rd_T40 l0_1 x11_1).f0), .slice none 0 0]) ?_ 1 _ rfl; (with_reducible repeat (first | refine blk_drewN ?_ _ | refine blk_drew ?_ | refine blk_alloc ?_ _)); refine blk_put (cs := #[.int .i64 0, .slice none 0 0]) ?_ 0 _ rfl; (with_reducible repeat (first | refine blk_drewN ?_ _ | refine blk_drew ?_ | refine blk_alloc ?_ _)); exact BK293.out))⟩; have n6_ : Aside0 (Below w.heap.size w w16) := ⟨(by rw [hw]; exact (pb HB))⟩; clear hw HO_3 HO_9 HO_289001 HL292_1 BK288 BK293 HB; have HO_3 := n0_; have HO_9 := n1_; have HO_289001 := n2_; have HL292_1 := n3_; have BK288 := n4_; have BK293 := n5_; have HB := n6_; clear n0_ n1_ n2_ n3_ n4_ n5_ n6_; have hcz17_0 : w16.cell? ⟨gb293, 0, none⟩ = some (.int .i64 ((rd_T40 l0_1 x11_1).f0)) := (blk_cell BK293.out 0).trans rfl; have hcz17_1 : w16.cell? ⟨gb293, 1, none⟩ = some (.slice A292_1 ((rd_T40 l0_1 x11_1).f1).length c292_1) := (blk_cell BK293.out 1).trans rfl; have hfz17_0 := blk_frozen BK293.out 0; have hfz17_1 := blk_frozen BK293.out 1; obtain ⟨Ao18, co18, eo18⟩ := Kd.N_slice HO_3.out; subst eo18) | ((with_reducible refine gate_callee (f := 30) rfl ?_); refine goesL_ (some 17) rfl rfl Try.func30 (by kernel_rfl) rfl #[.slice Ao18 x3_1.length co18, .agg #[.int .i64 ((rd_T40 l0_1 x11_1).f0), .slice A292_1 ((rd_T40 l0_1 x11_1).f1).length c292_1]] rfl (by (try simp only [List.map_toArray, List.map_cons, List.map_nil]); first | done | rfl | (simp only [List.length_drop, List.length_take]; rfl)) ?_; (with_reducible refine (downpourref04_Left.calls k1 _ _ x3_1 ((rd_T40 l0_1 x11_1).f0) (fun k_ => ((P0_1_ k_ ∨ w.heap.size ≤ k_) ∧ (some k_ ≠ (.slice Ao18 x3_1.length co18 : Value).ownBlock ∧ (k_ ≠ gb288 ∧ k_ ≠ gb293)))) _ _ ((rd_T40 l0_1 x11_1).f1) t294 t295 _ ?side1 ?side2 ?side3 A9.out).mono ?_); (case side1 => repeat (first | exact (Kd.N_reads' HO_3.out).2.2 | (with_reducible refine Kd.C_alloc ?_ _) | (with_reducible refine Kd.C_drewN ?_ _) | (with_reducible refine Kd.C_drew ?_))); (case side2 => exact (Kd.N_reads' HO_3.out).2.1); (case side3 => exact HL292_1.out); rintro e w19 ⟨v296, rfl, ho0, hb⟩; refine ⟨_, rfl, ?_⟩; have n0_ := am (Kd.N_below (pn HO_3) hb); have n1_ := am (Kd.V_below (pv HO_9) hb); have n2_ := am (Kd.V_below (pv HO_289001) hb); have n3_ := am (Kd.V_below (pv HL292_1) hb); have n4_ := am (Kd.V_lower (Kd.V_mono (ok' := fun k_ => (P0_1_ k_ ∨ w.heap.size ≤ k_) ∧ some k_ ≠ (.slice Ao18 x3_1.length co18 : Value).ownBlock ∧ k_ ≠ gb288 ∧ k_ ≠ gb293) ho0 (fun k_ hk_ => ⟨Or.elim hk_ (fun hs_ => hs_.1) (fun hn_ => (.inr (Nat.le_trans (below_size (pb HB)) hn_))), Or.elim hk_ (fun hs_ => hs_.2.1) (fun hn_ => (Kd.fresh' (Kd.N_lt (pn HO_3)) k_ hn_)), Or.elim hk_ (fun hs_ => hs_.2.2.1) (fun hn_ => (Kd.freshB (g := gb288) (o := .cells #[.int .i64 a0_0, .slice (some ad292) l0_1.length c0_1] 24 (0, 0)) (pk BK288) k_ hn_)), Or.elim hk_ (fun hs_ => hs_.2.2.2) (fun hn_ => (Kd.freshB (g := gb293) (o := .cells #[.int .i64 ((rd_T40 l0_1 x11_1).f0), .slice A292_1 ((rd_T40 l0_1 x11_1).f1).length c292_1] 40 (0, 0)) (pk BK293) k_ hn_))⟩)) (below_size (pb HB))); have n5_ := bb BK288 hb; have n6_ := bb BK293 hb; have n7_ := am (below_step (pb HB) hb); clear HO_3 HO_9 HO_289001 HL292_1 BK288 BK293 HB; have HO_3 := n0_; have HO_9 := n1_; have HO_289001 := n2_; have HL292_1 := n3_; have HO297 := n4_; have BK288 := n5_; have BK293 := n6_; have HB := n7_; clear n0_ n1_ n2_ n3_ n4_ n5_ n6_ n7_; (try clear hb); (try clear hb2); (try clear hk); (try clear hi); (try clear ho0)) | ((with_reducible refine gate_dst (N := 6) rfl ?_); refine box_event ?hg (N := 6) ?hd (cs := #[.int .i64 0, .slice none 0 0]) (t := 40) ?hr ?_; (case hd => rfl); (case hg => rfl); (case hr => first | (go_simp; done) | (go_simp; rfl)); intro gb298 hg w20 hbox hb; have n0_ := am (Kd.N_below (Kd.N_elderB (pn HO_3) gb298 (Nat.le_of_eq hg.symm)) hb); have n1_ := am (Kd.V_below (Kd.V_elderB (pv HO_9) gb298 (Nat.le_of_eq hg.symm)) hb); have n2_ := am (Kd.V_below (Kd.V_elderB (pv HO_289001) gb298 (Nat.le_of_eq hg.symm)) hb); have n3_ := am (Kd.V_below (Kd.V_elderB (pv HL292_1) gb298 (Nat.le_of_eq hg.symm)) hb); have n4_ := am (Kd.V_below (Kd.V_elderB (pv HO297) gb298 (Nat.le_of_eq hg.symm)) hb); have n5_ := bb BK288 hb; have n6_ := bb BK293 hb; have n7_ := am (below_step (pb HB) hb); have n8_ := am (hbox); have n9_ := am ((by rw [hg]; exact (below_size (pb HB)) : w.heap.size ≤ gb298)); have n10_ := am ((by rw [hg]; exact (below_size (pb HB)) : w.heap.size ≤ gb298)); have n11_ := am ((by rw [hg]; exact Nat.ne_of_lt (bl BK288) : gb288 ≠ gb298)); have n12_ := am ((by rw [hg]; exact Nat.ne_of_gt (bl BK288) : gb298 ≠ gb288)); have n13_ := am ((by rw [hg]; exact Nat.ne_of_lt (bl BK293) : gb293 ≠ gb298)); have n14_ := am ((by rw [hg]; exact Nat.ne_of_gt (bl BK293) : gb298 ≠ gb293)); clear HO_3 HO_9 HO_289001 HL292_1 HO297 BK288 BK293 HB; have HO_3 := n0_; have HO_9 := n1_; have HO_289001 := n2_; have HL292_1 := n3_; have HO297 := n4_; have BK288 := n5_; have BK293 := n6_; have HB := n7_; have BK298 := n8_; have GW298 := n9_; have GE298 := n10_; have NB288_298 := n11_; have NB298_288 := n12_; have NB293_298 := n13_; have NB298_293 := n14_; clear n0_ n1_ n2_ n3_ n4_ n5_ n6_ n7_ n8_ n9_ n10_ n11_ n12_ n13_ n14_ hb hbox hg; have hnb21 := NB298_288.out; have hnc21 := NB288_298.out; have hnb22 := NB298_293.out; have hnc22 := NB293_298.out; have hcz23_0 : w20.cell? ⟨gb298, 0, none⟩ = some (.int .i64 0) := (blk_cell BK298.out 0).trans rfl; have hcz23_1 : w20.cell? ⟨gb298, 1, none⟩ = some (.slice none 0 0) := (blk_cell BK298.out 1).trans rfl; have hfz23_0 := blk_frozen BK298.out 0; have hfz23_1 := blk_frozen BK298.out 1; obtain ⟨Ao24, co24, eo24⟩ := Kd.V_slice HO297.out; subst eo24) | ((with_reducible refine gate_callee (f := 31) rfl ?_); refine goesL_ (some 19) rfl rfl Try.func31 (by kernel_rfl) rfl #[.agg #[.int .i64 t294, .slice Ao24 t295.length co24]] rfl (by (try simp only [List.map_toArray, List.map_cons, List.map_nil]); first | done | rfl | (simp only [List.length_drop, List.length_take]; rfl)) ?_; (with_reducible refine (downpourref04_First.calls k1 t294 _ _ t295 t299 _ ?side1 ?side2 A10.out).mono ?_); (case side1 => refine (Kd.V_reads' (e := 48) (base := w.heap.size) (ok := fun k_ => (((P0_1_ k_ ∨ w.heap.size ≤ k_) ∧ (some k_ ≠ (.slice Ao18 x3_1.length co18 : Value).ownBlock ∧ (k_ ≠ gb288 ∧ k_ ≠ gb293))) ∧ k_ ≠ gb298)) (n := t295.length) (c := co24) ?_).2.2; exact (by (with_reducible repeat (first | apply Kd.V_alloc | apply Kd.V_drewN | apply Kd.V_drew)); exact (Kd.V_mono (Kd.V_far (p := ⟨gb298, 1, none⟩) (Kd.V_far (p := ⟨gb298, 0, none⟩) (Kd.V_mono HO297.out (fun k_ hk => (⟨hk, hk.2⟩ : _ ∧ k_ ≠ gb298))) (fun _ hk => hk.2) (.int .i64 t294)) (fun _ hk => hk.2) (.slice Ao24 t295.length co24)) (fun _ h_ => h_.1)))); (case side2 => exact (Kd.V_reads' HO297.out).2.1); rintro e w25 ⟨rfl, hb⟩; refine ⟨_, rfl, ?_⟩; have n0_ := am (Kd.N_below (by (with_reducible repeat (first | apply Kd.N_alloc | apply Kd.N_drewN | apply Kd.N_drew)); exact (Kd.N_mono (Kd.N_far (p := ⟨gb298, 1, none⟩) (Kd.N_far (p := ⟨gb298, 0, none⟩) (Kd.N_mono HO_3.out (fun k_ hk => (⟨hk, hk.2⟩ : _ ∧ k_ ≠ gb298))) (fun _ hk => hk.2) (.int .i64 t294)) (fun _ hk => hk.2) (.slice Ao24 t295.length co24)) (fun _ h_ => h_.1))) hb); have n1_ := am (Kd.V_below (by (with_reducible repeat (first | apply Kd.V_alloc | apply Kd.V_drewN | apply Kd.V_drew)); exact (Kd.V_mono (Kd.V_far (p := ⟨gb298, 1, none⟩) (Kd.V_far (p := ⟨gb298, 0, none⟩) (Kd.V_mono HO_9.out (fun k_ hk => (⟨hk, hk.2⟩ : _ ∧ k_ ≠ gb298))) (fun _ hk => hk.2) (.int .i64 t294)) (fun _ hk => hk.2) (.slice Ao24 t295.length co24)) (fun _ h_ => h_.1))) hb); have n2_ := am (Kd.V_below (by (with_reducible repeat (first | apply Kd.V_alloc | apply Kd.V_drewN | apply Kd.V_drew)); exact (Kd.V_mono (Kd.V_far (p := ⟨gb298, 1, none⟩) (Kd.V_far (p := ⟨gb298, 0, none⟩) (Kd.V_mono HO_289001.out (fun k_ hk => (⟨hk, hk.2⟩ : _ ∧ k_ ≠ gb298))) (fun _ hk => hk.2) (.int .i64 t294)) (fun _ hk => hk.2) (.slice Ao24 t295.length co24)) (fun _ h_ => h_.1))) hb); have n3_ := am (Kd.V_below (by (with_reducible repeat (first | apply Kd.V_alloc | apply Kd.V_drewN | apply Kd.V_drew)); exact (Kd.V_mono (Kd.V_far (p := ⟨gb298, 1, none⟩) (Kd.V_far (p := ⟨gb298, 0, none⟩) (Kd.V_mono HL292_1.out (fun k_ hk => (⟨hk, hk.2⟩ : _ ∧ k_ ≠ gb298))) (fun _ hk => hk.2) (.int .i64 t294)) (fun _ hk => hk.2) (.slice Ao24 t295.length co24)) (fun _ h_ => h_.1))) hb); have n4_ := am (Kd.V_below (by (with_reducible repeat (first | apply Kd.V_alloc | apply Kd.V_drewN | apply Kd.V_drew)); exact (Kd.V_mono (Kd.V_far (p := ⟨gb298, 1, none⟩) (Kd.V_far (p := ⟨gb298, 0, none⟩) (Kd.V_mono HO297.out (fun k_ hk => (⟨hk, hk.2⟩ : _ ∧ k_ ≠ gb298))) (fun _ hk => hk.2) (.int .i64 t294)) (fun _ hk => hk.2) (.slice Ao24 t295.length co24)) (fun _ h_ => h_.1))) hb); have n5_ := am (blk_below (g := gb288) (o := .cells #[.int .i64 a0_0, .slice (some ad292) l0_1.length c0_1] 24 (0, 0)) (by (with_reducible repeat (first | refine blk_drewN ?_ _ | refine blk_drew ?_ | refine blk_alloc ?_ _)); refine blk_far ?_ NB288_298.out _; (with_reducible repeat (first | refine blk_drewN ?_ _ | refine blk_drew ?_ | refine blk_alloc ?_ _)); refine blk_far ?_ NB288_298.out _; (with_reducible repeat (first | refine blk_drewN ?_ _ | refine blk_drew ?_ | refine blk_alloc ?_ _)); exact BK288.out) hb); have n6_ := am (blk_below (g := gb293) (o := .cells #[.int .i64 ((rd_T40 l0_1 x11_1).f0), .slice A292_1 ((rd_T40 l0_1 x11_1).f1).length c292_1] 40 (0, 0)) (by (with_reducible repeat (first | refine blk_drewN ?_ _ | refine blk_drew ?_ | refine blk_alloc ?_ _)); refine blk_far ?_ NB293_298.out _; (with_reducible repeat (first | refine blk_drewN ?_ _ | refine blk_drew ?_ | refine blk_alloc ?_ _)); refine blk_far ?_ NB293_298.out _; (with_reducible repeat (first | refine blk_drewN ?_ _ | refine blk_drew ?_ | refine blk_alloc ?_ _)); exact BK293.out) hb); have n7_ := am (blk_below (g := gb298) (o := .cells #[.int .i64 t294, .slice Ao24 t295.length co24] 40 (0, 0)) (by (with_reducible repeat (first | refine blk_drewN ?_ _ | refine blk_drew ?_ | refine blk_alloc ?_ _)); refine blk_put (cs := #[.int .i64 t294, .slice none 0 0]) ?_ 1 _ rfl; (with_reducible repeat (first | refine blk_drewN ?_ _ | refine blk_drew ?_ | refine blk_alloc ?_ _)); refine blk_put (cs := #[.int .i64 0, .slice none 0 0]) ?_ 0 _ rfl; (with_reducible repeat (first | refine blk_drewN ?_ _ | refine blk_drew ?_ | refine blk_alloc ?_ _)); exact BK298.out) hb); have n8_ := am (below_step (pb HB) hb); clear HO_3 HO_9 HO_289001 HL292_1 HO297 BK288 BK293 BK298 HB; have HO_3 := n0_; have HO_9 := n1_; have HO_289001 := n2_; have HL292_1 := n3_; have HO297 := n4_; have BK288 := n5_; have BK293 := n6_; have BK298 := n7_; have HB := n8_; clear n0_ n1_ n2_ n3_ n4_ n5_ n6_ n7_ n8_; (try clear hb); (try clear hb2); (try clear hk); (try clear hi); have hcz26_0 : w25.cell? ⟨gb298, 0, none⟩ = some (.int .i64 t294) := (blk_cell BK298.out 0).trans rfl; have hcz26_1 : w25.cell? ⟨gb298, 1, none⟩ = some (.slice Ao24 t295.length co24) := (blk_cell BK298.out 1).trans rfl; have hfz26_0 := blk_frozen BK298.out 0; have hfz26_1 := blk_frozen BK298.out 1) | ((with_reducible refine gate_callee (f := 32) rfl ?_); refine goesL_ (some 23) rfl rfl Try.func32 (by kernel_rfl) rfl #[.slice Ao18 x3_1.length co18, .agg #[.int .i64 t294, .slice Ao24 t295.length co24]] rfl (by (try simp only [List.map_toArray, List.map_cons, List.map_nil]); first | done | rfl | (simp only [List.length_drop, List.length_take]; rfl)) ?_; (with_reducible refine (downpourref04_with.calls k1 (fun k_ => (((P0_1_ k_ ∨ w.heap.size ≤ k_) ∧ (k_ ≠ gb288 ∧ k_ ≠ gb293)) ∧ k_ ≠ gb298)) _ _ x3_1 t294 (fun k_ => (((P0_1_ k_ ∨ w.heap.size ≤ k_) ∧ (some k_ ≠ (.slice Ao18 x3_1.length co18 : Value).ownBlock ∧ (k_ ≠ gb288 ∧ k_ ≠ gb293))) ∧ k_ ≠ gb298)) _ _ t295 t300 _ ?side1 ?side2 A12.out).mono ?_); (case side1 => exact Kd.N_V (HO_3.out)); (case side2 => exact HO297.out); rintro e w27 ⟨v301, rfl, ho0, hb⟩; refine ⟨_, rfl, ?_⟩; have n0_ := am (Kd.N_elder' (pn HO_3) (by first | exact Kd.N_base ho0 | exact Kd.S_base ho0 | exact Kd.R_base ho0) hb); have n1_ := am (Kd.V_elder' (pv HO_9) (by first | exact Kd.N_base ho0 | exact Kd.S_base ho0 | exact Kd.R_base ho0) hb); have n2_ := am (Kd.V_elder' (pv HO_289001) (by first | exact Kd.N_base ho0 | exact Kd.S_base ho0 | exact Kd.R_base ho0) hb); have n3_ := am (Kd.V_elder' (pv HL292_1) (by first | exact Kd.N_base ho0 | exact Kd.S_base ho0 | exact Kd.R_base ho0) hb); have n4_ := am (Kd.V_elder' (pv HO297) (by first | exact Kd.N_base ho0 | exact Kd.S_base ho0 | exact Kd.R_base ho0) hb); have n5_ := am (Kd.N_lower (Kd.N_mono (ok' := fun k_ => (P0_1_ k_ ∨ w.heap.size ≤ k_) ∧ k_ ≠ gb288 ∧ k_ ≠ gb293 ∧ k_ ≠ gb298) ho0 (fun k_ hk_ => ⟨Or.elim hk_ (fun hs_ => Or.elim hs_ (fun hs_ => hs_.1.1) (fun hs_ => hs_.1.1)) (fun hn_ => (.inr (Nat.le_trans (below_size (pb HB)) hn_))), Or.elim hk_ (fun hs_ => Or.elim hs_ (fun hs_ => hs_.1.2.1) (fun hs_ => hs_.1.2.2.1)) (fun hn_ => (Kd.freshB (g := gb288) (o := .cells #[.int .i64 a0_0, .slice (some ad292) l0_1.length c0_1] 24 (0, 0)) (pk BK288) k_ hn_)), Or.elim hk_ (fun hs_ => Or.elim hs_ (fun hs_ => hs_.1.2.2) (fun hs_ => hs_.1.2.2.2)) (fun hn_ => (Kd.freshB (g := gb293) (o := .cells #[.int .i64 ((rd_T40 l0_1 x11_1).f0), .slice A292_1 ((rd_T40 l0_1 x11_1).f1).length c292_1] 40 (0, 0)) (pk BK293) k_ hn_)), Or.elim hk_ (fun hs_ => Or.elim hs_ (fun hs_ => hs_.2) (fun hs_ => hs_.2)) (fun hn_ => (Kd.freshB (g := gb298) (o := .cells #[.int .i64 t294, .slice Ao24 t295.length co24] 40 (0, 0)) (pk BK298) k_ hn_))⟩)) (below_size (pb HB))); have n6_ := bb BK288 hb; have n7_ := bb BK293 hb; have n8_ := bb BK298 hb; have n9_ := am (below_step (pb HB) hb); clear HO_3 HO_9 HO_289001 HL292_1 HO297 BK288 BK293 BK298 HB; have HO_3 := n0_; have HO_9 := n1_; have HO_289001 := n2_; have HL292_1 := n3_; have HO297 := n4_; have HO302 := n5_; have BK288 := n6_; have BK293 := n7_; have BK298 := n8_; have HB := n9_; clear n0_ n1_ n2_ n3_ n4_ n5_ n6_ n7_ n8_ n9_; (try clear hb); (try clear hb2); (try clear hk); (try clear hi); (try clear ho0)))
       go_roundg k1
       case measure => have := HK1.out; omega
       case rel => exact ⟨(t300), (wrap64 (x11_1 + 1)), (by first | rfl | (simp; done) | (simp [*]; done)), H', ⟨by have := HK1.out; omega⟩, ⟨by (with_reducible repeat (first | apply Kd.N_alloc | apply Kd.N_drewN | apply Kd.N_drew)); exact Kd.N_mono HO302.out (fun _ hk => ⟨hk.1, hk.2.1⟩)⟩, ⟨by (with_reducible repeat (first | apply Kd.V_alloc | apply Kd.V_drewN | apply Kd.V_drew)); exact Kd.V_mono HO_9.out (fun _ hk => ⟨hk.1.1.1, ⟨hk.2, hk.1.1.2.2.1⟩⟩)⟩, ⟨by (with_reducible repeat (first | apply Kd.V_alloc | apply Kd.V_drewN | apply Kd.V_drew)); exact Kd.V_mono HO_289001.out (fun _ hk => ⟨hk.1.1.1, ⟨hk.2, hk.1.1.2.2.1⟩⟩)⟩, ⟨by (with_reducible repeat (first | refine blk_drewN ?_ _ | refine blk_drew ?_ | refine blk_alloc ?_ _)); exact BK288.out⟩, ⟨pb HB⟩⟩
      ·
       rw [if_neg c11] at H
       have c11b0 : decide (0 ≤ t299) = false := decide_eq_false c11
       clear c11
       have H' := Aside0.mk H
       clear H
       have p292 : 0 ≤ (x11_1 : Int) := of_decide_eq_true (by first | (with_reducible assumption) | assumption)
       have q292 : x11_1 < (l0_1.length : Int) := of_decide_eq_true (by first | (with_reducible assumption) | assumption)
       obtain ⟨ad292, A292_1, c292_1, e292, hx292_0, hx292_1, hl292_1, hi292_1⟩ := at_T40 (Kd.V_reads' HO_9.out).2.2 x11_1 p292 q292
       cases e292
       obtain ⟨ce292, hce292, hMe292, hcc292⟩ := Kd.V_get HO_9.out z40 x11_1 p292 (by first | exact q292 | exact of_decide_eq_true (by first | (with_reducible assumption) | assumption) | (have e_ := (Kd.V_reads' HO_9.out).1; omega))
       obtain ⟨ua292_1, uc292_1, rfl, ul292_1, ge292_1⟩ := k40_openF hMe292
       have hv292_1 := hcc292 1 _ rfl
       rw [add_field _ _ 1 (by omega)] at hv292_1
       replace hv292_1 := Option.some.inj (hv292_1.symm.trans hx292_1)
       injection hv292_1 with hva_ hvn_ hvc_
       rw [hva_] at ge292_1
       rw [hvc_] at ul292_1
       have HL292_1 := am (show Kd.V (Kd.int .u64) 48 _ w.heap.size _ _ ((rd_T40 l0_1 x11_1).f1) from Kd.V_mk ul292_1 ge292_1)
       clear hva_ hvn_ hvc_ ge292_1 ul292_1
       clear hcc292 hce292
       have HR292_1 := Aside0.mk hi292_1
       have HC292_1 := Aside0.mk hl292_1
       clear hi292_1 hl292_1
       replace p292 := eq_true p292
       replace q292 := eq_true q292
       go_wp2_with (first | ((with_reducible refine gate_dst (N := 5) rfl ?_); refine box_event ?hg (N := 5) ?hd (cs := #[.int .i64 0, .slice none 0 0]) (t := 40) ?hr ?_; (case hd => rfl); (case hg => rfl); (case hr => first | (go_simp; done) | (go_simp; rfl)); intro gb293 hg w28 hbox hb; have n0_ := am (Kd.N_below (Kd.N_elderB (pn HO_3) gb293 (Nat.le_of_eq hg.symm)) hb); have n1_ := am (Kd.V_below (Kd.V_elderB (pv HO_9) gb293 (Nat.le_of_eq hg.symm)) hb); have n2_ := am (Kd.V_below (Kd.V_elderB (pv HO_289001) gb293 (Nat.le_of_eq hg.symm)) hb); have n3_ := am (Kd.V_below (Kd.V_elderB (pv HL292_1) gb293 (Nat.le_of_eq hg.symm)) hb); have n4_ := bb BK288 hb; have n5_ := am (Kd.C_below (by repeat (first | (with_reducible exact HR292_1.out) | (with_reducible refine Kd.C_alloc ?_ _) | (with_reducible refine Kd.C_drewN ?_ _) | (with_reducible refine Kd.C_drew ?_) | exact HR292_1.out)) hb); have n6_ := am (below_step (pb HB) hb); have n7_ := am (hbox); have n8_ := am ((by rw [hg]; exact (below_size (pb HB)) : w.heap.size ≤ gb293)); have n9_ := am ((by rw [hg]; exact (below_size (pb HB)) : w.heap.size ≤ gb293)); have n10_ := am ((by rw [hg]; exact Nat.ne_of_lt (bl BK288) : gb288 ≠ gb293)); have n11_ := am ((by rw [hg]; exact Nat.ne_of_gt (bl BK288) : gb293 ≠ gb288)); clear HO_3 HO_9 HO_289001 HL292_1 BK288 HR292_1 HB; have HO_3 := n0_; have HO_9 := n1_; have HO_289001 := n2_; have HL292_1 := n3_; have BK288 := n4_; have HR292_1 := n5_; have HB := n6_; have BK293 := n7_; have GW293 := n8_; have GE293 := n9_; have NB288_293 := n10_; have NB293_288 := n11_; clear n0_ n1_ n2_ n3_ n4_ n5_ n6_ n7_ n8_ n9_ n10_ n11_ hb hbox hg; have hnb29 := NB293_288.out; have hnc29 := NB288_293.out; have hcz30_0 : w28.cell? ⟨gb293, 0, none⟩ = some (.int .i64 0) := (blk_cell BK293.out 0).trans rfl; have hcz30_1 : w28.cell? ⟨gb293, 1, none⟩ = some (.slice none 0 0) := (blk_cell BK293.out 1).trans rfl; have hfz30_0 := blk_frozen BK293.out 0; have hfz30_1 := blk_frozen BK293.out 1) | ((with_reducible refine gate_store (t := 40) (p := 5) rfl ?_); refine store_event (t := 40) (p := 5) (v := ?vo_w31) (w1 := ((w28.setCell ⟨gb293, 0, none⟩ (.int .i64 ((rd_T40 l0_1 x11_1).f0))).setCell ⟨gb293, 1, none⟩ (.slice A292_1 ((rd_T40 l0_1 x11_1).f1).length c292_1))) ?hg ?ho ?hn ?hr ?_; (case ho => rfl); (case hg => rfl); (case hn => rfl); (case hr => first | (go_simp; done) | (go_simp; rfl)); intro w31 hw; have n0_ : Aside0 (Kd.N k40 40 w31 w.heap.size (fun k_ => (P0_1_ k_ ∨ w.heap.size ≤ k_) ∧ k_ ≠ gb288 ∧ k_ ≠ gb293) u3 x3_1) := ⟨(by rw [hw]; exact (by (with_reducible repeat (first | apply Kd.N_alloc | apply Kd.N_drewN | apply Kd.N_drew)); exact Kd.N_mono (Kd.N_far (p := ⟨gb293, 1, none⟩) (Kd.N_far (p := ⟨gb293, 0, none⟩) (Kd.N_mono HO_3.out (fun k_ hk => (⟨hk, hk.2⟩ : _ ∧ k_ ≠ gb293))) (fun _ hk => hk.2) (.int .i64 ((rd_T40 l0_1 x11_1).f0))) (fun _ hk => hk.2) (.slice A292_1 ((rd_T40 l0_1 x11_1).f1).length c292_1)) (fun _ hk => ⟨hk.1.1.1, ⟨hk.1.1.2, hk.1.2⟩⟩)))⟩; have n1_ : Aside0 (Kd.V k40 40 w31 w.heap.size (fun k_ => (P0_1_ k_ ∨ w.heap.size ≤ k_) ∧ some k_ ≠ (u3 : Value).ownBlock ∧ k_ ≠ gb288 ∧ k_ ≠ gb293) (.slice (some ad292) l0_1.length c0_1) l0_1) := ⟨(by rw [hw]; exact (by (with_reducible repeat (first | apply Kd.V_alloc | apply Kd.V_drewN | apply Kd.V_drew)); exact Kd.V_mono (Kd.V_far (p := ⟨gb293, 1, none⟩) (Kd.V_far (p := ⟨gb293, 0, none⟩) (Kd.V_mono HO_9.out (fun k_ hk => (⟨hk, hk.2⟩ : _ ∧ k_ ≠ gb293))) (fun _ hk => hk.2) (.int .i64 ((rd_T40 l0_1 x11_1).f0))) (fun _ hk => hk.2) (.slice A292_1 ((rd_T40 l0_1 x11_1).f1).length c292_1)) (fun _ hk => ⟨hk.1.1.1, ⟨hk.1.1.2.1, ⟨hk.1.1.2.2, hk.1.2⟩⟩⟩)))⟩; have n2_ : Aside0 (Kd.V k40 40 w31 w.heap.size (fun k_ => (P0_1_ k_ ∨ w.heap.size ≤ k_) ∧ some k_ ≠ (u3 : Value).ownBlock ∧ k_ ≠ gb288 ∧ k_ ≠ gb293) (.slice (some ad292) l0_1.length c0_1) l0_1) := ⟨(by rw [hw]; exact (by (with_reducible repeat (first | apply Kd.V_alloc | apply Kd.V_drewN | apply Kd.V_drew)); exact Kd.V_mono (Kd.V_far (p := ⟨gb293, 1, none⟩) (Kd.V_far (p := ⟨gb293, 0, none⟩) (Kd.V_mono HO_289001.out (fun k_ hk => (⟨hk, hk.2⟩ : _ ∧ k_ ≠ gb293))) (fun _ hk => hk.2) (.int .i64 ((rd_T40 l0_1 x11_1).f0))) (fun _ hk => hk.2) (.slice A292_1 ((rd_T40 l0_1 x11_1).f1).length c292_1)) (fun _ hk => ⟨hk.1.1.1, ⟨hk.1.1.2.1, ⟨hk.1.1.2.2, hk.1.2⟩⟩⟩)))⟩; have n3_ : Aside0 (Kd.V (Kd.int .u64) 48 w31 w.heap.size (fun k_ => (P0_1_ k_ ∨ w.heap.size ≤ k_) ∧ some k_ ≠ (u3 : Value).ownBlock ∧ k_ ≠ gb288 ∧ k_ ≠ gb293) (.slice A292_1 ((rd_T40 l0_1 x11_1).f1).length c292_1) ((rd_T40 l0_1 x11_1).f1)) := ⟨(by rw [hw]; exact (by (with_reducible repeat (first | apply Kd.V_alloc | apply Kd.V_drewN | apply Kd.V_drew)); exact Kd.V_mono (Kd.V_far (p := ⟨gb293, 1, none⟩) (Kd.V_far (p := ⟨gb293, 0, none⟩) (Kd.V_mono HL292_1.out (fun k_ hk => (⟨hk, hk.2⟩ : _ ∧ k_ ≠ gb293))) (fun _ hk => hk.2) (.int .i64 ((rd_T40 l0_1 x11_1).f0))) (fun _ hk => hk.2) (.slice A292_1 ((rd_T40 l0_1 x11_1).f1).length c292_1)) (fun _ hk => ⟨hk.1.1.1, ⟨hk.1.1.2.1, ⟨hk.1.1.2.2, hk.1.2⟩⟩⟩)))⟩; have n4_ : Aside0 (w31.heap[gb288]? = some (.cells #[.int .i64 a0_0, .slice (some ad292) l0_1.length c0_1] 24 (0, 0))) := ⟨(by rw [hw]; exact (by (with_reducible repeat (first | refine blk_drewN ?_ _ | refine blk_drew ?_ | refine blk_alloc ?_ _)); refine blk_far ?_ NB288_293.out _; (with_reducible repeat (first | refine blk_drewN ?_ _ | refine blk_drew ?_ | refine blk_alloc ?_ _)); refine blk_far ?_ NB288_293.out _; (with_reducible repeat (first | refine blk_drewN ?_ _ | refine blk_drew ?_ | refine blk_alloc ?_ _)); exact BK288.out))⟩; have n5_ : Aside0 (w31.heap[gb293]? = some (.cells #[.int .i64 ((rd_T40 l0_1 x11_1).f0), .slice A292_1 ((rd_T40 l0_1 x11_1).f1).length c292_1] 40 (0, 0))) := ⟨(by rw [hw]; exact (by (with_reducible repeat (first | refine blk_drewN ?_ _ | refine blk_drew ?_ | refine blk_alloc ?_ _)); refine blk_put (cs := #[.int .i64 ((rd_T40 l0_1 x11_1).f0), .slice none 0 0]) ?_ 1 _ rfl; (with_reducible repeat (first | refine blk_drewN ?_ _ | refine blk_drew ?_ | refine blk_alloc ?_ _)); refine blk_put (cs := #[.int .i64 0, .slice none 0 0]) ?_ 0 _ rfl; (with_reducible repeat (first | refine blk_drewN ?_ _ | refine blk_drew ?_ | refine blk_alloc ?_ _)); exact BK293.out))⟩; have n6_ : Aside0 (Below w.heap.size w w31) := ⟨(by rw [hw]; exact (pb HB))⟩; clear hw HO_3 HO_9 HO_289001 HL292_1 BK288 BK293 HB; have HO_3 := n0_; have HO_9 := n1_; have HO_289001 := n2_; have HL292_1 := n3_; have BK288 := n4_; have BK293 := n5_; have HB := n6_; clear n0_ n1_ n2_ n3_ n4_ n5_ n6_; have hcz32_0 : w31.cell? ⟨gb293, 0, none⟩ = some (.int .i64 ((rd_T40 l0_1 x11_1).f0)) := (blk_cell BK293.out 0).trans rfl; have hcz32_1 : w31.cell? ⟨gb293, 1, none⟩ = some (.slice A292_1 ((rd_T40 l0_1 x11_1).f1).length c292_1) := (blk_cell BK293.out 1).trans rfl; have hfz32_0 := blk_frozen BK293.out 0; have hfz32_1 := blk_frozen BK293.out 1; obtain ⟨Ao33, co33, eo33⟩ := Kd.N_slice HO_3.out; subst eo33) | ((with_reducible refine gate_callee (f := 30) rfl ?_); refine goesL_ (some 17) rfl rfl Try.func30 (by kernel_rfl) rfl #[.slice Ao33 x3_1.length co33, .agg #[.int .i64 ((rd_T40 l0_1 x11_1).f0), .slice A292_1 ((rd_T40 l0_1 x11_1).f1).length c292_1]] rfl (by (try simp only [List.map_toArray, List.map_cons, List.map_nil]); first | done | rfl | (simp only [List.length_drop, List.length_take]; rfl)) ?_; (with_reducible refine (downpourref04_Left.calls k1 _ _ x3_1 ((rd_T40 l0_1 x11_1).f0) (fun k_ => ((P0_1_ k_ ∨ w.heap.size ≤ k_) ∧ (some k_ ≠ (.slice Ao33 x3_1.length co33 : Value).ownBlock ∧ (k_ ≠ gb288 ∧ k_ ≠ gb293)))) _ _ ((rd_T40 l0_1 x11_1).f1) t294 t295 _ ?side1 ?side2 ?side3 A9.out).mono ?_); (case side1 => repeat (first | exact (Kd.N_reads' HO_3.out).2.2 | (with_reducible refine Kd.C_alloc ?_ _) | (with_reducible refine Kd.C_drewN ?_ _) | (with_reducible refine Kd.C_drew ?_))); (case side2 => exact (Kd.N_reads' HO_3.out).2.1); (case side3 => exact HL292_1.out); rintro e w34 ⟨v296, rfl, ho0, hb⟩; refine ⟨_, rfl, ?_⟩; have n0_ := am (Kd.N_below (pn HO_3) hb); have n1_ := am (Kd.V_below (pv HO_9) hb); have n2_ := am (Kd.V_below (pv HO_289001) hb); have n3_ := am (Kd.V_below (pv HL292_1) hb); have n4_ := am (Kd.V_lower (Kd.V_mono (ok' := fun k_ => (P0_1_ k_ ∨ w.heap.size ≤ k_) ∧ some k_ ≠ (.slice Ao33 x3_1.length co33 : Value).ownBlock ∧ k_ ≠ gb288 ∧ k_ ≠ gb293) ho0 (fun k_ hk_ => ⟨Or.elim hk_ (fun hs_ => hs_.1) (fun hn_ => (.inr (Nat.le_trans (below_size (pb HB)) hn_))), Or.elim hk_ (fun hs_ => hs_.2.1) (fun hn_ => (Kd.fresh' (Kd.N_lt (pn HO_3)) k_ hn_)), Or.elim hk_ (fun hs_ => hs_.2.2.1) (fun hn_ => (Kd.freshB (g := gb288) (o := .cells #[.int .i64 a0_0, .slice (some ad292) l0_1.length c0_1] 24 (0, 0)) (pk BK288) k_ hn_)), Or.elim hk_ (fun hs_ => hs_.2.2.2) (fun hn_ => (Kd.freshB (g := gb293) (o := .cells #[.int .i64 ((rd_T40 l0_1 x11_1).f0), .slice A292_1 ((rd_T40 l0_1 x11_1).f1).length c292_1] 40 (0, 0)) (pk BK293) k_ hn_))⟩)) (below_size (pb HB))); have n5_ := bb BK288 hb; have n6_ := bb BK293 hb; have n7_ := am (below_step (pb HB) hb); clear HO_3 HO_9 HO_289001 HL292_1 BK288 BK293 HB; have HO_3 := n0_; have HO_9 := n1_; have HO_289001 := n2_; have HL292_1 := n3_; have HO297 := n4_; have BK288 := n5_; have BK293 := n6_; have HB := n7_; clear n0_ n1_ n2_ n3_ n4_ n5_ n6_ n7_; (try clear hb); (try clear hb2); (try clear hk); (try clear hi); (try clear ho0)) | ((with_reducible refine gate_dst (N := 6) rfl ?_); refine box_event ?hg (N := 6) ?hd (cs := #[.int .i64 0, .slice none 0 0]) (t := 40) ?hr ?_; (case hd => rfl); (case hg => rfl); (case hr => first | (go_simp; done) | (go_simp; rfl)); intro gb298 hg w35 hbox hb; have n0_ := am (Kd.N_below (Kd.N_elderB (pn HO_3) gb298 (Nat.le_of_eq hg.symm)) hb); have n1_ := am (Kd.V_below (Kd.V_elderB (pv HO_9) gb298 (Nat.le_of_eq hg.symm)) hb); have n2_ := am (Kd.V_below (Kd.V_elderB (pv HO_289001) gb298 (Nat.le_of_eq hg.symm)) hb); have n3_ := am (Kd.V_below (Kd.V_elderB (pv HL292_1) gb298 (Nat.le_of_eq hg.symm)) hb); have n4_ := am (Kd.V_below (Kd.V_elderB (pv HO297) gb298 (Nat.le_of_eq hg.symm)) hb); have n5_ := bb BK288 hb; have n6_ := bb BK293 hb; have n7_ := am (below_step (pb HB) hb); have n8_ := am (hbox); have n9_ := am ((by rw [hg]; exact (below_size (pb HB)) : w.heap.size ≤ gb298)); have n10_ := am ((by rw [hg]; exact (below_size (pb HB)) : w.heap.size ≤ gb298)); have n11_ := am ((by rw [hg]; exact Nat.ne_of_lt (bl BK288) : gb288 ≠ gb298)); have n12_ := am ((by rw [hg]; exact Nat.ne_of_gt (bl BK288) : gb298 ≠ gb288)); have n13_ := am ((by rw [hg]; exact Nat.ne_of_lt (bl BK293) : gb293 ≠ gb298)); have n14_ := am ((by rw [hg]; exact Nat.ne_of_gt (bl BK293) : gb298 ≠ gb293)); clear HO_3 HO_9 HO_289001 HL292_1 HO297 BK288 BK293 HB; have HO_3 := n0_; have HO_9 := n1_; have HO_289001 := n2_; have HL292_1 := n3_; have HO297 := n4_; have BK288 := n5_; have BK293 := n6_; have HB := n7_; have BK298 := n8_; have GW298 := n9_; have GE298 := n10_; have NB288_298 := n11_; have NB298_288 := n12_; have NB293_298 := n13_; have NB298_293 := n14_; clear n0_ n1_ n2_ n3_ n4_ n5_ n6_ n7_ n8_ n9_ n10_ n11_ n12_ n13_ n14_ hb hbox hg; have hnb36 := NB298_288.out; have hnc36 := NB288_298.out; have hnb37 := NB298_293.out; have hnc37 := NB293_298.out; have hcz38_0 : w35.cell? ⟨gb298, 0, none⟩ = some (.int .i64 0) := (blk_cell BK298.out 0).trans rfl; have hcz38_1 : w35.cell? ⟨gb298, 1, none⟩ = some (.slice none 0 0) := (blk_cell BK298.out 1).trans rfl; have hfz38_0 := blk_frozen BK298.out 0; have hfz38_1 := blk_frozen BK298.out 1; obtain ⟨Ao39, co39, eo39⟩ := Kd.V_slice HO297.out; subst eo39) | ((with_reducible refine gate_callee (f := 31) rfl ?_); refine goesL_ (some 19) rfl rfl Try.func31 (by kernel_rfl) rfl #[.agg #[.int .i64 t294, .slice Ao39 t295.length co39]] rfl (by (try simp only [List.map_toArray, List.map_cons, List.map_nil]); first | done | rfl | (simp only [List.length_drop, List.length_take]; rfl)) ?_; (with_reducible refine (downpourref04_First.calls k1 t294 _ _ t295 t299 _ ?side1 ?side2 A10.out).mono ?_); (case side1 => refine (Kd.V_reads' (e := 48) (base := w.heap.size) (ok := fun k_ => (((P0_1_ k_ ∨ w.heap.size ≤ k_) ∧ (some k_ ≠ (.slice Ao33 x3_1.length co33 : Value).ownBlock ∧ (k_ ≠ gb288 ∧ k_ ≠ gb293))) ∧ k_ ≠ gb298)) (n := t295.length) (c := co39) ?_).2.2; exact (by (with_reducible repeat (first | apply Kd.V_alloc | apply Kd.V_drewN | apply Kd.V_drew)); exact (Kd.V_mono (Kd.V_far (p := ⟨gb298, 1, none⟩) (Kd.V_far (p := ⟨gb298, 0, none⟩) (Kd.V_mono HO297.out (fun k_ hk => (⟨hk, hk.2⟩ : _ ∧ k_ ≠ gb298))) (fun _ hk => hk.2) (.int .i64 t294)) (fun _ hk => hk.2) (.slice Ao39 t295.length co39)) (fun _ h_ => h_.1)))); (case side2 => exact (Kd.V_reads' HO297.out).2.1); rintro e w40 ⟨rfl, hb⟩; refine ⟨_, rfl, ?_⟩; have n0_ := am (Kd.N_below (by (with_reducible repeat (first | apply Kd.N_alloc | apply Kd.N_drewN | apply Kd.N_drew)); exact (Kd.N_mono (Kd.N_far (p := ⟨gb298, 1, none⟩) (Kd.N_far (p := ⟨gb298, 0, none⟩) (Kd.N_mono HO_3.out (fun k_ hk => (⟨hk, hk.2⟩ : _ ∧ k_ ≠ gb298))) (fun _ hk => hk.2) (.int .i64 t294)) (fun _ hk => hk.2) (.slice Ao39 t295.length co39)) (fun _ h_ => h_.1))) hb); have n1_ := am (Kd.V_below (by (with_reducible repeat (first | apply Kd.V_alloc | apply Kd.V_drewN | apply Kd.V_drew)); exact (Kd.V_mono (Kd.V_far (p := ⟨gb298, 1, none⟩) (Kd.V_far (p := ⟨gb298, 0, none⟩) (Kd.V_mono HO_9.out (fun k_ hk => (⟨hk, hk.2⟩ : _ ∧ k_ ≠ gb298))) (fun _ hk => hk.2) (.int .i64 t294)) (fun _ hk => hk.2) (.slice Ao39 t295.length co39)) (fun _ h_ => h_.1))) hb); have n2_ := am (Kd.V_below (by (with_reducible repeat (first | apply Kd.V_alloc | apply Kd.V_drewN | apply Kd.V_drew)); exact (Kd.V_mono (Kd.V_far (p := ⟨gb298, 1, none⟩) (Kd.V_far (p := ⟨gb298, 0, none⟩) (Kd.V_mono HO_289001.out (fun k_ hk => (⟨hk, hk.2⟩ : _ ∧ k_ ≠ gb298))) (fun _ hk => hk.2) (.int .i64 t294)) (fun _ hk => hk.2) (.slice Ao39 t295.length co39)) (fun _ h_ => h_.1))) hb); have n3_ := am (Kd.V_below (by (with_reducible repeat (first | apply Kd.V_alloc | apply Kd.V_drewN | apply Kd.V_drew)); exact (Kd.V_mono (Kd.V_far (p := ⟨gb298, 1, none⟩) (Kd.V_far (p := ⟨gb298, 0, none⟩) (Kd.V_mono HL292_1.out (fun k_ hk => (⟨hk, hk.2⟩ : _ ∧ k_ ≠ gb298))) (fun _ hk => hk.2) (.int .i64 t294)) (fun _ hk => hk.2) (.slice Ao39 t295.length co39)) (fun _ h_ => h_.1))) hb); have n4_ := am (Kd.V_below (by (with_reducible repeat (first | apply Kd.V_alloc | apply Kd.V_drewN | apply Kd.V_drew)); exact (Kd.V_mono (Kd.V_far (p := ⟨gb298, 1, none⟩) (Kd.V_far (p := ⟨gb298, 0, none⟩) (Kd.V_mono HO297.out (fun k_ hk => (⟨hk, hk.2⟩ : _ ∧ k_ ≠ gb298))) (fun _ hk => hk.2) (.int .i64 t294)) (fun _ hk => hk.2) (.slice Ao39 t295.length co39)) (fun _ h_ => h_.1))) hb); have n5_ := am (blk_below (g := gb288) (o := .cells #[.int .i64 a0_0, .slice (some ad292) l0_1.length c0_1] 24 (0, 0)) (by (with_reducible repeat (first | refine blk_drewN ?_ _ | refine blk_drew ?_ | refine blk_alloc ?_ _)); refine blk_far ?_ NB288_298.out _; (with_reducible repeat (first | refine blk_drewN ?_ _ | refine blk_drew ?_ | refine blk_alloc ?_ _)); refine blk_far ?_ NB288_298.out _; (with_reducible repeat (first | refine blk_drewN ?_ _ | refine blk_drew ?_ | refine blk_alloc ?_ _)); exact BK288.out) hb); have n6_ := am (blk_below (g := gb293) (o := .cells #[.int .i64 ((rd_T40 l0_1 x11_1).f0), .slice A292_1 ((rd_T40 l0_1 x11_1).f1).length c292_1] 40 (0, 0)) (by (with_reducible repeat (first | refine blk_drewN ?_ _ | refine blk_drew ?_ | refine blk_alloc ?_ _)); refine blk_far ?_ NB293_298.out _; (with_reducible repeat (first | refine blk_drewN ?_ _ | refine blk_drew ?_ | refine blk_alloc ?_ _)); refine blk_far ?_ NB293_298.out _; (with_reducible repeat (first | refine blk_drewN ?_ _ | refine blk_drew ?_ | refine blk_alloc ?_ _)); exact BK293.out) hb); have n7_ := am (blk_below (g := gb298) (o := .cells #[.int .i64 t294, .slice Ao39 t295.length co39] 40 (0, 0)) (by (with_reducible repeat (first | refine blk_drewN ?_ _ | refine blk_drew ?_ | refine blk_alloc ?_ _)); refine blk_put (cs := #[.int .i64 t294, .slice none 0 0]) ?_ 1 _ rfl; (with_reducible repeat (first | refine blk_drewN ?_ _ | refine blk_drew ?_ | refine blk_alloc ?_ _)); refine blk_put (cs := #[.int .i64 0, .slice none 0 0]) ?_ 0 _ rfl; (with_reducible repeat (first | refine blk_drewN ?_ _ | refine blk_drew ?_ | refine blk_alloc ?_ _)); exact BK298.out) hb); have n8_ := am (below_step (pb HB) hb); clear HO_3 HO_9 HO_289001 HL292_1 HO297 BK288 BK293 BK298 HB; have HO_3 := n0_; have HO_9 := n1_; have HO_289001 := n2_; have HL292_1 := n3_; have HO297 := n4_; have BK288 := n5_; have BK293 := n6_; have BK298 := n7_; have HB := n8_; clear n0_ n1_ n2_ n3_ n4_ n5_ n6_ n7_ n8_; (try clear hb); (try clear hb2); (try clear hk); (try clear hi)))
       go_roundg k1
       case measure => have := HK1.out; omega
       case rel => exact ⟨(x3_1), (wrap64 (x11_1 + 1)), (by first | rfl | (simp; done) | (simp [*]; done)), H', ⟨by have := HK1.out; omega⟩, ⟨by (with_reducible repeat (first | apply Kd.N_alloc | apply Kd.N_drewN | apply Kd.N_drew)); exact Kd.N_mono HO_3.out (fun _ hk => ⟨hk.1.1, hk.1.2.1⟩)⟩, ⟨by (with_reducible repeat (first | apply Kd.V_alloc | apply Kd.V_drewN | apply Kd.V_drew)); exact Kd.V_mono HO_9.out (fun _ hk => ⟨hk.1.1, ⟨hk.1.2.1, hk.1.2.2.1⟩⟩)⟩, ⟨by (with_reducible repeat (first | apply Kd.V_alloc | apply Kd.V_drewN | apply Kd.V_drew)); exact Kd.V_mono HO_289001.out (fun _ hk => ⟨hk.1.1, ⟨hk.1.2.1, hk.1.2.2.1⟩⟩)⟩, ⟨by (with_reducible repeat (first | refine blk_drewN ?_ _ | refine blk_drew ?_ | refine blk_alloc ?_ _)); exact BK288.out⟩, ⟨pb HB⟩⟩
     ·
      rw [if_neg c8] at H
      exact absurd H (by simp)
    ·
     rw [if_neg c7] at H
     exact absurd H (by simp)
   ·
    rw [if_neg c6] at H
    have c6b0 : decide (x11_1 < (l0_1.length : Int)) = false := decide_eq_false c6
    clear c6
    obtain rfl := Option.some.inj H
    go_wp2
    go_ret
    exact ⟨_, by first | rfl | (simp [errW_none, errW_some] <;> rfl) | (simp [*, errW_none, errW_some] <;> rfl), by (with_reducible repeat (first | apply Kd.N_alloc | apply Kd.N_drewN | apply Kd.N_drew)); exact Kd.N_mono HO_3.out (fun _ hk => hk.1), pb HB⟩

/-! ### downpourref04_Spans: function 19 -/
def downpourref04_Spans.f (k : Nat) (a0_0 : Int) (l0_1 : List (S40)) (a1_0 : Int) (l1_1 : List Int) : Option (Bool) := (downpourref04_Echelon.f k a0_0 l0_1).bind fun t305 => ((downpourref04_Left.f k t305 a1_0 l1_1).bind fun bt308 => ((downpourref04_First.f k bt308.1 bt308.2).bind fun t312 => (some (decide (t312 < 0)))))
theorem downpourref04_Spans.mono : ∀ a0 a1 a2 a3 k, LeO (downpourref04_Spans.f k a0 a1 a2 a3) (downpourref04_Spans.f (k + 1) a0 a1 a2 a3) := by
 intro a0 a1 a2 a3 k
 unfold downpourref04_Spans.f
 repeat' first
   | (with_reducible exact downpourref04_Echelon.mono _ _ _)
   | (with_reducible exact downpourref04_First.mono _ _ _)
   | (with_reducible exact downpourref04_Left.mono _ _ _ _)
   | (with_reducible exact LeO.refl _)
   | (with_reducible exact LeO.none _)
   | (with_reducible refine LeO.ite ?_ ?_)
   | (with_reducible refine LeO.bind ?_ (fun _ => ?_))
   | exact downpourref04_Echelon.mono _ _ _
   | exact downpourref04_First.mono _ _ _
   | exact downpourref04_Left.mono _ _ _ _
   | exact LeO.none _
   | refine LeO.ite ?_ ?_
   | refine LeO.bind ?_ (fun _ => ?_)
set_option maxHeartbeats 8000000 in
set_option maxRecDepth 100000 in
theorem downpourref04_Spans.calls (k : Nat) (a0_0 : Int) (A0_1 : Option Addr) (c0_1 : Nat) (l0_1 : List (S40)) (a1_0 : Int) (A1_1 : Option Addr) (c1_1 : Nat) (l1_1 : List Int) (r : Bool) (w : World) (hr0_1 : Kd.C k40 w A0_1 l0_1.length l0_1) (hc0_1 : l0_1.length ≤ c0_1) (hr1_1 : Kd.C (Kd.int .u64) w A1_1 l1_1.length l1_1) (hc1_1 : l1_1.length ≤ c1_1) (h : downpourref04_Spans.f k a0_0 l0_1 a1_0 l1_1 = some r) :
  Calls Try.prog 19 #[.agg #[.int .i64 a0_0, .slice A0_1 l0_1.length c0_1], .agg #[.int .i64 a1_0, .slice A1_1 l1_1.length c1_1]] w fun e w' => e = .returned (.bool r) ∧ Below w.heap.size w w' := by
 have hu24 := Try.underlying24
 have hu40 := Try.underlying40
 have HR0_1 := Aside0.mk hr0_1
 have HC0_1 := Aside0.mk hc0_1
 clear hr0_1 hc0_1
 have HR1_1 := Aside0.mk hr1_1
 have HC1_1 := Aside0.mk hc1_1
 clear hr1_1 hc1_1
 have HB := am (Below.refl w.heap.size w)
 have H : ((downpourref04_Echelon.f k a0_0 l0_1).bind fun t305 => ((downpourref04_Left.f k t305 a1_0 l1_1).bind fun bt308 => ((downpourref04_First.f k bt308.1 bt308.2).bind fun t312 => (some (decide (t312 < 0)))))) = some r := h
 clear h
 replace H := Option.bind_eq_some_iff.mp H
 obtain ⟨t305, A30, H⟩ := H
 replace H : ((downpourref04_Left.f k t305 a1_0 l1_1).bind fun bt308 => ((downpourref04_First.f k bt308.1 bt308.2).bind fun t312 => (some (decide (t312 < 0))))) = some r := H
 have A3 := Aside0.mk A30
 clear A30
 replace H := Option.bind_eq_some_iff.mp H
 obtain ⟨⟨t308, t309⟩, A40, H⟩ := H
 replace H : ((downpourref04_First.f k t308 t309).bind fun t312 => (some (decide (t312 < 0)))) = some r := H
 have A4 := Aside0.mk A40
 clear A40
 replace H := Option.bind_eq_some_iff.mp H
 obtain ⟨t312, A50, H⟩ := H
 replace H : (some (decide (t312 < 0))) = some r := H
 have A5 := Aside0.mk A50
 clear A50
 obtain rfl := Option.some.inj H
 go_enter Try.func19, Try.ntmps19
 try go_wp2_with (first | ((with_reducible refine gate_dst (N := 2) rfl ?_); refine box_event ?hg (N := 2) ?hd (cs := #[.int .i64 a0_0, .slice A0_1 l0_1.length c0_1]) (t := 24) ?hr ?_; (case hd => rfl); (case hg => rfl); (case hr => first | (go_simp; done) | (go_simp; rfl)); intro gb303 hg w6 hbox hb; have n0_ := am (below_step (pb HB) hb); have n1_ := am (hbox); have n2_ := am ((by rw [hg]; exact (below_size (pb HB)) : w.heap.size ≤ gb303)); have n3_ := am ((by rw [hg]; exact (below_size (pb HB)) : w.heap.size ≤ gb303)); clear HB; have HB := n0_; have BK303 := n1_; have GW303 := n2_; have GE303 := n3_; clear n0_ n1_ n2_ n3_ hb hbox hg) | ((with_reducible refine gate_dst (N := 3) rfl ?_); refine box_event ?hg (N := 3) ?hd (cs := #[.int .i64 a1_0, .slice A1_1 l1_1.length c1_1]) (t := 40) ?hr ?_; (case hd => rfl); (case hg => rfl); (case hr => first | (go_simp; done) | (go_simp; rfl)); intro gb304 hg w7 hbox hb; have n0_ := bb BK303 hb; have n1_ := am (below_step (pb HB) hb); have n2_ := am (hbox); have n3_ := am ((by rw [hg]; exact (below_size (pb HB)) : w.heap.size ≤ gb304)); have n4_ := am ((by rw [hg]; exact (below_size (pb HB)) : w.heap.size ≤ gb304)); have n5_ := am ((by rw [hg]; exact Nat.ne_of_lt (bl BK303) : gb303 ≠ gb304)); have n6_ := am ((by rw [hg]; exact Nat.ne_of_gt (bl BK303) : gb304 ≠ gb303)); clear BK303 HB; have BK303 := n0_; have HB := n1_; have BK304 := n2_; have GW304 := n3_; have GE304 := n4_; have NB303_304 := n5_; have NB304_303 := n6_; clear n0_ n1_ n2_ n3_ n4_ n5_ n6_ hb hbox hg))
 have n0_ := am (blk_drew BK303.out)
 have n1_ := am (blk_drew BK304.out)
 have n2_ := am (below_drew1 HB.out)
 clear BK303
 clear BK304
 clear HB
 have BK303 := n0_
 have BK304 := n1_
 have HB := n2_
 clear n0_ n1_ n2_
 refine start_ (n := 7) (S := fun w' => w'.cell? ⟨gb303, 0, none⟩ = some (.int .i64 a0_0) ∧ w'.cell? ⟨gb303, 1, none⟩ = some (.slice A0_1 l0_1.length c0_1) ∧ w'.cell? ⟨gb304, 0, none⟩ = some (.int .i64 a1_0) ∧ w'.cell? ⟨gb304, 1, none⟩ = some (.slice A1_1 l1_1.length c1_1)) (ds := []) #[F, F, F, F, F, F, F] (by kernel_rfl) rfl rfl ⟨(blk_cell BK303.out 0).trans rfl, (blk_cell BK303.out 1).trans rfl, (blk_cell BK304.out 0).trans rfl, (blk_cell BK304.out 1).trans rfl⟩ (fun hHeld => ?_)
 generalize w7.drew = w8 at BK303 BK304 HB hHeld ⊢
 refine take_ (i := 0) (N := some 5) (v := ?_) (a' := ?_) #[T, F, F, F, F, F, F] rfl rfl (by kernel_rfl) (fun _ _ _ h => h) (Or.inl ⟨by rfl, ?_⟩) hHeld ?_ ?_
 rotate_left
 ·
  rintro w' ⟨s0, s1, s2, s3⟩
  go_simp
  with_reducible rfl
 rotate_left
 ·
  simp only [Act.put, q1, q2, q3, i64_w, i32_w]
  rfl
 refine take_ (i := 2) (N := some 7) (v := ?_) (a' := ?_) #[T, F, T, F, F, F, F] rfl rfl (by kernel_rfl) (fun _ _ _ h => h) (Or.inl ⟨by rfl, ?_⟩) hHeld ?_ ?_
 rotate_left
 ·
  rintro w' ⟨s0, s1, s2, s3⟩
  go_simp
  with_reducible rfl
 rotate_left
 ·
  simp only [Act.put, q1, q2, q3, i64_w, i32_w]
  rfl
 refine one_ (i := 1) (N := some 6) #[T, T, T, F, F, F, F] rfl rfl (by kernel_rfl) (by decide) (fun K hK => ?_)
 refine goes_ Try.func13 (by kernel_rfl) rfl #[.agg #[.int .i64 a0_0, .slice A0_1 l0_1.length c0_1]] (by rfl) rfl rfl (by (try simp only [List.map_toArray, List.map_cons, List.map_nil]); first | done | rfl | (simp only [List.length_drop, List.length_take]; rfl)) ?_
 with_reducible refine (downpourref04_Echelon.calls k a0_0 (fun k_ => k_ < w.heap.size) _ _ l0_1 t305 _ ?side1 A3.out).mono ?_
 (case side1 => exact Kd.V_mk HC0_1.out (Kd.F_below (Kd.C_F k40_heap HR0_1.out) (pb HB)))
 rintro e w9 ⟨v306, rfl, ho0, hb⟩
 refine ⟨_, rfl, ?_⟩
 have n0_ := am (Kd.N_lower (Kd.N_mono (ok' := fun k_ => k_ ≠ gb303 ∧ k_ ≠ gb304) ho0 (fun k_ hk_ => ⟨Or.elim hk_ (fun hs_ => fun e_ => Nat.not_le.2 hs_ (by rw [e_]; exact GW303.out)) (fun hn_ => (Kd.freshB (g := gb303) (o := .cells #[.int .i64 a0_0, .slice A0_1 l0_1.length c0_1] 24 (0, 0)) (pk BK303) k_ hn_)), Or.elim hk_ (fun hs_ => fun e_ => Nat.not_le.2 hs_ (by rw [e_]; exact GW304.out)) (fun hn_ => (Kd.freshB (g := gb304) (o := .cells #[.int .i64 a1_0, .slice A1_1 l1_1.length c1_1] 40 (0, 0)) (pk BK304) k_ hn_))⟩)) (below_size (pb HB)))
 have n1_ := bb BK303 hb
 have n2_ := bb BK304 hb
 have n3_ := am (below_step (pb HB) hb)
 clear BK303
 clear BK304
 clear HB
 have HO307 := n0_
 have BK303 := n1_
 have BK304 := n2_
 have HB := n3_
 clear n0_ n1_ n2_ n3_
 (try clear hb)
 (try clear hb2)
 (try clear hk)
 (try clear hi)
 (try clear ho0)
 obtain ⟨Ao10, co10, eo10⟩ := Kd.N_slice HO307.out
 (first | subst eo10 | (injection eo10 with f1_ f2_ f3_; have f4_ := f1_.symm; have f5_ := f3_.symm; clear f1_ f2_ f3_; subst f4_; subst f5_))
 refine hK.out _ _ ⟨(blk_cell BK303.out 0).trans rfl, (blk_cell BK303.out 1).trans rfl, (blk_cell BK304.out 0).trans rfl, (blk_cell BK304.out 1).trans rfl⟩ (fun hHeld => ?_)
 clear hK K
 refine norm_ (a' := ?_) ?_ ?_
 rotate_left
 ·
  show Act.put _ (some 6) _ = _
  simp only [Act.put, q1, q2, q3, i64_w, i32_w]
  rfl
 refine one_ (i := 3) (N := some 8) #[T, T, T, T, F, F, F] rfl rfl (by kernel_rfl) (by decide) (fun K hK => ?_)
 refine goes_ Try.func30 (by kernel_rfl) rfl #[.slice Ao10 t305.length co10, .agg #[.int .i64 a1_0, .slice A1_1 l1_1.length c1_1]] (by rfl) rfl rfl (by (try simp only [List.map_toArray, List.map_cons, List.map_nil]); first | done | rfl | (simp only [List.length_drop, List.length_take]; rfl)) ?_
 with_reducible refine (downpourref04_Left.calls k _ _ t305 a1_0 (fun k_ => k_ < w.heap.size) _ _ l1_1 t308 t309 _ ?side1 ?side2 ?side3 A4.out).mono ?_
 (case side1 => repeat (first | exact (Kd.N_reads' HO307.out).2.2 | (with_reducible refine Kd.C_alloc ?_ _) | (with_reducible refine Kd.C_drewN ?_ _) | (with_reducible refine Kd.C_drew ?_)))
 (case side2 => exact (Kd.N_reads' HO307.out).2.1)
 (case side3 => exact Kd.V_mk HC1_1.out (Kd.F_below (Kd.C_F (Kd.heap_int .u64) HR1_1.out) (pb HB)))
 rintro e w11 ⟨v310, rfl, ho0, hb⟩
 refine ⟨_, rfl, ?_⟩
 have n0_ := am (Kd.N_below (pn HO307) hb)
 have n1_ := am (Kd.V_lower (Kd.V_mono (ok' := fun k_ => some k_ ≠ (.slice Ao10 t305.length co10 : Value).ownBlock ∧ k_ ≠ gb303 ∧ k_ ≠ gb304) ho0 (fun k_ hk_ => ⟨Or.elim hk_ (fun hs_ => fun e_ => Nat.not_le.2 hs_ (Kd.N_base HO307.out k_ e_.symm)) (fun hn_ => (Kd.fresh' (Kd.N_lt (pn HO307)) k_ hn_)), Or.elim hk_ (fun hs_ => fun e_ => Nat.not_le.2 hs_ (by rw [e_]; exact GW303.out)) (fun hn_ => (Kd.freshB (g := gb303) (o := .cells #[.int .i64 a0_0, .slice A0_1 l0_1.length c0_1] 24 (0, 0)) (pk BK303) k_ hn_)), Or.elim hk_ (fun hs_ => fun e_ => Nat.not_le.2 hs_ (by rw [e_]; exact GW304.out)) (fun hn_ => (Kd.freshB (g := gb304) (o := .cells #[.int .i64 a1_0, .slice A1_1 l1_1.length c1_1] 40 (0, 0)) (pk BK304) k_ hn_))⟩)) (below_size (pb HB)))
 have n2_ := bb BK303 hb
 have n3_ := bb BK304 hb
 have n4_ := am (below_step (pb HB) hb)
 clear HO307
 clear BK303
 clear BK304
 clear HB
 have HO307 := n0_
 have HO311 := n1_
 have BK303 := n2_
 have BK304 := n3_
 have HB := n4_
 clear n0_ n1_ n2_ n3_ n4_
 (try clear hb)
 (try clear hb2)
 (try clear hk)
 (try clear hi)
 (try clear ho0)
 obtain ⟨Ao12, co12, eo12⟩ := Kd.V_slice HO311.out
 (first | subst eo12 | (injection eo12 with f1_ f2_ f3_; have f4_ := f1_.symm; have f5_ := f3_.symm; clear f1_ f2_ f3_; subst f4_; subst f5_))
 refine hK.out _ _ ⟨(blk_cell BK303.out 0).trans rfl, (blk_cell BK303.out 1).trans rfl, (blk_cell BK304.out 0).trans rfl, (blk_cell BK304.out 1).trans rfl⟩ (fun hHeld => ?_)
 clear hK K
 refine norm_ (a' := ?_) ?_ ?_
 rotate_left
 ·
  show Act.put _ (some 8) _ = _
  simp only [Act.put, q1, q2, q3, i64_w, i32_w]
  rfl
 refine one_ (i := 4) (N := some 9) #[T, T, T, T, T, F, F] rfl rfl (by kernel_rfl) (by decide) (fun K hK => ?_)
 refine goes_ Try.func31 (by kernel_rfl) rfl #[.agg #[.int .i64 t308, .slice Ao12 t309.length co12]] (by rfl) rfl rfl (by (try simp only [List.map_toArray, List.map_cons, List.map_nil]); first | done | rfl | (simp only [List.length_drop, List.length_take]; rfl)) ?_
 with_reducible refine (downpourref04_First.calls k t308 _ _ t309 t312 _ ?side1 ?side2 A5.out).mono ?_
 (case side1 => repeat (first | exact (Kd.V_reads' HO311.out).2.2 | (with_reducible refine Kd.C_alloc ?_ _) | (with_reducible refine Kd.C_drewN ?_ _) | (with_reducible refine Kd.C_drew ?_)))
 (case side2 => exact (Kd.V_reads' HO311.out).2.1)
 rintro e w13 ⟨rfl, hb⟩
 refine ⟨_, rfl, ?_⟩
 have n0_ := am (Kd.N_below (pn HO307) hb)
 have n1_ := am (Kd.V_below (pv HO311) hb)
 have n2_ := bb BK303 hb
 have n3_ := bb BK304 hb
 have n4_ := am (below_step (pb HB) hb)
 clear HO307
 clear HO311
 clear BK303
 clear BK304
 clear HB
 have HO307 := n0_
 have HO311 := n1_
 have BK303 := n2_
 have BK304 := n3_
 have HB := n4_
 clear n0_ n1_ n2_ n3_ n4_
 (try clear hb)
 (try clear hb2)
 (try clear hk)
 (try clear hi)
 refine hK.out _ _ ⟨(blk_cell BK303.out 0).trans rfl, (blk_cell BK303.out 1).trans rfl, (blk_cell BK304.out 0).trans rfl, (blk_cell BK304.out 1).trans rfl⟩ (fun hHeld => ?_)
 clear hK K
 refine norm_ (a' := ?_) ?_ ?_
 rotate_left
 ·
  show Act.put _ (some 9) _ = _
  simp only [Act.put, q1, q2, q3, i64_w, i32_w]
  rfl
 refine pure_ (i := 5) (N := some 10) (v := ?_) (a' := ?_) #[T, T, T, T, T, T, F] rfl rfl (by kernel_rfl) (fun _ _ _ h => h) (Or.inl ⟨by rfl, ?_⟩) ?_ ?_
 rotate_left
 ·
  intro w'
  go_simp
  with_reducible rfl
 rotate_left
 ·
  simp only [Act.put, q1, q2, q3, i64_w, i32_w]
  rfl
 refine pure_ (i := 6) (N := some 4) (v := ?_) (a' := ?_) #[T, T, T, T, T, T, T] rfl rfl (by kernel_rfl) (fun _ _ _ h => h) (Or.inl ⟨by rfl, ?_⟩) ?_ ?_
 rotate_left
 ·
  intro w'
  go_simp
  with_reducible rfl
 rotate_left
 ·
  simp only [Act.put, q1, q2, q3, i64_w, i32_w]
  rfl
 refine done_ (by kernel_rfl) ?_
 try go_wp2
 go_ret
 exact ⟨by first | rfl | (simp [errW_none, errW_some] <;> rfl) | (simp [*, errW_none, errW_some] <;> rfl), pb HB⟩

end Go.Proofs.Ytfcedhejbnoinaa.PC
