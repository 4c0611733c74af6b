-- PRINTED by print.py (a twelfth state) out of the translation. Not trusted: Lean checks it.
import Derived.Test.YtfcedhejbnoinaaPCx0
import Derived.Test.YtfcedhejbnoinaaPCx1
import Derived.Test.YtfcedhejbnoinaaPCx6
namespace Go.Proofs.Ytfcedhejbnoinaa.PC
open Go.RowKit Go.Proofs.YtfcedhejbnoinaaW.PrintWords Go.Proofs.YtfcedhejbnoinaaW.PrintLast Go.Proofs.YtfcedhejbnoinaaW.PrintMore
open Bool renaming true → T, false → F
open List renaming setIfInBounds_toArray → q1, set_cons_zero → q2, set_cons_succ → q3
attribute [local go_sem] run_store_func max2_int min2_int max_two min_two max_three min_three max_four min_four   -- for this text's walks alone
set_option linter.unusedVariables false
set_option linter.unusedSimpArgs false

/-! ### downpourref04_Left: function 30 -/
def downpourref04_Left.l0 : Nat → List (S40) → Int → Int → Int → List Int → Option (Int × List Int)
 | 0, _, _, _, _, _ => none
 | k + 1, x7, x8, x9, x251000, x251001 => if x9 < x8 then (if 0 ≤ x9 then (if x9 < (x7.length : Int) then ((downpourref04_First.f k ((rd_T40 x7 x9).f0) ((rd_T40 x7 x9).f1)).bind fun t254 => ((downpourref01_Bit.f x251000 x251001 t254).bind fun t255 => (if t255 = 1 then ((downpourref01_Xor.f k x251000 x251001 ((rd_T40 x7 x9).f0) ((rd_T40 x7 x9).f1)).bind fun bt256 => (downpourref04_Left.l0 k x7 x8 (wrap64 (x9 + 1)) bt256.1 bt256.2)) else (downpourref04_Left.l0 k x7 x8 (wrap64 (x9 + 1)) x251000 x251001)))) else (none)) else (none)) else (some (x251000, x251001))
def downpourref04_Left.f (k : Nat) (l0 : List (S40)) (a1_0 : Int) (l1_1 : List Int) : Option (Int × List Int) := downpourref04_Left.l0 k l0 (l0.length : Int) 0 a1_0 l1_1
theorem downpourref04_Left.mono_l : ∀ k, (∀ y0 y1 y2 y3 y4, LeO (downpourref04_Left.l0 k y0 y1 y2 y3 y4) (downpourref04_Left.l0 (k + 1) y0 y1 y2 y3 y4))
 | 0 => fun _ _ _ _ _ r h => by simp [downpourref04_Left.l0] at h
 | k + 1 => by
  have ih0 := downpourref04_Left.mono_l k
  ·
   intro y0 y1 y2 y3 y4
   unfold downpourref04_Left.l0
   repeat' first
   | (with_reducible exact ih0 _ _ _ _ _)
   | (with_reducible exact downpourref01_Xor.mono _ _ _ _ _)
   | (with_reducible exact downpourref04_First.mono _ _ _)
   | (with_reducible exact LeO.refl _)
   | (with_reducible exact LeO.none _)
   | (with_reducible refine LeO.ite ?_ ?_)
   | (with_reducible refine LeO.bind ?_ (fun _ => ?_))
   | exact ih0 _ _ _ _ _
   | exact downpourref01_Xor.mono _ _ _ _ _
   | exact downpourref04_First.mono _ _ _
   | exact LeO.none _
   | refine LeO.ite ?_ ?_
   | refine LeO.bind ?_ (fun _ => ?_)
theorem downpourref04_Left.mono : ∀ a0 a1 a2 k, LeO (downpourref04_Left.f k a0 a1 a2) (downpourref04_Left.f (k + 1) a0 a1 a2) := by
 intro a0 a1 a2 k
 have ih0 := downpourref04_Left.mono_l k
 unfold downpourref04_Left.f
 repeat' first
   | (with_reducible exact ih0 _ _ _ _ _)
   | (with_reducible exact downpourref01_Xor.mono _ _ _ _ _)
   | (with_reducible exact downpourref04_First.mono _ _ _)
   | (with_reducible exact LeO.refl _)
   | (with_reducible exact LeO.none _)
   | (with_reducible refine LeO.ite ?_ ?_)
   | (with_reducible refine LeO.bind ?_ (fun _ => ?_))
   | exact ih0 _ _ _ _ _
   | exact downpourref01_Xor.mono _ _ _ _ _
   | exact downpourref04_First.mono _ _ _
   | exact LeO.none _
   | refine LeO.ite ?_ ?_
   | refine LeO.bind ?_ (fun _ => ?_)
set_option maxHeartbeats 8000000 in
set_option maxRecDepth 100000 in
theorem downpourref04_Left.calls (k : Nat) (A0 : Option Addr) (c0 : Nat) (l0 : List (S40)) (a1_0 : Int) (P1_1_ : Nat → Prop) (A1_1 : Option Addr) (c1_1 : Nat) (l1_1 : List Int) (r1 : Int) (r2 : List Int) (w : World) (hr0 : Kd.C k40 w A0 l0.length l0) (hc0 : l0.length ≤ c0) (hs1_1 : Kd.V (Kd.int .u64) 48 w w.heap.size (fun k_ => P1_1_ k_) (.slice A1_1 l1_1.length c1_1) l1_1) (h : downpourref04_Left.f k l0 a1_0 l1_1 = some (r1, r2)) :
  Calls Try.prog 30 #[.slice A0 l0.length c0, .agg #[.int .i64 a1_0, .slice A1_1 l1_1.length c1_1]] w fun e w' => ∃ v1_ : Value, e = .returned (.agg #[.int .i64 r1, v1_]) ∧ Kd.V (Kd.int .u64) 48 w' w.heap.size (fun k_ => (P1_1_ k_ ∨ w.heap.size ≤ k_)) v1_ r2 ∧ Below w.heap.size w w' := by
 have hu40 := Try.underlying40
 have HR0 := Aside0.mk hr0
 have HC0 := Aside0.mk hc0
 clear hr0 hc0
 have HO1_1 := am (show Kd.V (Kd.int .u64) 48 w w.heap.size (fun k_ => (P1_1_ k_ ∨ w.heap.size ≤ k_)) (.slice A1_1 l1_1.length c1_1) l1_1 from Kd.V_mono hs1_1 (fun k_ hk => .inl hk))
 have HB := am (Below.refl w.heap.size w)
 have H : (downpourref04_Left.l0 k l0 (l0.length : Int) 0 a1_0 l1_1) = some (r1, r2) := h
 clear h
 have H' := Aside0.mk H
 clear H
 go_enter Try.func30, Try.ntmps30
 go_wp2_with (first | ((with_reducible refine gate_dst (N := 3) rfl ?_); refine box_event ?hg (N := 3) ?hd (cs := #[.int .i64 a1_0, .slice A1_1 l1_1.length c1_1]) (t := 40) ?hr ?_; (case hd => rfl); (case hg => rfl); (case hr => first | (go_simp; done) | (go_simp; rfl)); intro gb250 hg w3 hbox hb; have n0_ := am (Kd.V_below (Kd.V_elderB (pv HO1_1) gb250 (Nat.le_of_eq hg.symm)) hb); have n1_ := am (below_step (pb HB) hb); have n2_ := am (hbox); have n3_ := am ((by rw [hg]; exact (below_size (pb HB)) : w.heap.size ≤ gb250)); have n4_ := am ((by rw [hg]; exact (below_size (pb HB)) : w.heap.size ≤ gb250)); clear HO1_1 HB; have HO1_1 := n0_; have HB := n1_; have BK250 := n2_; have GW250 := n3_; have GE250 := n4_; clear n0_ n1_ n2_ n3_ n4_ hb hbox hg) | ((with_reducible refine gate_dst (N := 4) rfl ?_); refine box_event ?hg (N := 4) ?hd (cs := #[.int .i64 0, .slice none 0 0]) (t := 40) ?hr ?_; (case hd => rfl); (case hg => rfl); (case hr => first | (go_simp; done) | (go_simp; rfl)); intro gb251 hg w4 hbox hb; have n0_ := am (Kd.V_below (Kd.V_elderB (pv HO1_1) gb251 (Nat.le_of_eq hg.symm)) hb); have n1_ := bb BK250 hb; have n2_ := am (below_step (pb HB) hb); have n3_ := am (hbox); have n4_ := am ((by rw [hg]; exact (below_size (pb HB)) : w.heap.size ≤ gb251)); have n5_ := am ((by rw [hg]; exact (below_size (pb HB)) : w.heap.size ≤ gb251)); have n6_ := am ((by rw [hg]; exact Nat.ne_of_lt (bl BK250) : gb250 ≠ gb251)); have n7_ := am ((by rw [hg]; exact Nat.ne_of_gt (bl BK250) : gb251 ≠ gb250)); clear HO1_1 BK250 HB; have HO1_1 := n0_; have BK250 := n1_; have HB := n2_; have BK251 := n3_; have GW251 := n4_; have GE251 := n5_; have NB250_251 := n6_; have NB251_250 := n7_; clear n0_ n1_ n2_ n3_ n4_ n5_ n6_ n7_ hb hbox hg))
 go_loopg [9] k (fun kq v9 w' => ∃ (x9_1 : Int) (x251000_1 : Int) (x251001_1 : List Int) (u251001 : Value), v9 = .int .i64 x9_1 ∧ Aside0 (downpourref04_Left.l0 kq l0 (l0.length : Int) x9_1 x251000_1 x251001_1 = some (r1, r2)) ∧ Aside0 (kq ≤ k) ∧ Aside0 (Kd.V (Kd.int .u64) 48 w' w.heap.size (fun k_ => (P1_1_ k_ ∨ w.heap.size ≤ k_) ∧ k_ ≠ gb250 ∧ k_ ≠ gb251) u251001 x251001_1) ∧ Aside0 (w'.heap[gb250]? = some (.cells #[.int .i64 x251000_1, u251001] 40 (0, 0))) ∧ Aside0 (w'.heap[gb251]? = some (.cells #[.int .i64 0, (.slice none 0 0)] 40 (0, 0))) ∧ Aside0 (Below w.heap.size w w'))
 case atStart => exact ⟨(0), (a1_0), (l1_1), (.slice A1_1 l1_1.length c1_1), (by first | rfl | (simp; done) | (simp [*]; done)), H', ⟨Nat.le_refl _⟩, ⟨by (with_reducible repeat (first | apply Kd.V_alloc | apply Kd.V_drewN | apply Kd.V_drew)); exact Kd.V_mono HO1_1.out (fun _ hk => ⟨hk.1.1, ⟨hk.1.2, hk.2⟩⟩)⟩, ⟨by (with_reducible repeat (first | refine blk_drewN ?_ _ | refine blk_drew ?_ | refine blk_alloc ?_ _)); exact BK250.out⟩, ⟨by (with_reducible repeat (first | refine blk_drewN ?_ _ | refine blk_drew ?_ | refine blk_alloc ?_ _)); exact BK251.out⟩, ⟨pb HB⟩⟩
 case round =>
  clear H'
  try clear c1
  try clear p2
  try clear c3
  obtain ⟨x9_1, x251000_1, x251001_1, u251001, rfl, HA, HK1, HO_251001, BK250, BK251, HB⟩ := hrel
  cases gk with
  | zero => exact absurd HA.out (by simp [downpourref04_Left.l0])
  | succ k1 =>
   have H := HA.out
   clear HA
   simp only [downpourref04_Left.l0] at H
   by_cases c5 : x9_1 < (l0.length : Int)
   ·
    rw [if_pos c5] at H
    have c5b0 : decide (x9_1 < (l0.length : Int)) = true := decide_eq_true c5
    clear c5
    by_cases c6 : 0 ≤ x9_1
    ·
     rw [if_pos c6] at H
     have c6b0 : decide (0 ≤ x9_1) = true := decide_eq_true c6
     clear c6
     by_cases c7 : x9_1 < (l0.length : Int)
     ·
      rw [if_pos c7] at H
      have c7b0 : decide (x9_1 < (l0.length : Int)) = true := decide_eq_true c7
      clear c7
      replace H := Option.bind_eq_some_iff.mp H
      obtain ⟨t254, A80, H⟩ := H
      replace H : ((downpourref01_Bit.f x251000_1 x251001_1 t254).bind fun t255 => (if t255 = 1 then ((downpourref01_Xor.f k1 x251000_1 x251001_1 ((rd_T40 l0 x9_1).f0) ((rd_T40 l0 x9_1).f1)).bind fun bt256 => (downpourref04_Left.l0 k1 l0 (l0.length : Int) (wrap64 (x9_1 + 1)) bt256.1 bt256.2)) else (downpourref04_Left.l0 k1 l0 (l0.length : Int) (wrap64 (x9_1 + 1)) x251000_1 x251001_1))) = some (r1, r2) := H
      have A8 := Aside0.mk A80
      clear A80
      replace H := Option.bind_eq_some_iff.mp H
      obtain ⟨t255, A90, H⟩ := H
      replace H : (if t255 = 1 then ((downpourref01_Xor.f k1 x251000_1 x251001_1 ((rd_T40 l0 x9_1).f0) ((rd_T40 l0 x9_1).f1)).bind fun bt256 => (downpourref04_Left.l0 k1 l0 (l0.length : Int) (wrap64 (x9_1 + 1)) bt256.1 bt256.2)) else (downpourref04_Left.l0 k1 l0 (l0.length : Int) (wrap64 (x9_1 + 1)) x251000_1 x251001_1)) = some (r1, r2) := H
      have A9 := Aside0.mk A90
      clear A90
      by_cases c10 : t255 = 1
      ·
       rw [if_pos c10] at H
       have c10b0 : (t255 == 1) = true := beq_iff_eq.mpr c10
       have c10b1 : (t255 != 1) = false := bne_eq_false_iff_eq.mpr c10
       clear c10
       replace H := Option.bind_eq_some_iff.mp H
       obtain ⟨⟨t256, t257⟩, A110, H⟩ := H
       replace H : (downpourref04_Left.l0 k1 l0 (l0.length : Int) (wrap64 (x9_1 + 1)) t256 t257) = some (r1, r2) := H
       have A11 := Aside0.mk A110
       clear A110
       have H' := Aside0.mk H
       clear H
       have p252 : 0 ≤ (x9_1 : Int) := of_decide_eq_true (by first | (with_reducible assumption) | assumption)
       have q252 : x9_1 < (l0.length : Int) := of_decide_eq_true (by first | (with_reducible assumption) | assumption)
       obtain ⟨ad252, A252_1, c252_1, e252, hx252_0, hx252_1, hl252_1, hi252_1⟩ := at_T40 HR0.out x9_1 p252 q252
       cases e252
       replace hx252_0 := (HB.out.cell (World.block_lt_of_cell? w _ hx252_0)).trans hx252_0
       replace hx252_1 := (HB.out.cell (World.block_lt_of_cell? w _ hx252_1)).trans hx252_1
       have HR252_1 := Aside0.mk hi252_1
       have HC252_1 := Aside0.mk hl252_1
       clear hi252_1 hl252_1
       replace p252 := eq_true p252
       replace q252 := eq_true q252
       try go_wp2_with (first | ((with_reducible refine gate_dst (N := 6) rfl ?_); refine box_event ?hg (N := 6) ?hd (cs := #[.int .i64 0, .slice none 0 0]) (t := 40) ?hr ?_; (case hd => rfl); (case hg => rfl); (case hr => first | (go_simp; done) | (go_simp; rfl)); intro gb253 hg w12 hbox hb; have n0_ := am (Kd.V_below (Kd.V_elderB (pv HO_251001) gb253 (Nat.le_of_eq hg.symm)) hb); have n1_ := bb BK250 hb; have n2_ := bb BK251 hb; have n3_ := am (below_step (pb HB) hb); have n4_ := am (hbox); have n5_ := am ((by rw [hg]; exact (below_size (pb HB)) : w.heap.size ≤ gb253)); have n6_ := am ((by rw [hg]; exact (below_size (pb HB)) : w.heap.size ≤ gb253)); have n7_ := am ((by rw [hg]; exact Nat.ne_of_lt (bl BK250) : gb250 ≠ gb253)); have n8_ := am ((by rw [hg]; exact Nat.ne_of_gt (bl BK250) : gb253 ≠ gb250)); have n9_ := am ((by rw [hg]; exact Nat.ne_of_lt (bl BK251) : gb251 ≠ gb253)); have n10_ := am ((by rw [hg]; exact Nat.ne_of_gt (bl BK251) : gb253 ≠ gb251)); clear HO_251001 BK250 BK251 HB; have HO_251001 := n0_; have BK250 := n1_; have BK251 := n2_; have HB := n3_; have BK253 := n4_; have GW253 := n5_; have GE253 := n6_; have NB250_253 := n7_; have NB253_250 := n8_; have NB251_253 := n9_; have NB253_251 := n10_; clear n0_ n1_ n2_ n3_ n4_ n5_ n6_ n7_ n8_ n9_ n10_ hb hbox hg; have hnb13 := NB253_250.out; have hnc13 := NB250_253.out; have hnb14 := NB253_251.out; have hnc14 := NB251_253.out; have hcz15_0 : w12.cell? ⟨gb253, 0, none⟩ = some (.int .i64 0) := (blk_cell BK253.out 0).trans rfl; have hcz15_1 : w12.cell? ⟨gb253, 1, none⟩ = some (.slice none 0 0) := (blk_cell BK253.out 1).trans rfl; have hfz15_0 := blk_frozen BK253.out 0; have hfz15_1 := blk_frozen BK253.out 1))
       have n0_ : Aside0 (Kd.V (Kd.int .u64) 48 ((w12.setCell ⟨gb253, 0, none⟩ (.int .i64 ((rd_T40 l0 x9_1).f0))).setCell ⟨gb253, 1, none⟩ (.slice A252_1 ((rd_T40 l0 x9_1).f1).length c252_1)) w.heap.size (fun k_ => (P1_1_ k_ ∨ w.heap.size ≤ k_) ∧ k_ ≠ gb250 ∧ k_ ≠ gb251 ∧ k_ ≠ gb253) u251001 x251001_1) := ⟨by (with_reducible repeat (first | apply Kd.V_alloc | apply Kd.V_drewN | apply Kd.V_drew)); exact Kd.V_mono (Kd.V_far (p := ⟨gb253, 1, none⟩) (Kd.V_far (p := ⟨gb253, 0, none⟩) (Kd.V_mono HO_251001.out (fun k_ hk => (⟨hk, hk.2⟩ : _ ∧ k_ ≠ gb253))) (fun _ hk => hk.2) (.int .i64 ((rd_T40 l0 x9_1).f0))) (fun _ hk => hk.2) (.slice A252_1 ((rd_T40 l0 x9_1).f1).length c252_1)) (fun _ hk => ⟨hk.1.1.1, ⟨hk.1.1.2.1, ⟨hk.1.1.2.2, hk.1.2⟩⟩⟩)⟩
       have n1_ : Aside0 (((w12.setCell ⟨gb253, 0, none⟩ (.int .i64 ((rd_T40 l0 x9_1).f0))).setCell ⟨gb253, 1, none⟩ (.slice A252_1 ((rd_T40 l0 x9_1).f1).length c252_1)).heap[gb250]? = some (.cells #[.int .i64 x251000_1, u251001] 40 (0, 0))) := ⟨by (with_reducible repeat (first | refine blk_drewN ?_ _ | refine blk_drew ?_ | refine blk_alloc ?_ _)); refine blk_far ?_ NB250_253.out _; (with_reducible repeat (first | refine blk_drewN ?_ _ | refine blk_drew ?_ | refine blk_alloc ?_ _)); refine blk_far ?_ NB250_253.out _; (with_reducible repeat (first | refine blk_drewN ?_ _ | refine blk_drew ?_ | refine blk_alloc ?_ _)); exact BK250.out⟩
       have n2_ : Aside0 (((w12.setCell ⟨gb253, 0, none⟩ (.int .i64 ((rd_T40 l0 x9_1).f0))).setCell ⟨gb253, 1, none⟩ (.slice A252_1 ((rd_T40 l0 x9_1).f1).length c252_1)).heap[gb251]? = some (.cells #[.int .i64 0, .slice none 0 0] 40 (0, 0))) := ⟨by (with_reducible repeat (first | refine blk_drewN ?_ _ | refine blk_drew ?_ | refine blk_alloc ?_ _)); refine blk_far ?_ NB251_253.out _; (with_reducible repeat (first | refine blk_drewN ?_ _ | refine blk_drew ?_ | refine blk_alloc ?_ _)); refine blk_far ?_ NB251_253.out _; (with_reducible repeat (first | refine blk_drewN ?_ _ | refine blk_drew ?_ | refine blk_alloc ?_ _)); exact BK251.out⟩
       have n3_ : Aside0 (((w12.setCell ⟨gb253, 0, none⟩ (.int .i64 ((rd_T40 l0 x9_1).f0))).setCell ⟨gb253, 1, none⟩ (.slice A252_1 ((rd_T40 l0 x9_1).f1).length c252_1)).heap[gb253]? = some (.cells #[.int .i64 ((rd_T40 l0 x9_1).f0), .slice A252_1 ((rd_T40 l0 x9_1).f1).length c252_1] 40 (0, 0))) := ⟨by (with_reducible repeat (first | refine blk_drewN ?_ _ | refine blk_drew ?_ | refine blk_alloc ?_ _)); refine blk_put (cs := #[.int .i64 ((rd_T40 l0 x9_1).f0), .slice none 0 0]) ?_ 1 _ rfl; (with_reducible repeat (first | refine blk_drewN ?_ _ | refine blk_drew ?_ | refine blk_alloc ?_ _)); refine blk_put (cs := #[.int .i64 0, .slice none 0 0]) ?_ 0 _ rfl; (with_reducible repeat (first | refine blk_drewN ?_ _ | refine blk_drew ?_ | refine blk_alloc ?_ _)); exact BK253.out⟩
       have n4_ : Aside0 (Below w.heap.size w ((w12.setCell ⟨gb253, 0, none⟩ (.int .i64 ((rd_T40 l0 x9_1).f0))).setCell ⟨gb253, 1, none⟩ (.slice A252_1 ((rd_T40 l0 x9_1).f1).length c252_1))) := ⟨pb HB⟩
       (try clear HO_251001)
       (try clear BK250)
       (try clear BK251)
       (try clear BK253)
       (try clear HB)
       generalize ((w12.setCell ⟨gb253, 0, none⟩ (.int .i64 ((rd_T40 l0 x9_1).f0))).setCell ⟨gb253, 1, none⟩ (.slice A252_1 ((rd_T40 l0 x9_1).f1).length c252_1)) = w16 at n0_ n1_ n2_ n3_ n4_ ⊢
       have HO_251001 := n0_
       have BK250 := n1_
       have BK251 := n2_
       have BK253 := n3_
       have HB := n4_
       clear n0_ n1_ n2_ n3_ n4_
       have n0_ := am (Kd.V_drew HO_251001.out)
       have n1_ := am (blk_drew BK250.out)
       have n2_ := am (blk_drew BK251.out)
       have n3_ := am (blk_drew BK253.out)
       have n4_ := am (below_drew1 HB.out)
       clear HO_251001
       clear BK250
       clear BK251
       clear BK253
       clear HB
       have HO_251001 := n0_
       have BK250 := n1_
       have BK251 := n2_
       have BK253 := n3_
       have HB := n4_
       clear n0_ n1_ n2_ n3_ n4_
       refine start_ (n := 5) (S := fun w' => w'.cell? ⟨gb250, 0, none⟩ = some (.int .i64 x251000_1) ∧ w'.cell? ⟨gb250, 1, none⟩ = some (u251001) ∧ w'.cell? ⟨gb253, 0, none⟩ = some (.int .i64 ((rd_T40 l0 x9_1).f0)) ∧ w'.cell? ⟨gb253, 1, none⟩ = some (.slice A252_1 ((rd_T40 l0 x9_1).f1).length c252_1)) (ds := []) #[F, F, F, F, F] (by kernel_rfl) rfl rfl ⟨(blk_cell BK250.out 0).trans rfl, (blk_cell BK250.out 1).trans rfl, (blk_cell BK253.out 0).trans rfl, (blk_cell BK253.out 1).trans rfl⟩ (fun hHeld => ?_)
       generalize w16.drew = w17 at HO_251001 BK250 BK251 BK253 HB hHeld ⊢
       refine take_ (i := 0) (N := some 13) (v := ?_) (a' := ?_) #[T, F, F, F, F] rfl rfl (by kernel_rfl) (fun _ _ _ h => h) (Or.inl ⟨by rfl, ?_⟩) hHeld ?_ ?_
       rotate_left
       ·
        rintro w' ⟨s0, s1, s2, s3⟩
        go_simp
        with_reducible rfl
       rotate_left
       ·
        simp only [Act.put, q1, q2, q3, i64_w, i32_w]
        rfl
       refine take_ (i := 1) (N := some 14) (v := ?_) (a' := ?_) #[T, T, F, F, F] rfl rfl (by kernel_rfl) (fun _ _ _ h => h) (Or.inl ⟨by rfl, ?_⟩) hHeld ?_ ?_
       rotate_left
       ·
        rintro w' ⟨s0, s1, s2, s3⟩
        go_simp
        with_reducible rfl
       rotate_left
       ·
        simp only [Act.put, q1, q2, q3, i64_w, i32_w]
        rfl
       refine one_ (i := 2) (N := some 15) #[T, T, T, F, F] rfl rfl (by kernel_rfl) (by decide) (fun K hK => ?_)
       refine goes_ Try.func31 (by kernel_rfl) rfl #[.agg #[.int .i64 ((rd_T40 l0 x9_1).f0), .slice A252_1 ((rd_T40 l0 x9_1).f1).length c252_1]] (by rfl) rfl rfl (by (try simp only [List.map_toArray, List.map_cons, List.map_nil]); first | done | rfl | (simp only [List.length_drop, List.length_take]; rfl)) ?_
       with_reducible refine (downpourref04_First.calls k1 ((rd_T40 l0 x9_1).f0) _ _ ((rd_T40 l0 x9_1).f1) t254 _ ?side1 ?side2 A8.out).mono ?_
       (case side1 => repeat (first | exact (Kd.C_below HR252_1.out HB.out) | (with_reducible refine Kd.C_alloc ?_ _) | (with_reducible refine Kd.C_drewN ?_ _) | (with_reducible refine Kd.C_drew ?_)))
       (case side2 => exact HC252_1.out)
       rintro e w18 ⟨rfl, hb⟩
       refine ⟨_, rfl, ?_⟩
       have n0_ := am (Kd.V_below (pv HO_251001) hb)
       have n1_ := bb BK250 hb
       have n2_ := bb BK251 hb
       have n3_ := bb BK253 hb
       have n4_ := am (below_step (pb HB) hb)
       clear HO_251001
       clear BK250
       clear BK251
       clear BK253
       clear HB
       have HO_251001 := n0_
       have BK250 := n1_
       have BK251 := n2_
       have BK253 := n3_
       have HB := n4_
       clear n0_ n1_ n2_ n3_ n4_
       (try clear hb)
       (try clear hb2)
       (try clear hk)
       (try clear hi)
       obtain ⟨Ao19, co19, eo19⟩ := Kd.V_slice HO_251001.out
       (first | subst eo19 | (injection eo19 with f1_ f2_ f3_; have f4_ := f1_.symm; have f5_ := f3_.symm; clear f1_ f2_ f3_; subst f4_; subst f5_))
       refine hK.out _ _ ⟨(blk_cell BK250.out 0).trans rfl, (blk_cell BK250.out 1).trans rfl, (blk_cell BK253.out 0).trans rfl, (blk_cell BK253.out 1).trans rfl⟩ (fun hHeld => ?_)
       clear hK K
       refine norm_ (a' := ?_) ?_ ?_
       rotate_left
       ·
        show Act.put _ (some 15) _ = _
        simp only [Act.put, q1, q2, q3, i64_w, i32_w]
        rfl
       refine one_ (i := 3) (N := some 16) #[T, T, T, T, F] rfl rfl (by kernel_rfl) (by decide) (fun K hK => ?_)
       refine goes_ Try.func39 (by kernel_rfl) rfl #[.agg #[.int .i64 x251000_1, .slice Ao19 x251001_1.length co19], .int .i64 t254] (by rfl) rfl rfl (by (try simp only [List.map_toArray, List.map_cons, List.map_nil]); first | done | rfl | (simp only [List.length_drop, List.length_take]; rfl)) ?_
       with_reducible refine (downpourref01_Bit.calls x251000_1 _ _ x251001_1 t254 t255 _ ?side1 ?side2 A9.out).mono ?_
       (case side1 => repeat (first | exact (Kd.V_reads' HO_251001.out).2.2 | (with_reducible refine Kd.C_alloc ?_ _) | (with_reducible refine Kd.C_drewN ?_ _) | (with_reducible refine Kd.C_drew ?_)))
       (case side2 => exact (Kd.V_reads' HO_251001.out).2.1)
       rintro e w20 ⟨rfl, hb⟩
       refine ⟨_, rfl, ?_⟩
       have n0_ := am (Kd.V_below (pv HO_251001) hb)
       have n1_ := bb BK250 hb
       have n2_ := bb BK251 hb
       have n3_ := bb BK253 hb
       have n4_ := am (below_step (pb HB) hb)
       clear HO_251001
       clear BK250
       clear BK251
       clear BK253
       clear HB
       have HO_251001 := n0_
       have BK250 := n1_
       have BK251 := n2_
       have BK253 := n3_
       have HB := n4_
       clear n0_ n1_ n2_ n3_ n4_
       (try clear hb)
       (try clear hb2)
       (try clear hk)
       (try clear hi)
       refine hK.out _ _ ⟨(blk_cell BK250.out 0).trans rfl, (blk_cell BK250.out 1).trans rfl, (blk_cell BK253.out 0).trans rfl, (blk_cell BK253.out 1).trans rfl⟩ (fun hHeld => ?_)
       clear hK K
       refine norm_ (a' := ?_) ?_ ?_
       rotate_left
       ·
        show Act.put _ (some 16) _ = _
        simp only [Act.put, q1, q2, q3, i64_w, i32_w]
        rfl
       refine pure_ (i := 4) (N := some 17) (v := ?_) (a' := ?_) #[T, T, T, T, T] rfl rfl (by kernel_rfl) (fun _ _ _ h => h) (Or.inl ⟨by rfl, ?_⟩) ?_ ?_
       rotate_left
       ·
        intro w'
        go_simp
        with_reducible rfl
       rotate_left
       ·
        simp only [Act.put, q1, q2, q3, i64_w, i32_w]
        rfl
       refine done_ (by kernel_rfl) ?_
       have hnb21 := NB250_251.out
       have hnc21 := NB251_250.out
       have hcz22_0 : w20.cell? ⟨gb250, 0, none⟩ = some (.int .i64 x251000_1) := (blk_cell BK250.out 0).trans rfl
       have hcz22_1 : w20.cell? ⟨gb250, 1, none⟩ = some (.slice Ao19 x251001_1.length co19) := (blk_cell BK250.out 1).trans rfl
       have hfz22_0 := blk_frozen BK250.out 0
       have hfz22_1 := blk_frozen BK250.out 1
       have hcz23_0 : w20.cell? ⟨gb253, 0, none⟩ = some (.int .i64 ((rd_T40 l0 x9_1).f0)) := (blk_cell BK253.out 0).trans rfl
       have hcz23_1 : w20.cell? ⟨gb253, 1, none⟩ = some (.slice A252_1 ((rd_T40 l0 x9_1).f1).length c252_1) := (blk_cell BK253.out 1).trans rfl
       have hfz23_0 := blk_frozen BK253.out 0
       have hfz23_1 := blk_frozen BK253.out 1
       try go_wp2_with (first | ((with_reducible refine gate_callee (f := 50) rfl ?_); refine goesL_ (some 20) rfl rfl Try.func50 (by kernel_rfl) rfl #[.agg #[.int .i64 x251000_1, .slice Ao19 x251001_1.length co19], .agg #[.int .i64 ((rd_T40 l0 x9_1).f0), .slice A252_1 ((rd_T40 l0 x9_1).f1).length c252_1]] rfl (by (try simp only [List.map_toArray, List.map_cons, List.map_nil]); first | done | rfl | (simp only [List.length_drop, List.length_take]; rfl)) ?_; (with_reducible refine (downpourref01_Xor.calls k1 x251000_1 _ _ x251001_1 ((rd_T40 l0 x9_1).f0) _ _ ((rd_T40 l0 x9_1).f1) t256 t257 _ ?side1 ?side2 ?side3 ?side4 A11.out).mono ?_); (case side1 => repeat (first | exact (Kd.V_reads' HO_251001.out).2.2 | (with_reducible refine Kd.C_alloc ?_ _) | (with_reducible refine Kd.C_drewN ?_ _) | (with_reducible refine Kd.C_drew ?_))); (case side2 => exact (Kd.V_reads' HO_251001.out).2.1); (case side3 => repeat (first | exact (Kd.C_below HR252_1.out HB.out) | (with_reducible refine Kd.C_alloc ?_ _) | (with_reducible refine Kd.C_drewN ?_ _) | (with_reducible refine Kd.C_drew ?_))); (case side4 => exact HC252_1.out); rintro e w24 ⟨v258, rfl, ho0, hb⟩; refine ⟨_, rfl, ?_⟩; have n0_ := am (Kd.V_elder' (pv HO_251001) (Kd.R_base ho0) hb); have n1_ := am (Kd.R_lower (Kd.R_newM (M := fun k_ => (w.heap.size ≤ k_)) ho0 (below_size (pb HB)) (fun k_ h_ => h_)) (below_size (pb HB))); have n2_ := bb BK250 hb; have n3_ := bb BK251 hb; have n4_ := bb BK253 hb; have n5_ := am (below_step (pb HB) hb); clear HO_251001 BK250 BK251 BK253 HB; have HO_251001 := n0_; have HO259 := n1_; have BK250 := n2_; have BK251 := n3_; have BK253 := n4_; have HB := n5_; clear n0_ n1_ n2_ n3_ n4_ n5_; (try clear hb); (try clear hb2); (try clear hk); (try clear hi); (try clear ho0); have hcz25_0 : w24.cell? ⟨gb250, 0, none⟩ = some (.int .i64 x251000_1) := (blk_cell BK250.out 0).trans rfl; have hcz25_1 : w24.cell? ⟨gb250, 1, none⟩ = some (.slice Ao19 x251001_1.length co19) := (blk_cell BK250.out 1).trans rfl; have hfz25_0 := blk_frozen BK250.out 0; have hfz25_1 := blk_frozen BK250.out 1; obtain ⟨Ao26, co26, eo26⟩ := Kd.R_slice HO259.out; subst eo26))
       go_roundg k1
       case measure => have := HK1.out; omega
       case rel => exact ⟨(wrap64 (x9_1 + 1)), (t256), (t257), (.slice Ao26 t257.length co26), (by first | rfl | (simp; done) | (simp [*]; done)), H', ⟨by have := HK1.out; omega⟩, ⟨Kd.V_mono (Kd.R_V (ok := fun k_ => (((w.heap.size ≤ k_)) ∧ (k_ ≠ gb250 ∧ k_ ≠ gb251))) (by (with_reducible repeat (first | apply Kd.R_alloc | apply Kd.R_drewN | apply Kd.R_drew)); exact Kd.R_mono (Kd.R_far (p := ⟨gb250, 1, none⟩) (Kd.R_far (p := ⟨gb250, 0, none⟩) (Kd.R_types (Kd.R_types (Kd.R_types HO259.out BK250.out (by decide)) BK251.out (by decide)) BK250.out (by decide)) (fun _ hk => hk.2) (.int .i64 t256)) (fun _ hk => hk.2) (.slice Ao26 t257.length co26)) (fun _ hk => ⟨hk.1.1.1.1, ⟨hk.1.1.2, hk.1.2⟩⟩))) (fun k_ hk => by first | exact ⟨(.inr (hk.1)), hk.2⟩ | exact (.inr (hk)))⟩, ⟨by (with_reducible repeat (first | refine blk_drewN ?_ _ | refine blk_drew ?_ | refine blk_alloc ?_ _)); refine blk_put (cs := #[.int .i64 t256, .slice Ao19 x251001_1.length co19]) ?_ 1 _ rfl; (with_reducible repeat (first | refine blk_drewN ?_ _ | refine blk_drew ?_ | refine blk_alloc ?_ _)); refine blk_put (cs := #[.int .i64 x251000_1, .slice Ao19 x251001_1.length co19]) ?_ 0 _ rfl; (with_reducible repeat (first | refine blk_drewN ?_ _ | refine blk_drew ?_ | refine blk_alloc ?_ _)); exact BK250.out⟩, ⟨by (with_reducible repeat (first | refine blk_drewN ?_ _ | refine blk_drew ?_ | refine blk_alloc ?_ _)); refine blk_far ?_ NB251_250.out _; (with_reducible repeat (first | refine blk_drewN ?_ _ | refine blk_drew ?_ | refine blk_alloc ?_ _)); refine blk_far ?_ NB251_250.out _; (with_reducible repeat (first | refine blk_drewN ?_ _ | refine blk_drew ?_ | refine blk_alloc ?_ _)); exact BK251.out⟩, ⟨pb HB⟩⟩
      ·
       rw [if_neg c10] at H
       have c10b0 : (t255 == 1) = false := beq_eq_false_iff_ne.mpr c10
       have c10b1 : (t255 != 1) = true := bne_iff_ne.mpr c10
       have H' := Aside0.mk H
       clear H
       have p252 : 0 ≤ (x9_1 : Int) := of_decide_eq_true (by first | (with_reducible assumption) | assumption)
       have q252 : x9_1 < (l0.length : Int) := of_decide_eq_true (by first | (with_reducible assumption) | assumption)
       obtain ⟨ad252, A252_1, c252_1, e252, hx252_0, hx252_1, hl252_1, hi252_1⟩ := at_T40 HR0.out x9_1 p252 q252
       cases e252
       replace hx252_0 := (HB.out.cell (World.block_lt_of_cell? w _ hx252_0)).trans hx252_0
       replace hx252_1 := (HB.out.cell (World.block_lt_of_cell? w _ hx252_1)).trans hx252_1
       have HR252_1 := Aside0.mk hi252_1
       have HC252_1 := Aside0.mk hl252_1
       clear hi252_1 hl252_1
       replace p252 := eq_true p252
       replace q252 := eq_true q252
       try go_wp2_with (first | ((with_reducible refine gate_dst (N := 6) rfl ?_); refine box_event ?hg (N := 6) ?hd (cs := #[.int .i64 0, .slice none 0 0]) (t := 40) ?hr ?_; (case hd => rfl); (case hg => rfl); (case hr => first | (go_simp; done) | (go_simp; rfl)); intro gb253 hg w27 hbox hb; have n0_ := am (Kd.V_below (Kd.V_elderB (pv HO_251001) gb253 (Nat.le_of_eq hg.symm)) hb); have n1_ := bb BK250 hb; have n2_ := bb BK251 hb; have n3_ := am (below_step (pb HB) hb); have n4_ := am (hbox); have n5_ := am ((by rw [hg]; exact (below_size (pb HB)) : w.heap.size ≤ gb253)); have n6_ := am ((by rw [hg]; exact (below_size (pb HB)) : w.heap.size ≤ gb253)); have n7_ := am ((by rw [hg]; exact Nat.ne_of_lt (bl BK250) : gb250 ≠ gb253)); have n8_ := am ((by rw [hg]; exact Nat.ne_of_gt (bl BK250) : gb253 ≠ gb250)); have n9_ := am ((by rw [hg]; exact Nat.ne_of_lt (bl BK251) : gb251 ≠ gb253)); have n10_ := am ((by rw [hg]; exact Nat.ne_of_gt (bl BK251) : gb253 ≠ gb251)); clear HO_251001 BK250 BK251 HB; have HO_251001 := n0_; have BK250 := n1_; have BK251 := n2_; have HB := n3_; have BK253 := n4_; have GW253 := n5_; have GE253 := n6_; have NB250_253 := n7_; have NB253_250 := n8_; have NB251_253 := n9_; have NB253_251 := n10_; clear n0_ n1_ n2_ n3_ n4_ n5_ n6_ n7_ n8_ n9_ n10_ hb hbox hg; have hnb28 := NB253_250.out; have hnc28 := NB250_253.out; have hnb29 := NB253_251.out; have hnc29 := NB251_253.out; have hcz30_0 : w27.cell? ⟨gb253, 0, none⟩ = some (.int .i64 0) := (blk_cell BK253.out 0).trans rfl; have hcz30_1 : w27.cell? ⟨gb253, 1, none⟩ = some (.slice none 0 0) := (blk_cell BK253.out 1).trans rfl; have hfz30_0 := blk_frozen BK253.out 0; have hfz30_1 := blk_frozen BK253.out 1))
       have n0_ : Aside0 (Kd.V (Kd.int .u64) 48 ((w27.setCell ⟨gb253, 0, none⟩ (.int .i64 ((rd_T40 l0 x9_1).f0))).setCell ⟨gb253, 1, none⟩ (.slice A252_1 ((rd_T40 l0 x9_1).f1).length c252_1)) w.heap.size (fun k_ => (P1_1_ k_ ∨ w.heap.size ≤ k_) ∧ k_ ≠ gb250 ∧ k_ ≠ gb251 ∧ k_ ≠ gb253) u251001 x251001_1) := ⟨by (with_reducible repeat (first | apply Kd.V_alloc | apply Kd.V_drewN | apply Kd.V_drew)); exact Kd.V_mono (Kd.V_far (p := ⟨gb253, 1, none⟩) (Kd.V_far (p := ⟨gb253, 0, none⟩) (Kd.V_mono HO_251001.out (fun k_ hk => (⟨hk, hk.2⟩ : _ ∧ k_ ≠ gb253))) (fun _ hk => hk.2) (.int .i64 ((rd_T40 l0 x9_1).f0))) (fun _ hk => hk.2) (.slice A252_1 ((rd_T40 l0 x9_1).f1).length c252_1)) (fun _ hk => ⟨hk.1.1.1, ⟨hk.1.1.2.1, ⟨hk.1.1.2.2, hk.1.2⟩⟩⟩)⟩
       have n1_ : Aside0 (((w27.setCell ⟨gb253, 0, none⟩ (.int .i64 ((rd_T40 l0 x9_1).f0))).setCell ⟨gb253, 1, none⟩ (.slice A252_1 ((rd_T40 l0 x9_1).f1).length c252_1)).heap[gb250]? = some (.cells #[.int .i64 x251000_1, u251001] 40 (0, 0))) := ⟨by (with_reducible repeat (first | refine blk_drewN ?_ _ | refine blk_drew ?_ | refine blk_alloc ?_ _)); refine blk_far ?_ NB250_253.out _; (with_reducible repeat (first | refine blk_drewN ?_ _ | refine blk_drew ?_ | refine blk_alloc ?_ _)); refine blk_far ?_ NB250_253.out _; (with_reducible repeat (first | refine blk_drewN ?_ _ | refine blk_drew ?_ | refine blk_alloc ?_ _)); exact BK250.out⟩
       have n2_ : Aside0 (((w27.setCell ⟨gb253, 0, none⟩ (.int .i64 ((rd_T40 l0 x9_1).f0))).setCell ⟨gb253, 1, none⟩ (.slice A252_1 ((rd_T40 l0 x9_1).f1).length c252_1)).heap[gb251]? = some (.cells #[.int .i64 0, .slice none 0 0] 40 (0, 0))) := ⟨by (with_reducible repeat (first | refine blk_drewN ?_ _ | refine blk_drew ?_ | refine blk_alloc ?_ _)); refine blk_far ?_ NB251_253.out _; (with_reducible repeat (first | refine blk_drewN ?_ _ | refine blk_drew ?_ | refine blk_alloc ?_ _)); refine blk_far ?_ NB251_253.out _; (with_reducible repeat (first | refine blk_drewN ?_ _ | refine blk_drew ?_ | refine blk_alloc ?_ _)); exact BK251.out⟩
       have n3_ : Aside0 (((w27.setCell ⟨gb253, 0, none⟩ (.int .i64 ((rd_T40 l0 x9_1).f0))).setCell ⟨gb253, 1, none⟩ (.slice A252_1 ((rd_T40 l0 x9_1).f1).length c252_1)).heap[gb253]? = some (.cells #[.int .i64 ((rd_T40 l0 x9_1).f0), .slice A252_1 ((rd_T40 l0 x9_1).f1).length c252_1] 40 (0, 0))) := ⟨by (with_reducible repeat (first | refine blk_drewN ?_ _ | refine blk_drew ?_ | refine blk_alloc ?_ _)); refine blk_put (cs := #[.int .i64 ((rd_T40 l0 x9_1).f0), .slice none 0 0]) ?_ 1 _ rfl; (with_reducible repeat (first | refine blk_drewN ?_ _ | refine blk_drew ?_ | refine blk_alloc ?_ _)); refine blk_put (cs := #[.int .i64 0, .slice none 0 0]) ?_ 0 _ rfl; (with_reducible repeat (first | refine blk_drewN ?_ _ | refine blk_drew ?_ | refine blk_alloc ?_ _)); exact BK253.out⟩
       have n4_ : Aside0 (Below w.heap.size w ((w27.setCell ⟨gb253, 0, none⟩ (.int .i64 ((rd_T40 l0 x9_1).f0))).setCell ⟨gb253, 1, none⟩ (.slice A252_1 ((rd_T40 l0 x9_1).f1).length c252_1))) := ⟨pb HB⟩
       (try clear HO_251001)
       (try clear BK250)
       (try clear BK251)
       (try clear BK253)
       (try clear HB)
       generalize ((w27.setCell ⟨gb253, 0, none⟩ (.int .i64 ((rd_T40 l0 x9_1).f0))).setCell ⟨gb253, 1, none⟩ (.slice A252_1 ((rd_T40 l0 x9_1).f1).length c252_1)) = w31 at n0_ n1_ n2_ n3_ n4_ ⊢
       have HO_251001 := n0_
       have BK250 := n1_
       have BK251 := n2_
       have BK253 := n3_
       have HB := n4_
       clear n0_ n1_ n2_ n3_ n4_
       have n0_ := am (Kd.V_drew HO_251001.out)
       have n1_ := am (blk_drew BK250.out)
       have n2_ := am (blk_drew BK251.out)
       have n3_ := am (blk_drew BK253.out)
       have n4_ := am (below_drew1 HB.out)
       clear HO_251001
       clear BK250
       clear BK251
       clear BK253
       clear HB
       have HO_251001 := n0_
       have BK250 := n1_
       have BK251 := n2_
       have BK253 := n3_
       have HB := n4_
       clear n0_ n1_ n2_ n3_ n4_
       refine start_ (n := 5) (S := fun w' => w'.cell? ⟨gb250, 0, none⟩ = some (.int .i64 x251000_1) ∧ w'.cell? ⟨gb250, 1, none⟩ = some (u251001) ∧ w'.cell? ⟨gb253, 0, none⟩ = some (.int .i64 ((rd_T40 l0 x9_1).f0)) ∧ w'.cell? ⟨gb253, 1, none⟩ = some (.slice A252_1 ((rd_T40 l0 x9_1).f1).length c252_1)) (ds := []) #[F, F, F, F, F] (by kernel_rfl) rfl rfl ⟨(blk_cell BK250.out 0).trans rfl, (blk_cell BK250.out 1).trans rfl, (blk_cell BK253.out 0).trans rfl, (blk_cell BK253.out 1).trans rfl⟩ (fun hHeld => ?_)
       generalize w31.drew = w32 at HO_251001 BK250 BK251 BK253 HB hHeld ⊢
       refine take_ (i := 0) (N := some 13) (v := ?_) (a' := ?_) #[T, F, F, F, F] rfl rfl (by kernel_rfl) (fun _ _ _ h => h) (Or.inl ⟨by rfl, ?_⟩) hHeld ?_ ?_
       rotate_left
       ·
        rintro w' ⟨s0, s1, s2, s3⟩
        go_simp
        with_reducible rfl
       rotate_left
       ·
        simp only [Act.put, q1, q2, q3, i64_w, i32_w]
        rfl
       refine take_ (i := 1) (N := some 14) (v := ?_) (a' := ?_) #[T, T, F, F, F] rfl rfl (by kernel_rfl) (fun _ _ _ h => h) (Or.inl ⟨by rfl, ?_⟩) hHeld ?_ ?_
       rotate_left
       ·
        rintro w' ⟨s0, s1, s2, s3⟩
        go_simp
        with_reducible rfl
       rotate_left
       ·
        simp only [Act.put, q1, q2, q3, i64_w, i32_w]
        rfl
       refine one_ (i := 2) (N := some 15) #[T, T, T, F, F] rfl rfl (by kernel_rfl) (by decide) (fun K hK => ?_)
       refine goes_ Try.func31 (by kernel_rfl) rfl #[.agg #[.int .i64 ((rd_T40 l0 x9_1).f0), .slice A252_1 ((rd_T40 l0 x9_1).f1).length c252_1]] (by rfl) rfl rfl (by (try simp only [List.map_toArray, List.map_cons, List.map_nil]); first | done | rfl | (simp only [List.length_drop, List.length_take]; rfl)) ?_
       with_reducible refine (downpourref04_First.calls k1 ((rd_T40 l0 x9_1).f0) _ _ ((rd_T40 l0 x9_1).f1) t254 _ ?side1 ?side2 A8.out).mono ?_
       (case side1 => repeat (first | exact (Kd.C_below HR252_1.out HB.out) | (with_reducible refine Kd.C_alloc ?_ _) | (with_reducible refine Kd.C_drewN ?_ _) | (with_reducible refine Kd.C_drew ?_)))
       (case side2 => exact HC252_1.out)
       rintro e w33 ⟨rfl, hb⟩
       refine ⟨_, rfl, ?_⟩
       have n0_ := am (Kd.V_below (pv HO_251001) hb)
       have n1_ := bb BK250 hb
       have n2_ := bb BK251 hb
       have n3_ := bb BK253 hb
       have n4_ := am (below_step (pb HB) hb)
       clear HO_251001
       clear BK250
       clear BK251
       clear BK253
       clear HB
       have HO_251001 := n0_
       have BK250 := n1_
       have BK251 := n2_
       have BK253 := n3_
       have HB := n4_
       clear n0_ n1_ n2_ n3_ n4_
       (try clear hb)
       (try clear hb2)
       (try clear hk)
       (try clear hi)
       obtain ⟨Ao34, co34, eo34⟩ := Kd.V_slice HO_251001.out
       (first | subst eo34 | (injection eo34 with f1_ f2_ f3_; have f4_ := f1_.symm; have f5_ := f3_.symm; clear f1_ f2_ f3_; subst f4_; subst f5_))
       refine hK.out _ _ ⟨(blk_cell BK250.out 0).trans rfl, (blk_cell BK250.out 1).trans rfl, (blk_cell BK253.out 0).trans rfl, (blk_cell BK253.out 1).trans rfl⟩ (fun hHeld => ?_)
       clear hK K
       refine norm_ (a' := ?_) ?_ ?_
       rotate_left
       ·
        show Act.put _ (some 15) _ = _
        simp only [Act.put, q1, q2, q3, i64_w, i32_w]
        rfl
       refine one_ (i := 3) (N := some 16) #[T, T, T, T, F] rfl rfl (by kernel_rfl) (by decide) (fun K hK => ?_)
       refine goes_ Try.func39 (by kernel_rfl) rfl #[.agg #[.int .i64 x251000_1, .slice Ao34 x251001_1.length co34], .int .i64 t254] (by rfl) rfl rfl (by (try simp only [List.map_toArray, List.map_cons, List.map_nil]); first | done | rfl | (simp only [List.length_drop, List.length_take]; rfl)) ?_
       with_reducible refine (downpourref01_Bit.calls x251000_1 _ _ x251001_1 t254 t255 _ ?side1 ?side2 A9.out).mono ?_
       (case side1 => repeat (first | exact (Kd.V_reads' HO_251001.out).2.2 | (with_reducible refine Kd.C_alloc ?_ _) | (with_reducible refine Kd.C_drewN ?_ _) | (with_reducible refine Kd.C_drew ?_)))
       (case side2 => exact (Kd.V_reads' HO_251001.out).2.1)
       rintro e w35 ⟨rfl, hb⟩
       refine ⟨_, rfl, ?_⟩
       have n0_ := am (Kd.V_below (pv HO_251001) hb)
       have n1_ := bb BK250 hb
       have n2_ := bb BK251 hb
       have n3_ := bb BK253 hb
       have n4_ := am (below_step (pb HB) hb)
       clear HO_251001
       clear BK250
       clear BK251
       clear BK253
       clear HB
       have HO_251001 := n0_
       have BK250 := n1_
       have BK251 := n2_
       have BK253 := n3_
       have HB := n4_
       clear n0_ n1_ n2_ n3_ n4_
       (try clear hb)
       (try clear hb2)
       (try clear hk)
       (try clear hi)
       refine hK.out _ _ ⟨(blk_cell BK250.out 0).trans rfl, (blk_cell BK250.out 1).trans rfl, (blk_cell BK253.out 0).trans rfl, (blk_cell BK253.out 1).trans rfl⟩ (fun hHeld => ?_)
       clear hK K
       refine norm_ (a' := ?_) ?_ ?_
       rotate_left
       ·
        show Act.put _ (some 16) _ = _
        simp only [Act.put, q1, q2, q3, i64_w, i32_w]
        rfl
       refine pure_ (i := 4) (N := some 17) (v := ?_) (a' := ?_) #[T, T, T, T, T] rfl rfl (by kernel_rfl) (fun _ _ _ h => h) (Or.inl ⟨by rfl, ?_⟩) ?_ ?_
       rotate_left
       ·
        intro w'
        go_simp
        with_reducible rfl
       rotate_left
       ·
        simp only [Act.put, q1, q2, q3, i64_w, i32_w]
        rfl
       refine done_ (by kernel_rfl) ?_
       try go_wp2
       go_roundg k1
       case measure => have := HK1.out; omega
       case rel => exact ⟨(wrap64 (x9_1 + 1)), (x251000_1), (x251001_1), (.slice Ao34 x251001_1.length co34), (by first | rfl | (simp; done) | (simp [*]; done)), H', ⟨by have := HK1.out; omega⟩, ⟨by (with_reducible repeat (first | apply Kd.V_alloc | apply Kd.V_drewN | apply Kd.V_drew)); exact Kd.V_mono HO_251001.out (fun _ hk => ⟨hk.1, ⟨hk.2.1, hk.2.2.1⟩⟩)⟩, ⟨by (with_reducible repeat (first | refine blk_drewN ?_ _ | refine blk_drew ?_ | refine blk_alloc ?_ _)); exact BK250.out⟩, ⟨by (with_reducible repeat (first | refine blk_drewN ?_ _ | refine blk_drew ?_ | refine blk_alloc ?_ _)); exact BK251.out⟩, ⟨pb HB⟩⟩
     ·
      rw [if_neg c7] at H
      exact absurd H (by simp)
    ·
     rw [if_neg c6] at H
     exact absurd H (by simp)
   ·
    rw [if_neg c5] at H
    have c5b0 : decide (x9_1 < (l0.length : Int)) = false := decide_eq_false c5
    clear c5
    simp only [Option.some.injEq, Prod.mk.injEq] at H
    obtain ⟨rfl, rfl⟩ := H
    have hnb36 := NB250_251.out
    have hnc36 := NB251_250.out
    have hcz37_0 : wr.cell? ⟨gb250, 0, none⟩ = some (.int .i64 x251000_1) := (blk_cell BK250.out 0).trans rfl
    have hcz37_1 : wr.cell? ⟨gb250, 1, none⟩ = some (u251001) := (blk_cell BK250.out 1).trans rfl
    have hfz37_0 := blk_frozen BK250.out 0
    have hfz37_1 := blk_frozen BK250.out 1
    have hcz38_0 : wr.cell? ⟨gb251, 0, none⟩ = some (.int .i64 0) := (blk_cell BK251.out 0).trans rfl
    have hcz38_1 : wr.cell? ⟨gb251, 1, none⟩ = some (.slice none 0 0) := (blk_cell BK251.out 1).trans rfl
    have hfz38_0 := blk_frozen BK251.out 0
    have hfz38_1 := blk_frozen BK251.out 1
    obtain ⟨Ao39, co39, eo39⟩ := Kd.V_slice HO_251001.out
    subst eo39
    go_wp2
    refine bodyPost_ret (results_cell_row rfl _ _ gb251 40 #[.int .i64 x251000_1, .slice Ao39 x251001_1.length co39] (0, 0) _ rfl (by (with_reducible repeat (first | refine blk_drewN ?_ _ | refine blk_drew ?_ | refine blk_alloc ?_ _)); refine blk_put (cs := #[.int .i64 x251000_1, .slice none 0 0]) ?_ 1 _ rfl; (with_reducible repeat (first | refine blk_drewN ?_ _ | refine blk_drew ?_ | refine blk_alloc ?_ _)); refine blk_put (cs := #[.int .i64 0, .slice none 0 0]) ?_ 0 _ rfl; (with_reducible repeat (first | refine blk_drewN ?_ _ | refine blk_drew ?_ | refine blk_alloc ?_ _)); exact BK251.out) Try.underlying40 rfl (by kernel_rfl)) rfl ?_
    exact ⟨_, by first | rfl | (simp [errW_none, errW_some] <;> rfl) | (simp [*, errW_none, errW_some] <;> rfl), by (with_reducible repeat (first | apply Kd.V_alloc | apply Kd.V_drewN | apply Kd.V_drew)); exact Kd.V_mono (Kd.V_far (p := ⟨gb251, 1, none⟩) (Kd.V_far (p := ⟨gb251, 0, none⟩) (Kd.V_mono HO_251001.out (fun k_ hk => (⟨hk, hk.2.2⟩ : _ ∧ k_ ≠ gb251))) (fun _ hk => hk.2) (.int .i64 x251000_1)) (fun _ hk => hk.2) (.slice Ao39 x251001_1.length co39)) (fun _ hk => hk.1.1), pb HB⟩

end Go.Proofs.Ytfcedhejbnoinaa.PC
