-- PRINTED by print.py (a twelfth state) out of the translation. Not trusted: Lean checks it.
import Derived.Test.YtfdcjkhckjnaeaaPDx0
import Derived.Test.YtfdcjkhckjnaeaaPDx1
import Derived.Test.YtfdcjkhckjnaeaaPDx5
namespace Go.Proofs.Ytfdcjkhckjnaeaa.PD
open Go.RowKit Go.Proofs.YtfdcjkhckjnaeaaW.PrintWords Go.Proofs.YtfdcjkhckjnaeaaW.PrintLast Go.Proofs.YtfdcjkhckjnaeaaW.PrintMore
attribute [local go_sem] run_store_func max2_int min2_int max_two min_two max_three min_three max_four min_four   -- for this text's walks alone
set_option linter.unusedVariables false
set_option linter.unusedSimpArgs false

/-! ### api_Row_24: function 126 -/
def api_Row_24.l0 : Nat → List (S25) → List (S25) → Int → Int → Option (Bool)
 | 0, _, _, _, _ => none
 | k + 1, x1, x15, x16, x17 => if x17 < x16 then (if 0 ≤ x17 then (if x17 < (x15.length : Int) then (if x17 < (x1.length : Int) then ((bitrow_Like.f k ((rd_T25 x15 x17).f0) ((rd_T25 x15 x17).f1) ((rd_T25 x1 x17).f0) ((rd_T25 x1 x17).f1)).bind fun t256 => (if t256 = true then (api_Row_24.l0 k x1 x15 x16 (wrap64 (x17 + 1))) else (some false))) else (none)) else (none)) else (none)) else (some true)
def api_Row_24.f (k : Nat) (l0 : List (S25)) (l1 : List (S25))  : Option (Bool) := if (l0.length : Int) = (l1.length : Int) then (api_Row_24.l0 k l1 l0 (l0.length : Int) 0) else (some false)
theorem api_Row_24.mono_l : ∀ k, (∀ y0 y1 y2 y3, LeO (api_Row_24.l0 k y0 y1 y2 y3) (api_Row_24.l0 (k + 1) y0 y1 y2 y3))
 | 0 => fun _ _ _ _ r h => by simp [api_Row_24.l0] at h
 | k + 1 => by
  have ih0 := api_Row_24.mono_l k
  ·
   intro y0 y1 y2 y3
   unfold api_Row_24.l0
   repeat' first
   | (with_reducible exact ih0 _ _ _ _)
   | (with_reducible exact bitrow_Like.mono _ _ _ _ _)
   | (with_reducible exact LeO.refl _)
   | (with_reducible exact LeO.none _)
   | (with_reducible refine LeO.ite ?_ ?_)
   | (with_reducible refine LeO.bind ?_ (fun _ => ?_))
   | exact ih0 _ _ _ _
   | exact bitrow_Like.mono _ _ _ _ _
   | exact LeO.none _
   | refine LeO.ite ?_ ?_
   | refine LeO.bind ?_ (fun _ => ?_)
theorem api_Row_24.mono : ∀ a0 a1 k, LeO (api_Row_24.f k a0 a1) (api_Row_24.f (k + 1) a0 a1) := by
 intro a0 a1 k
 have ih0 := api_Row_24.mono_l k
 unfold api_Row_24.f
 repeat' first
   | (with_reducible exact ih0 _ _ _ _)
   | (with_reducible exact bitrow_Like.mono _ _ _ _ _)
   | (with_reducible exact LeO.refl _)
   | (with_reducible exact LeO.none _)
   | (with_reducible refine LeO.ite ?_ ?_)
   | (with_reducible refine LeO.bind ?_ (fun _ => ?_))
   | exact ih0 _ _ _ _
   | exact bitrow_Like.mono _ _ _ _ _
   | exact LeO.none _
   | refine LeO.ite ?_ ?_
   | refine LeO.bind ?_ (fun _ => ?_)
set_option maxHeartbeats 8000000 in
set_option maxRecDepth 100000 in
theorem api_Row_24.calls (k : Nat) (A0 : Option Addr) (c0 : Nat) (l0 : List (S25)) (A1 : Option Addr) (c1 : Nat) (l1 : List (S25))  (r : Bool) (w : World) (hr0 : Kd.C k25 w A0 l0.length l0) (hc0 : l0.length ≤ c0) (hr1 : Kd.C k25 w A1 l1.length l1) (hc1 : l1.length ≤ c1) (h : api_Row_24.f k l0 l1 = some r) :
  Calls Try.prog 126 #[.slice A0 l0.length c0, .slice A1 l1.length c1, (.func (.func 24) #[] #[])] w fun e w' => e = .returned (.bool r) ∧ Below w.heap.size w w' := by
 have hu25 := Try.underlying25
 have HR0 := Aside0.mk hr0
 have HC0 := Aside0.mk hc0
 clear hr0 hc0
 have HR1 := Aside0.mk hr1
 have HC1 := Aside0.mk hc1
 clear hr1 hc1
 have HB := am (Below.refl w.heap.size w)
 have H : (if (l0.length : Int) = (l1.length : Int) then (api_Row_24.l0 k l1 l0 (l0.length : Int) 0) else (some false)) = some r := h
 clear h
 by_cases c4 : (l0.length : Int) = (l1.length : Int)
 ·
  rw [if_pos c4] at H
  have c4b0 : ((l0.length : Int) == (l1.length : Int)) = true := beq_iff_eq.mpr c4
  have c4b1 : ((l0.length : Int) != (l1.length : Int)) = false := bne_eq_false_iff_eq.mpr c4
  have c4b2 : (l0.length == l1.length) = true := by first | simpa using c4 | (simp at c4 ⊢; omega)
  clear c4
  have H' := Aside0.mk H
  clear H
  go_enter Try.func126, Try.ntmps126
  go_wp2
  go_loopg [17] k (fun kq v17 w' => ∃ (x17_1 : Int), v17 = .int .i64 x17_1 ∧ Aside0 (api_Row_24.l0 kq l1 l0 (l0.length : Int) x17_1 = some r) ∧ Aside0 (kq ≤ k) ∧ Aside0 (Below w.heap.size w w'))
  case atStart => exact ⟨(0), (by first | rfl | (simp; done) | (simp [*]; done)), H', ⟨Nat.le_refl _⟩, ⟨pb HB⟩⟩
  case round =>
   clear H'
   try clear c1
   try clear p2
   try clear c4
   try clear c4b0
   try clear c4b1
   try clear c4b2
   obtain ⟨x17_1, rfl, HA, HK1, HB⟩ := hrel
   cases gk with
   | zero => exact absurd HA.out (by simp [api_Row_24.l0])
   | succ k1 =>
    have H := HA.out
    clear HA
    simp only [api_Row_24.l0] at H
    by_cases c5 : x17_1 < (l0.length : Int)
    ·
     rw [if_pos c5] at H
     have c5b0 : decide (x17_1 < (l0.length : Int)) = true := decide_eq_true c5
     clear c5
     by_cases c6 : 0 ≤ x17_1
     ·
      rw [if_pos c6] at H
      have c6b0 : decide (0 ≤ x17_1) = true := decide_eq_true c6
      clear c6
      by_cases c7 : x17_1 < (l0.length : Int)
      ·
       rw [if_pos c7] at H
       have c7b0 : decide (x17_1 < (l0.length : Int)) = true := decide_eq_true c7
       clear c7
       by_cases c8 : x17_1 < (l1.length : Int)
       ·
        rw [if_pos c8] at H
        have c8b0 : decide (x17_1 < (l1.length : Int)) = true := decide_eq_true c8
        clear c8
        replace H := Option.bind_eq_some_iff.mp H
        obtain ⟨t256, A90, H⟩ := H
        replace H : (if t256 = true then (api_Row_24.l0 k1 l1 l0 (l0.length : Int) (wrap64 (x17_1 + 1))) else (some false)) = some r := H
        have A9 := Aside0.mk A90
        clear A90
        by_cases c10 : t256 = true
        ·
         subst c10
         have H1 : (api_Row_24.l0 k1 l1 l0 (l0.length : Int) (wrap64 (x17_1 + 1))) = some r := by rw [if_pos rfl] at H; exact H
         clear H
         have H := H1
         clear H1
         have H' := Aside0.mk H
         clear H
         have p252 : 0 ≤ (x17_1 : Int) := of_decide_eq_true (by first | (with_reducible assumption) | assumption)
         have q252 : x17_1 < (l0.length : Int) := of_decide_eq_true (by first | (with_reducible assumption) | assumption)
         obtain ⟨ad252, A252_1, c252_1, e252, hx252_0, hx252_1, hl252_1, hi252_1⟩ := at_T25 HR0.out x17_1 p252 q252
         cases e252
         replace hx252_0 := (HB.out.cell (World.block_lt_of_cell? w _ hx252_0)).trans hx252_0
         replace hx252_1 := (HB.out.cell (World.block_lt_of_cell? w _ hx252_1)).trans hx252_1
         have HR252_1 := Aside0.mk hi252_1
         have HC252_1 := Aside0.mk hl252_1
         clear hi252_1 hl252_1
         replace p252 := eq_true p252
         replace q252 := eq_true q252
         go_wp2_with (first | ((with_reducible refine gate_dst (N := 8) rfl ?_); refine box_event ?hg (N := 8) ?hd (cs := #[.int .i64 0, .slice none 0 0]) (t := 25) ?hr ?_; (case hd => rfl); (case hg => rfl); (case hr => first | (go_simp; done) | (go_simp; rfl)); intro gb253 hg w11 hbox hb; have n0_ := am (below_step (pb HB) hb); have n1_ := am (hbox); have n2_ := am ((by rw [hg]; exact (below_size (pb HB)) : w.heap.size ≤ gb253)); have n3_ := am ((by rw [hg]; exact (below_size (pb HB)) : w.heap.size ≤ gb253)); clear HB; have HB := n0_; have BK253 := n1_; have GW253 := n2_; have GE253 := n3_; clear n0_ n1_ n2_ n3_ hb hbox hg; have hcz12_0 : w11.cell? ⟨gb253, 0, none⟩ = some (.int .i64 0) := (blk_cell BK253.out 0).trans rfl; have hcz12_1 : w11.cell? ⟨gb253, 1, none⟩ = some (.slice none 0 0) := (blk_cell BK253.out 1).trans rfl; have hfz12_0 := blk_frozen BK253.out 0; have hfz12_1 := blk_frozen BK253.out 1; have p254 : 0 ≤ (x17_1 : Int) := of_decide_eq_true (by first | (with_reducible assumption) | assumption); have q254 : x17_1 < (l1.length : Int) := of_decide_eq_true (by first | (with_reducible assumption) | assumption); obtain ⟨ad254, A254_1, c254_1, e254, hx254_0, hx254_1, hl254_1, hi254_1⟩ := at_T25 HR1.out x17_1 p254 q254; cases e254; have hn254_0 : ad254.block ≠ gb253 := Nat.ne_of_lt (Nat.lt_of_lt_of_le (by have := World.block_lt_of_cell? _ _ hx254_0; first | rwa [add_block] at this | exact this) GW253.out); have hn254_1 : ad254.block ≠ gb253 := Nat.ne_of_lt (Nat.lt_of_lt_of_le (by have := World.block_lt_of_cell? _ _ hx254_0; first | rwa [add_block] at this | exact this) GW253.out); replace hx254_0 := (HB.out.cell (World.block_lt_of_cell? w _ hx254_0)).trans hx254_0; replace hx254_1 := (HB.out.cell (World.block_lt_of_cell? w _ hx254_1)).trans hx254_1; have HR254_1 := Aside0.mk hi254_1; have HC254_1 := Aside0.mk hl254_1; clear hi254_1 hl254_1; replace hx254_0 := (cell_far (p := ⟨gb253, 0, none⟩) (by first | (rw [add_block]; exact hn254_0) | (show (Addr.add _ _).block ≠ _; rw [add_block]; exact hn254_0) | exact hn254_0) (.int .i64 ((rd_T25 l0 x17_1).f0))).trans hx254_0; replace hx254_1 := (cell_far (p := ⟨gb253, 0, none⟩) (by first | (rw [add_block]; exact hn254_0) | (show (Addr.add _ _).block ≠ _; rw [add_block]; exact hn254_0) | exact hn254_0) (.int .i64 ((rd_T25 l0 x17_1).f0))).trans hx254_1; replace hx254_0 := (cell_far (p := ⟨gb253, 1, none⟩) (by first | (rw [add_block]; exact hn254_1) | (show (Addr.add _ _).block ≠ _; rw [add_block]; exact hn254_1) | exact hn254_1) (.slice A252_1 ((rd_T25 l0 x17_1).f1).length c252_1)).trans hx254_0; replace hx254_1 := (cell_far (p := ⟨gb253, 1, none⟩) (by first | (rw [add_block]; exact hn254_1) | (show (Addr.add _ _).block ≠ _; rw [add_block]; exact hn254_1) | exact hn254_1) (.slice A252_1 ((rd_T25 l0 x17_1).f1).length c252_1)).trans hx254_1; clear hn254_0 hn254_1; replace p254 := eq_true p254; replace q254 := eq_true q254) | ((with_reducible refine gate_dst (N := 9) rfl ?_); refine box_event ?hg (N := 9) ?hd (cs := #[.int .i64 0, .slice none 0 0]) (t := 25) ?hr ?_; (case hd => rfl); (case hg => rfl); (case hr => first | (go_simp; done) | (go_simp; rfl)); intro gb255 hg w13 hbox hb; have n0_ := am (blk_below (g := gb253) (o := .cells #[.int .i64 ((rd_T25 l0 x17_1).f0), .slice A252_1 ((rd_T25 l0 x17_1).f1).length c252_1] 25 (0, 0)) (by (with_reducible repeat (first | refine blk_drewN ?_ _ | refine blk_drew ?_ | refine blk_alloc ?_ _)); refine blk_put (cs := #[.int .i64 ((rd_T25 l0 x17_1).f0), .slice none 0 0]) ?_ 1 _ rfl; (with_reducible repeat (first | refine blk_drewN ?_ _ | refine blk_drew ?_ | refine blk_alloc ?_ _)); refine blk_put (cs := #[.int .i64 0, .slice none 0 0]) ?_ 0 _ rfl; (with_reducible repeat (first | refine blk_drewN ?_ _ | refine blk_drew ?_ | refine blk_alloc ?_ _)); exact BK253.out) hb); have n1_ := am (below_step (pb HB) hb); have n2_ := am (hbox); have n3_ := am ((by rw [hg]; exact (below_size (pb HB)) : w.heap.size ≤ gb255)); have n4_ := am ((by rw [hg]; exact (below_size (pb HB)) : w.heap.size ≤ gb255)); have n5_ := am ((by rw [hg]; exact Nat.ne_of_lt (blk_lt (g := gb253) (o := .cells #[.int .i64 ((rd_T25 l0 x17_1).f0), .slice A252_1 ((rd_T25 l0 x17_1).f1).length c252_1] 25 (0, 0)) (by (with_reducible repeat (first | refine blk_drewN ?_ _ | refine blk_drew ?_ | refine blk_alloc ?_ _)); refine blk_put (cs := #[.int .i64 ((rd_T25 l0 x17_1).f0), .slice none 0 0]) ?_ 1 _ rfl; (with_reducible repeat (first | refine blk_drewN ?_ _ | refine blk_drew ?_ | refine blk_alloc ?_ _)); refine blk_put (cs := #[.int .i64 0, .slice none 0 0]) ?_ 0 _ rfl; (with_reducible repeat (first | refine blk_drewN ?_ _ | refine blk_drew ?_ | refine blk_alloc ?_ _)); exact BK253.out)) : gb253 ≠ gb255)); have n6_ := am ((by rw [hg]; exact Nat.ne_of_gt (blk_lt (g := gb253) (o := .cells #[.int .i64 ((rd_T25 l0 x17_1).f0), .slice A252_1 ((rd_T25 l0 x17_1).f1).length c252_1] 25 (0, 0)) (by (with_reducible repeat (first | refine blk_drewN ?_ _ | refine blk_drew ?_ | refine blk_alloc ?_ _)); refine blk_put (cs := #[.int .i64 ((rd_T25 l0 x17_1).f0), .slice none 0 0]) ?_ 1 _ rfl; (with_reducible repeat (first | refine blk_drewN ?_ _ | refine blk_drew ?_ | refine blk_alloc ?_ _)); refine blk_put (cs := #[.int .i64 0, .slice none 0 0]) ?_ 0 _ rfl; (with_reducible repeat (first | refine blk_drewN ?_ _ | refine blk_drew ?_ | refine blk_alloc ?_ _)); exact BK253.out)) : gb255 ≠ gb253)); clear BK253 HB; have BK253 := n0_; have HB := n1_; have BK255 := n2_; have GW255 := n3_; have GE255 := n4_; have NB253_255 := n5_; have NB255_253 := n6_; clear n0_ n1_ n2_ n3_ n4_ n5_ n6_ hb hbox hg; have hnb14 := NB255_253.out; have hnc14 := NB253_255.out; have hcz15_0 : w13.cell? ⟨gb255, 0, none⟩ = some (.int .i64 0) := (blk_cell BK255.out 0).trans rfl; have hcz15_1 : w13.cell? ⟨gb255, 1, none⟩ = some (.slice none 0 0) := (blk_cell BK255.out 1).trans rfl; have hfz15_0 := blk_frozen BK255.out 0; have hfz15_1 := blk_frozen BK255.out 1; have hcz16_0 : w13.cell? ⟨gb253, 0, none⟩ = some (.int .i64 ((rd_T25 l0 x17_1).f0)) := (blk_cell BK253.out 0).trans rfl; have hcz16_1 : w13.cell? ⟨gb253, 1, none⟩ = some (.slice A252_1 ((rd_T25 l0 x17_1).f1).length c252_1) := (blk_cell BK253.out 1).trans rfl; have hfz16_0 := blk_frozen BK253.out 0; have hfz16_1 := blk_frozen BK253.out 1) | ((with_reducible refine gate_calleeT (t := 26) rfl ?_); refine goesLT_ 26 (some 29) rfl rfl Try.func24 (by kernel_rfl) rfl #[.agg #[.int .i64 ((rd_T25 l0 x17_1).f0), .slice A252_1 ((rd_T25 l0 x17_1).f1).length c252_1], .agg #[.int .i64 ((rd_T25 l1 x17_1).f0), .slice A254_1 ((rd_T25 l1 x17_1).f1).length c254_1]] #[] #[.agg #[.int .i64 ((rd_T25 l0 x17_1).f0), .slice A252_1 ((rd_T25 l0 x17_1).f1).length c252_1], .agg #[.int .i64 ((rd_T25 l1 x17_1).f0), .slice A254_1 ((rd_T25 l1 x17_1).f1).length c254_1]] rfl (by rfl) (by (try simp only [List.map_toArray, List.map_cons, List.map_nil]); first | done | rfl | (simp only [List.length_drop, List.length_take]; rfl)) (by rfl) ?_; (with_reducible refine (bitrow_Like.calls k1 ((rd_T25 l0 x17_1).f0) _ _ ((rd_T25 l0 x17_1).f1) ((rd_T25 l1 x17_1).f0) _ _ ((rd_T25 l1 x17_1).f1) true _ ?side1 ?side2 ?side3 ?side4 A9.out).mono ?_); (case side1 => exact Kd.C_below HR252_1.out (pb HB)); (case side2 => exact HC252_1.out); (case side3 => exact Kd.C_below HR254_1.out (pb HB)); (case side4 => exact HC254_1.out); rintro e w17 ⟨rfl, hb⟩; refine ⟨_, rfl, ?_⟩; have n0_ := am (blk_below (g := gb253) (o := .cells #[.int .i64 ((rd_T25 l0 x17_1).f0), .slice A252_1 ((rd_T25 l0 x17_1).f1).length c252_1] 25 (0, 0)) (by (with_reducible repeat (first | refine blk_drewN ?_ _ | refine blk_drew ?_ | refine blk_alloc ?_ _)); refine blk_far ?_ NB253_255.out _; (with_reducible repeat (first | refine blk_drewN ?_ _ | refine blk_drew ?_ | refine blk_alloc ?_ _)); refine blk_far ?_ NB253_255.out _; (with_reducible repeat (first | refine blk_drewN ?_ _ | refine blk_drew ?_ | refine blk_alloc ?_ _)); exact BK253.out) hb); have n1_ := am (blk_below (g := gb255) (o := .cells #[.int .i64 ((rd_T25 l1 x17_1).f0), .slice A254_1 ((rd_T25 l1 x17_1).f1).length c254_1] 25 (0, 0)) (by (with_reducible repeat (first | refine blk_drewN ?_ _ | refine blk_drew ?_ | refine blk_alloc ?_ _)); refine blk_put (cs := #[.int .i64 ((rd_T25 l1 x17_1).f0), .slice none 0 0]) ?_ 1 _ rfl; (with_reducible repeat (first | refine blk_drewN ?_ _ | refine blk_drew ?_ | refine blk_alloc ?_ _)); refine blk_put (cs := #[.int .i64 0, .slice none 0 0]) ?_ 0 _ rfl; (with_reducible repeat (first | refine blk_drewN ?_ _ | refine blk_drew ?_ | refine blk_alloc ?_ _)); exact BK255.out) hb); have n2_ := am (below_step (pb HB) hb); clear BK253 BK255 HB; have BK253 := n0_; have BK255 := n1_; have HB := n2_; clear n0_ n1_ n2_; (try clear hb); (try clear hb2); (try clear hk); (try clear hi)))
         go_roundg k1
         case measure => have := HK1.out; omega
         case rel => exact ⟨(wrap64 (x17_1 + 1)), (by first | rfl | (simp; done) | (simp [*]; done)), H', ⟨by have := HK1.out; omega⟩, ⟨pb HB⟩⟩
        ·
         replace c10 := Bool.eq_false_iff.mpr c10
         subst c10
         have H1 : (some false) = some r := by rw [if_neg (show ¬ (false = true) by decide)] at H; exact H
         clear H
         have H := H1
         clear H1
         obtain rfl := Option.some.inj H
         have p252 : 0 ≤ (x17_1 : Int) := of_decide_eq_true (by first | (with_reducible assumption) | assumption)
         have q252 : x17_1 < (l0.length : Int) := of_decide_eq_true (by first | (with_reducible assumption) | assumption)
         obtain ⟨ad252, A252_1, c252_1, e252, hx252_0, hx252_1, hl252_1, hi252_1⟩ := at_T25 HR0.out x17_1 p252 q252
         cases e252
         replace hx252_0 := (HB.out.cell (World.block_lt_of_cell? w _ hx252_0)).trans hx252_0
         replace hx252_1 := (HB.out.cell (World.block_lt_of_cell? w _ hx252_1)).trans hx252_1
         have HR252_1 := Aside0.mk hi252_1
         have HC252_1 := Aside0.mk hl252_1
         clear hi252_1 hl252_1
         replace p252 := eq_true p252
         replace q252 := eq_true q252
         go_wp2_with (first | ((with_reducible refine gate_dst (N := 8) rfl ?_); refine box_event ?hg (N := 8) ?hd (cs := #[.int .i64 0, .slice none 0 0]) (t := 25) ?hr ?_; (case hd => rfl); (case hg => rfl); (case hr => first | (go_simp; done) | (go_simp; rfl)); intro gb253 hg w18 hbox hb; have n0_ := am (below_step (pb HB) hb); have n1_ := am (hbox); have n2_ := am ((by rw [hg]; exact (below_size (pb HB)) : w.heap.size ≤ gb253)); have n3_ := am ((by rw [hg]; exact (below_size (pb HB)) : w.heap.size ≤ gb253)); clear HB; have HB := n0_; have BK253 := n1_; have GW253 := n2_; have GE253 := n3_; clear n0_ n1_ n2_ n3_ hb hbox hg; have hcz19_0 : w18.cell? ⟨gb253, 0, none⟩ = some (.int .i64 0) := (blk_cell BK253.out 0).trans rfl; have hcz19_1 : w18.cell? ⟨gb253, 1, none⟩ = some (.slice none 0 0) := (blk_cell BK253.out 1).trans rfl; have hfz19_0 := blk_frozen BK253.out 0; have hfz19_1 := blk_frozen BK253.out 1; have p254 : 0 ≤ (x17_1 : Int) := of_decide_eq_true (by first | (with_reducible assumption) | assumption); have q254 : x17_1 < (l1.length : Int) := of_decide_eq_true (by first | (with_reducible assumption) | assumption); obtain ⟨ad254, A254_1, c254_1, e254, hx254_0, hx254_1, hl254_1, hi254_1⟩ := at_T25 HR1.out x17_1 p254 q254; cases e254; have hn254_0 : ad254.block ≠ gb253 := Nat.ne_of_lt (Nat.lt_of_lt_of_le (by have := World.block_lt_of_cell? _ _ hx254_0; first | rwa [add_block] at this | exact this) GW253.out); have hn254_1 : ad254.block ≠ gb253 := Nat.ne_of_lt (Nat.lt_of_lt_of_le (by have := World.block_lt_of_cell? _ _ hx254_0; first | rwa [add_block] at this | exact this) GW253.out); replace hx254_0 := (HB.out.cell (World.block_lt_of_cell? w _ hx254_0)).trans hx254_0; replace hx254_1 := (HB.out.cell (World.block_lt_of_cell? w _ hx254_1)).trans hx254_1; have HR254_1 := Aside0.mk hi254_1; have HC254_1 := Aside0.mk hl254_1; clear hi254_1 hl254_1; replace hx254_0 := (cell_far (p := ⟨gb253, 0, none⟩) (by first | (rw [add_block]; exact hn254_0) | (show (Addr.add _ _).block ≠ _; rw [add_block]; exact hn254_0) | exact hn254_0) (.int .i64 ((rd_T25 l0 x17_1).f0))).trans hx254_0; replace hx254_1 := (cell_far (p := ⟨gb253, 0, none⟩) (by first | (rw [add_block]; exact hn254_0) | (show (Addr.add _ _).block ≠ _; rw [add_block]; exact hn254_0) | exact hn254_0) (.int .i64 ((rd_T25 l0 x17_1).f0))).trans hx254_1; replace hx254_0 := (cell_far (p := ⟨gb253, 1, none⟩) (by first | (rw [add_block]; exact hn254_1) | (show (Addr.add _ _).block ≠ _; rw [add_block]; exact hn254_1) | exact hn254_1) (.slice A252_1 ((rd_T25 l0 x17_1).f1).length c252_1)).trans hx254_0; replace hx254_1 := (cell_far (p := ⟨gb253, 1, none⟩) (by first | (rw [add_block]; exact hn254_1) | (show (Addr.add _ _).block ≠ _; rw [add_block]; exact hn254_1) | exact hn254_1) (.slice A252_1 ((rd_T25 l0 x17_1).f1).length c252_1)).trans hx254_1; clear hn254_0 hn254_1; replace p254 := eq_true p254; replace q254 := eq_true q254) | ((with_reducible refine gate_dst (N := 9) rfl ?_); refine box_event ?hg (N := 9) ?hd (cs := #[.int .i64 0, .slice none 0 0]) (t := 25) ?hr ?_; (case hd => rfl); (case hg => rfl); (case hr => first | (go_simp; done) | (go_simp; rfl)); intro gb255 hg w20 hbox hb; have n0_ := am (blk_below (g := gb253) (o := .cells #[.int .i64 ((rd_T25 l0 x17_1).f0), .slice A252_1 ((rd_T25 l0 x17_1).f1).length c252_1] 25 (0, 0)) (by (with_reducible repeat (first | refine blk_drewN ?_ _ | refine blk_drew ?_ | refine blk_alloc ?_ _)); refine blk_put (cs := #[.int .i64 ((rd_T25 l0 x17_1).f0), .slice none 0 0]) ?_ 1 _ rfl; (with_reducible repeat (first | refine blk_drewN ?_ _ | refine blk_drew ?_ | refine blk_alloc ?_ _)); refine blk_put (cs := #[.int .i64 0, .slice none 0 0]) ?_ 0 _ rfl; (with_reducible repeat (first | refine blk_drewN ?_ _ | refine blk_drew ?_ | refine blk_alloc ?_ _)); exact BK253.out) hb); have n1_ := am (below_step (pb HB) hb); have n2_ := am (hbox); have n3_ := am ((by rw [hg]; exact (below_size (pb HB)) : w.heap.size ≤ gb255)); have n4_ := am ((by rw [hg]; exact (below_size (pb HB)) : w.heap.size ≤ gb255)); have n5_ := am ((by rw [hg]; exact Nat.ne_of_lt (blk_lt (g := gb253) (o := .cells #[.int .i64 ((rd_T25 l0 x17_1).f0), .slice A252_1 ((rd_T25 l0 x17_1).f1).length c252_1] 25 (0, 0)) (by (with_reducible repeat (first | refine blk_drewN ?_ _ | refine blk_drew ?_ | refine blk_alloc ?_ _)); refine blk_put (cs := #[.int .i64 ((rd_T25 l0 x17_1).f0), .slice none 0 0]) ?_ 1 _ rfl; (with_reducible repeat (first | refine blk_drewN ?_ _ | refine blk_drew ?_ | refine blk_alloc ?_ _)); refine blk_put (cs := #[.int .i64 0, .slice none 0 0]) ?_ 0 _ rfl; (with_reducible repeat (first | refine blk_drewN ?_ _ | refine blk_drew ?_ | refine blk_alloc ?_ _)); exact BK253.out)) : gb253 ≠ gb255)); have n6_ := am ((by rw [hg]; exact Nat.ne_of_gt (blk_lt (g := gb253) (o := .cells #[.int .i64 ((rd_T25 l0 x17_1).f0), .slice A252_1 ((rd_T25 l0 x17_1).f1).length c252_1] 25 (0, 0)) (by (with_reducible repeat (first | refine blk_drewN ?_ _ | refine blk_drew ?_ | refine blk_alloc ?_ _)); refine blk_put (cs := #[.int .i64 ((rd_T25 l0 x17_1).f0), .slice none 0 0]) ?_ 1 _ rfl; (with_reducible repeat (first | refine blk_drewN ?_ _ | refine blk_drew ?_ | refine blk_alloc ?_ _)); refine blk_put (cs := #[.int .i64 0, .slice none 0 0]) ?_ 0 _ rfl; (with_reducible repeat (first | refine blk_drewN ?_ _ | refine blk_drew ?_ | refine blk_alloc ?_ _)); exact BK253.out)) : gb255 ≠ gb253)); clear BK253 HB; have BK253 := n0_; have HB := n1_; have BK255 := n2_; have GW255 := n3_; have GE255 := n4_; have NB253_255 := n5_; have NB255_253 := n6_; clear n0_ n1_ n2_ n3_ n4_ n5_ n6_ hb hbox hg; have hnb21 := NB255_253.out; have hnc21 := NB253_255.out; have hcz22_0 : w20.cell? ⟨gb255, 0, none⟩ = some (.int .i64 0) := (blk_cell BK255.out 0).trans rfl; have hcz22_1 : w20.cell? ⟨gb255, 1, none⟩ = some (.slice none 0 0) := (blk_cell BK255.out 1).trans rfl; have hfz22_0 := blk_frozen BK255.out 0; have hfz22_1 := blk_frozen BK255.out 1; have hcz23_0 : w20.cell? ⟨gb253, 0, none⟩ = some (.int .i64 ((rd_T25 l0 x17_1).f0)) := (blk_cell BK253.out 0).trans rfl; have hcz23_1 : w20.cell? ⟨gb253, 1, none⟩ = some (.slice A252_1 ((rd_T25 l0 x17_1).f1).length c252_1) := (blk_cell BK253.out 1).trans rfl; have hfz23_0 := blk_frozen BK253.out 0; have hfz23_1 := blk_frozen BK253.out 1) | ((with_reducible refine gate_calleeT (t := 26) rfl ?_); refine goesLT_ 26 (some 29) rfl rfl Try.func24 (by kernel_rfl) rfl #[.agg #[.int .i64 ((rd_T25 l0 x17_1).f0), .slice A252_1 ((rd_T25 l0 x17_1).f1).length c252_1], .agg #[.int .i64 ((rd_T25 l1 x17_1).f0), .slice A254_1 ((rd_T25 l1 x17_1).f1).length c254_1]] #[] #[.agg #[.int .i64 ((rd_T25 l0 x17_1).f0), .slice A252_1 ((rd_T25 l0 x17_1).f1).length c252_1], .agg #[.int .i64 ((rd_T25 l1 x17_1).f0), .slice A254_1 ((rd_T25 l1 x17_1).f1).length c254_1]] rfl (by rfl) (by (try simp only [List.map_toArray, List.map_cons, List.map_nil]); first | done | rfl | (simp only [List.length_drop, List.length_take]; rfl)) (by rfl) ?_; (with_reducible refine (bitrow_Like.calls k1 ((rd_T25 l0 x17_1).f0) _ _ ((rd_T25 l0 x17_1).f1) ((rd_T25 l1 x17_1).f0) _ _ ((rd_T25 l1 x17_1).f1) false _ ?side1 ?side2 ?side3 ?side4 A9.out).mono ?_); (case side1 => exact Kd.C_below HR252_1.out (pb HB)); (case side2 => exact HC252_1.out); (case side3 => exact Kd.C_below HR254_1.out (pb HB)); (case side4 => exact HC254_1.out); rintro e w24 ⟨rfl, hb⟩; refine ⟨_, rfl, ?_⟩; have n0_ := am (blk_below (g := gb253) (o := .cells #[.int .i64 ((rd_T25 l0 x17_1).f0), .slice A252_1 ((rd_T25 l0 x17_1).f1).length c252_1] 25 (0, 0)) (by (with_reducible repeat (first | refine blk_drewN ?_ _ | refine blk_drew ?_ | refine blk_alloc ?_ _)); refine blk_far ?_ NB253_255.out _; (with_reducible repeat (first | refine blk_drewN ?_ _ | refine blk_drew ?_ | refine blk_alloc ?_ _)); refine blk_far ?_ NB253_255.out _; (with_reducible repeat (first | refine blk_drewN ?_ _ | refine blk_drew ?_ | refine blk_alloc ?_ _)); exact BK253.out) hb); have n1_ := am (blk_below (g := gb255) (o := .cells #[.int .i64 ((rd_T25 l1 x17_1).f0), .slice A254_1 ((rd_T25 l1 x17_1).f1).length c254_1] 25 (0, 0)) (by (with_reducible repeat (first | refine blk_drewN ?_ _ | refine blk_drew ?_ | refine blk_alloc ?_ _)); refine blk_put (cs := #[.int .i64 ((rd_T25 l1 x17_1).f0), .slice none 0 0]) ?_ 1 _ rfl; (with_reducible repeat (first | refine blk_drewN ?_ _ | refine blk_drew ?_ | refine blk_alloc ?_ _)); refine blk_put (cs := #[.int .i64 0, .slice none 0 0]) ?_ 0 _ rfl; (with_reducible repeat (first | refine blk_drewN ?_ _ | refine blk_drew ?_ | refine blk_alloc ?_ _)); exact BK255.out) hb); have n2_ := am (below_step (pb HB) hb); clear BK253 BK255 HB; have BK253 := n0_; have BK255 := n1_; have HB := n2_; clear n0_ n1_ n2_; (try clear hb); (try clear hb2); (try clear hk); (try clear hi)))
         go_ret
         exact ⟨by first | rfl | (simp [errW_none, errW_some] <;> rfl) | (simp [*, errW_none, errW_some] <;> rfl), pb HB⟩
       ·
        rw [if_neg c8] at H
        exact absurd H (by simp)
      ·
       rw [if_neg c7] at H
       exact absurd H (by simp)
     ·
      rw [if_neg c6] at H
      exact absurd H (by simp)
    ·
     rw [if_neg c5] at H
     have c5b0 : decide (x17_1 < (l0.length : Int)) = false := decide_eq_false c5
     clear c5
     obtain rfl := Option.some.inj H
     go_wp2
     go_ret
     exact ⟨by first | rfl | (simp [errW_none, errW_some] <;> rfl) | (simp [*, errW_none, errW_some] <;> rfl), pb HB⟩
 ·
  rw [if_neg c4] at H
  have c4b0 : ((l0.length : Int) == (l1.length : Int)) = false := beq_eq_false_iff_ne.mpr c4
  have c4b1 : ((l0.length : Int) != (l1.length : Int)) = true := bne_iff_ne.mpr c4
  have c4b2 : (l0.length == l1.length) = false := by first | simpa using c4 | (simp at c4 ⊢; omega)
  obtain rfl := Option.some.inj H
  go_enter Try.func126, Try.ntmps126
  go_wp2
  go_ret
  exact ⟨by first | rfl | (simp [errW_none, errW_some] <;> rfl) | (simp [*, errW_none, errW_some] <;> rfl), pb HB⟩

/-! ### matrix_Like: function 46 -/
def matrix_Like.f (k : Nat) (a0_0 : Int) (l0_1 : List (S25)) (a1_0 : Int) (l1_1 : List (S25)) : Option (Bool) := if a0_0 = a1_0 then ((api_Row_24.f k l0_1 l1_1).bind fun t259 => (some t259)) else (some false)
theorem matrix_Like.mono : ∀ a0 a1 a2 a3 k, LeO (matrix_Like.f k a0 a1 a2 a3) (matrix_Like.f (k + 1) a0 a1 a2 a3) := by
 intro a0 a1 a2 a3 k
 unfold matrix_Like.f
 repeat' first
   | (with_reducible exact api_Row_24.mono _ _ _)
   | (with_reducible exact LeO.refl _)
   | (with_reducible exact LeO.none _)
   | (with_reducible refine LeO.ite ?_ ?_)
   | (with_reducible refine LeO.bind ?_ (fun _ => ?_))
   | exact api_Row_24.mono _ _ _
   | exact LeO.none _
   | refine LeO.ite ?_ ?_
   | refine LeO.bind ?_ (fun _ => ?_)
set_option maxHeartbeats 8000000 in
set_option maxRecDepth 100000 in
theorem matrix_Like.calls (k : Nat) (a0_0 : Int) (A0_1 : Option Addr) (c0_1 : Nat) (l0_1 : List (S25)) (a1_0 : Int) (A1_1 : Option Addr) (c1_1 : Nat) (l1_1 : List (S25)) (r : Bool) (w : World) (hr0_1 : Kd.C k25 w A0_1 l0_1.length l0_1) (hc0_1 : l0_1.length ≤ c0_1) (hr1_1 : Kd.C k25 w A1_1 l1_1.length l1_1) (hc1_1 : l1_1.length ≤ c1_1) (h : matrix_Like.f k a0_0 l0_1 a1_0 l1_1 = some r) :
  Calls Try.prog 46 #[.agg #[.int .i64 a0_0, .slice A0_1 l0_1.length c0_1], .agg #[.int .i64 a1_0, .slice A1_1 l1_1.length c1_1]] w fun e w' => e = .returned (.bool r) ∧ Below w.heap.size w w' := by
 have hu42 := Try.underlying42
 have HR0_1 := Aside0.mk hr0_1
 have HC0_1 := Aside0.mk hc0_1
 clear hr0_1 hc0_1
 have HR1_1 := Aside0.mk hr1_1
 have HC1_1 := Aside0.mk hc1_1
 clear hr1_1 hc1_1
 have HB := am (Below.refl w.heap.size w)
 have H : (if a0_0 = a1_0 then ((api_Row_24.f k l0_1 l1_1).bind fun t259 => (some t259)) else (some false)) = some r := h
 clear h
 by_cases c3 : a0_0 = a1_0
 ·
  rw [if_pos c3] at H
  have c3b0 : (a0_0 == a1_0) = true := beq_iff_eq.mpr c3
  have c3b1 : (a0_0 != a1_0) = false := bne_eq_false_iff_eq.mpr c3
  clear c3
  replace H := Option.bind_eq_some_iff.mp H
  obtain ⟨t259, A40, H⟩ := H
  replace H : (some t259) = some r := H
  have A4 := Aside0.mk A40
  clear A40
  obtain rfl := Option.some.inj H
  go_enter Try.func46, Try.ntmps46
  go_wp2_with (first | ((with_reducible refine gate_dst (N := 2) rfl ?_); refine box_event ?hg (N := 2) ?hd (cs := #[.int .i64 a0_0, .slice A0_1 l0_1.length c0_1]) (t := 42) ?hr ?_; (case hd => rfl); (case hg => rfl); (case hr => first | (go_simp; done) | (go_simp; rfl)); intro gb257 hg w5 hbox hb; have n0_ := am (below_step (pb HB) hb); have n1_ := am (hbox); have n2_ := am ((by rw [hg]; exact (below_size (pb HB)) : w.heap.size ≤ gb257)); have n3_ := am ((by rw [hg]; exact (below_size (pb HB)) : w.heap.size ≤ gb257)); clear HB; have HB := n0_; have BK257 := n1_; have GW257 := n2_; have GE257 := n3_; clear n0_ n1_ n2_ n3_ hb hbox hg) | ((with_reducible refine gate_dst (N := 3) rfl ?_); refine box_event ?hg (N := 3) ?hd (cs := #[.int .i64 a1_0, .slice A1_1 l1_1.length c1_1]) (t := 42) ?hr ?_; (case hd => rfl); (case hg => rfl); (case hr => first | (go_simp; done) | (go_simp; rfl)); intro gb258 hg w6 hbox hb; have n0_ := bb BK257 hb; have n1_ := am (below_step (pb HB) hb); have n2_ := am (hbox); have n3_ := am ((by rw [hg]; exact (below_size (pb HB)) : w.heap.size ≤ gb258)); have n4_ := am ((by rw [hg]; exact (below_size (pb HB)) : w.heap.size ≤ gb258)); have n5_ := am ((by rw [hg]; exact Nat.ne_of_lt (bl BK257) : gb257 ≠ gb258)); have n6_ := am ((by rw [hg]; exact Nat.ne_of_gt (bl BK257) : gb258 ≠ gb257)); clear BK257 HB; have BK257 := n0_; have HB := n1_; have BK258 := n2_; have GW258 := n3_; have GE258 := n4_; have NB257_258 := n5_; have NB258_257 := n6_; clear n0_ n1_ n2_ n3_ n4_ n5_ n6_ hb hbox hg; have hnb7 := NB257_258.out; have hnc7 := NB258_257.out; have hcz8_0 : w6.cell? ⟨gb257, 0, none⟩ = some (.int .i64 a0_0) := (blk_cell BK257.out 0).trans rfl; have hcz8_1 : w6.cell? ⟨gb257, 1, none⟩ = some (.slice A0_1 l0_1.length c0_1) := (blk_cell BK257.out 1).trans rfl; have hfz8_0 := blk_frozen BK257.out 0; have hfz8_1 := blk_frozen BK257.out 1; have hcz9_0 : w6.cell? ⟨gb258, 0, none⟩ = some (.int .i64 a1_0) := (blk_cell BK258.out 0).trans rfl; have hcz9_1 : w6.cell? ⟨gb258, 1, none⟩ = some (.slice A1_1 l1_1.length c1_1) := (blk_cell BK258.out 1).trans rfl; have hfz9_0 := blk_frozen BK258.out 0; have hfz9_1 := blk_frozen BK258.out 1) | (go_at_call 126; (with_reducible refine (api_Row_24.calls k _ _ l0_1 _ _ l1_1  t259 _ ?side1 ?side2 ?side3 ?side4 A4.out).mono ?_); (case side1 => repeat (first | exact (Kd.C_below HR0_1.out HB.out) | (with_reducible refine Kd.C_alloc ?_ _) | (with_reducible refine Kd.C_drewN ?_ _) | (with_reducible refine Kd.C_drew ?_))); (case side2 => exact HC0_1.out); (case side3 => repeat (first | exact (Kd.C_below HR1_1.out HB.out) | (with_reducible refine Kd.C_alloc ?_ _) | (with_reducible refine Kd.C_drewN ?_ _) | (with_reducible refine Kd.C_drew ?_))); (case side4 => exact HC1_1.out); rintro e w10 ⟨rfl, hb⟩; have n0_ := bb BK257 hb; have n1_ := bb BK258 hb; have n2_ := am (below_step (pb HB) hb); clear BK257 BK258 HB; have BK257 := n0_; have BK258 := n1_; have HB := n2_; clear n0_ n1_ n2_; (try clear hb); (try clear hb2); (try clear hk); (try clear hi)))
  go_ret
  exact ⟨by first | rfl | (simp [errW_none, errW_some] <;> rfl) | (simp [*, errW_none, errW_some] <;> rfl), pb HB⟩
 ·
  rw [if_neg c3] at H
  have c3b0 : (a0_0 == a1_0) = false := beq_eq_false_iff_ne.mpr c3
  have c3b1 : (a0_0 != a1_0) = true := bne_iff_ne.mpr c3
  obtain rfl := Option.some.inj H
  go_enter Try.func46, Try.ntmps46
  go_wp2_with (first | ((with_reducible refine gate_dst (N := 2) rfl ?_); refine box_event ?hg (N := 2) ?hd (cs := #[.int .i64 a0_0, .slice A0_1 l0_1.length c0_1]) (t := 42) ?hr ?_; (case hd => rfl); (case hg => rfl); (case hr => first | (go_simp; done) | (go_simp; rfl)); intro gb257 hg w11 hbox hb; have n0_ := am (below_step (pb HB) hb); have n1_ := am (hbox); have n2_ := am ((by rw [hg]; exact (below_size (pb HB)) : w.heap.size ≤ gb257)); have n3_ := am ((by rw [hg]; exact (below_size (pb HB)) : w.heap.size ≤ gb257)); clear HB; have HB := n0_; have BK257 := n1_; have GW257 := n2_; have GE257 := n3_; clear n0_ n1_ n2_ n3_ hb hbox hg) | ((with_reducible refine gate_dst (N := 3) rfl ?_); refine box_event ?hg (N := 3) ?hd (cs := #[.int .i64 a1_0, .slice A1_1 l1_1.length c1_1]) (t := 42) ?hr ?_; (case hd => rfl); (case hg => rfl); (case hr => first | (go_simp; done) | (go_simp; rfl)); intro gb258 hg w12 hbox hb; have n0_ := bb BK257 hb; have n1_ := am (below_step (pb HB) hb); have n2_ := am (hbox); have n3_ := am ((by rw [hg]; exact (below_size (pb HB)) : w.heap.size ≤ gb258)); have n4_ := am ((by rw [hg]; exact (below_size (pb HB)) : w.heap.size ≤ gb258)); have n5_ := am ((by rw [hg]; exact Nat.ne_of_lt (bl BK257) : gb257 ≠ gb258)); have n6_ := am ((by rw [hg]; exact Nat.ne_of_gt (bl BK257) : gb258 ≠ gb257)); clear BK257 HB; have BK257 := n0_; have HB := n1_; have BK258 := n2_; have GW258 := n3_; have GE258 := n4_; have NB257_258 := n5_; have NB258_257 := n6_; clear n0_ n1_ n2_ n3_ n4_ n5_ n6_ hb hbox hg; have hnb13 := NB257_258.out; have hnc13 := NB258_257.out; have hcz14_0 : w12.cell? ⟨gb257, 0, none⟩ = some (.int .i64 a0_0) := (blk_cell BK257.out 0).trans rfl; have hcz14_1 : w12.cell? ⟨gb257, 1, none⟩ = some (.slice A0_1 l0_1.length c0_1) := (blk_cell BK257.out 1).trans rfl; have hfz14_0 := blk_frozen BK257.out 0; have hfz14_1 := blk_frozen BK257.out 1; have hcz15_0 : w12.cell? ⟨gb258, 0, none⟩ = some (.int .i64 a1_0) := (blk_cell BK258.out 0).trans rfl; have hcz15_1 : w12.cell? ⟨gb258, 1, none⟩ = some (.slice A1_1 l1_1.length c1_1) := (blk_cell BK258.out 1).trans rfl; have hfz15_0 := blk_frozen BK258.out 0; have hfz15_1 := blk_frozen BK258.out 1))
  go_ret
  exact ⟨by first | rfl | (simp [errW_none, errW_some] <;> rfl) | (simp [*, errW_none, errW_some] <;> rfl), pb HB⟩

/-! ### downpourlaw03_alive: function 47 -/
def downpourlaw03_alive.f (k : Nat)  : Option (Bool) := (matrix_One.f k 3).bind fun bt260 => (if bt260.2.2 = 0 then (if bt260.1 = 3 then (some ((bt260.2.1.length : Int) == 3)) else (some false)) else (some false))
theorem downpourlaw03_alive.mono : ∀ k, LeO (downpourlaw03_alive.f k ) (downpourlaw03_alive.f (k + 1) ) := by
 intro  k
 unfold downpourlaw03_alive.f
 repeat' first
   | (with_reducible exact matrix_One.mono _ _)
   | (with_reducible exact LeO.refl _)
   | (with_reducible exact LeO.none _)
   | (with_reducible refine LeO.ite ?_ ?_)
   | (with_reducible refine LeO.bind ?_ (fun _ => ?_))
   | exact matrix_One.mono _ _
   | exact LeO.none _
   | refine LeO.ite ?_ ?_
   | refine LeO.bind ?_ (fun _ => ?_)
set_option maxHeartbeats 8000000 in
set_option maxRecDepth 100000 in
theorem downpourlaw03_alive.calls (k : Nat)  (r : Bool) (w : World) (h : downpourlaw03_alive.f k  = some r) :
  Calls Try.prog 47 #[] w fun e w' => e = .returned (.bool r) ∧ Below w.heap.size w w' := by
 have hu42 := Try.underlying42
 have HB := am (Below.refl w.heap.size w)
 have H : ((matrix_One.f k 3).bind fun bt260 => (if bt260.2.2 = 0 then (if bt260.1 = 3 then (some ((bt260.2.1.length : Int) == 3)) else (some false)) else (some false))) = some r := h
 clear h
 replace H := Option.bind_eq_some_iff.mp H
 obtain ⟨⟨t260, t261, t264⟩, A10, H⟩ := H
 replace H : (if t264 = 0 then (if t260 = 3 then (some ((t261.length : Int) == 3)) else (some false)) else (some false)) = some r := H
 have A1 := Aside0.mk A10
 clear A10
 by_cases c2 : t264 = 0
 ·
  rw [if_pos c2] at H
  have c2b0 : (t264 == 0) = true := beq_iff_eq.mpr c2
  have c2b1 : (t264 != 0) = false := bne_eq_false_iff_eq.mpr c2
  clear c2
  by_cases c3 : t260 = 3
  ·
   rw [if_pos c3] at H
   have c3b0 : (t260 == 3) = true := beq_iff_eq.mpr c3
   have c3b1 : (t260 != 3) = false := bne_eq_false_iff_eq.mpr c3
   clear c3
   obtain rfl := Option.some.inj H
   go_enter Try.func47, Try.ntmps47
   go_wp2_with (first | ((with_reducible refine gate_callee (f := 44) rfl ?_); refine goesL_ (some 4) rfl rfl Try.func44 (by kernel_rfl) rfl #[.int .i64 3] rfl (by (try simp only [List.map_toArray, List.map_cons, List.map_nil]); first | done | rfl | (simp only [List.length_drop, List.length_take]; rfl)) ?_; (with_reducible refine (matrix_One.calls k 3 t260 t261 t264 _ A1.out).mono ?_); rintro e w4 ⟨v262, rfl, ho0, hb⟩; refine ⟨_, rfl, ?_⟩; have n0_ := am (Kd.S_lower ho0 (below_size (pb HB))); have n1_ := am (below_step (pb HB) hb); clear HB; have HO263 := n0_; have HB := n1_; clear n0_ n1_; (try clear hb); (try clear hb2); (try clear hk); (try clear hi); (try clear ho0)) | ((with_reducible refine gate_dst (N := 1) rfl ?_); (try (refine gate_guard (by rfl) ?_; dsimp only)); refine box_event ?hg (N := 1) ?hd (cs := #[.int .i64 0, .slice none 0 0]) (t := 42) ?hr ?_; (case hd => rfl); (case hg => rfl); (case hr => first | (go_simp; done) | (go_simp; rfl)); intro gb265 hg w5 hbox hb; have n0_ := am (Kd.S_below (by (with_reducible repeat (first | apply Kd.S_alloc | apply Kd.S_drewN | apply Kd.S_drew)); exact HO263.out) hb); have n1_ := am (below_step (pb HB) hb); have n2_ := am (hbox); have n3_ := am ((by rw [hg]; exact (below_size (pb HB)) : w.heap.size ≤ gb265)); have n4_ := am ((by rw [hg]; exact (below_size (pb HB)) : w.heap.size ≤ gb265)); clear HO263 HB; have HO263 := n0_; have HB := n1_; have BK265 := n2_; have GW265 := n3_; have GE265 := n4_; clear n0_ n1_ n2_ n3_ n4_ hb hbox hg; have hcz6_0 : w5.cell? ⟨gb265, 0, none⟩ = some (.int .i64 0) := (blk_cell BK265.out 0).trans rfl; have hcz6_1 : w5.cell? ⟨gb265, 1, none⟩ = some (.slice none 0 0) := (blk_cell BK265.out 1).trans rfl; have hfz6_0 := blk_frozen BK265.out 0; have hfz6_1 := blk_frozen BK265.out 1; obtain ⟨Ao7, co7, eo7⟩ := Kd.S_slice HO263.out; subst eo7))
   go_ret
   exact ⟨by first | rfl | (simp [errW_none, errW_some] <;> rfl) | (simp [*, errW_none, errW_some] <;> rfl), pb HB⟩
  ·
   rw [if_neg c3] at H
   have c3b0 : (t260 == 3) = false := beq_eq_false_iff_ne.mpr c3
   have c3b1 : (t260 != 3) = true := bne_iff_ne.mpr c3
   obtain rfl := Option.some.inj H
   go_enter Try.func47, Try.ntmps47
   go_wp2_with (first | ((with_reducible refine gate_callee (f := 44) rfl ?_); refine goesL_ (some 4) rfl rfl Try.func44 (by kernel_rfl) rfl #[.int .i64 3] rfl (by (try simp only [List.map_toArray, List.map_cons, List.map_nil]); first | done | rfl | (simp only [List.length_drop, List.length_take]; rfl)) ?_; (with_reducible refine (matrix_One.calls k 3 t260 t261 t264 _ A1.out).mono ?_); rintro e w8 ⟨v262, rfl, ho0, hb⟩; refine ⟨_, rfl, ?_⟩; have n0_ := am (Kd.S_lower ho0 (below_size (pb HB))); have n1_ := am (below_step (pb HB) hb); clear HB; have HO263 := n0_; have HB := n1_; clear n0_ n1_; (try clear hb); (try clear hb2); (try clear hk); (try clear hi); (try clear ho0)) | ((with_reducible refine gate_dst (N := 1) rfl ?_); (try (refine gate_guard (by rfl) ?_; dsimp only)); refine box_event ?hg (N := 1) ?hd (cs := #[.int .i64 0, .slice none 0 0]) (t := 42) ?hr ?_; (case hd => rfl); (case hg => rfl); (case hr => first | (go_simp; done) | (go_simp; rfl)); intro gb265 hg w9 hbox hb; have n0_ := am (Kd.S_below (by (with_reducible repeat (first | apply Kd.S_alloc | apply Kd.S_drewN | apply Kd.S_drew)); exact HO263.out) hb); have n1_ := am (below_step (pb HB) hb); have n2_ := am (hbox); have n3_ := am ((by rw [hg]; exact (below_size (pb HB)) : w.heap.size ≤ gb265)); have n4_ := am ((by rw [hg]; exact (below_size (pb HB)) : w.heap.size ≤ gb265)); clear HO263 HB; have HO263 := n0_; have HB := n1_; have BK265 := n2_; have GW265 := n3_; have GE265 := n4_; clear n0_ n1_ n2_ n3_ n4_ hb hbox hg; have hcz10_0 : w9.cell? ⟨gb265, 0, none⟩ = some (.int .i64 0) := (blk_cell BK265.out 0).trans rfl; have hcz10_1 : w9.cell? ⟨gb265, 1, none⟩ = some (.slice none 0 0) := (blk_cell BK265.out 1).trans rfl; have hfz10_0 := blk_frozen BK265.out 0; have hfz10_1 := blk_frozen BK265.out 1; obtain ⟨Ao11, co11, eo11⟩ := Kd.S_slice HO263.out; subst eo11))
   go_ret
   exact ⟨by first | rfl | (simp [errW_none, errW_some] <;> rfl) | (simp [*, errW_none, errW_some] <;> rfl), pb HB⟩
 ·
  rw [if_neg c2] at H
  have c2b0 : (t264 == 0) = false := beq_eq_false_iff_ne.mpr c2
  have c2b1 : (t264 != 0) = true := bne_iff_ne.mpr c2
  obtain rfl := Option.some.inj H
  go_enter Try.func47, Try.ntmps47
  go_wp2_with (first | ((with_reducible refine gate_callee (f := 44) rfl ?_); refine goesL_ (some 4) rfl rfl Try.func44 (by kernel_rfl) rfl #[.int .i64 3] rfl (by (try simp only [List.map_toArray, List.map_cons, List.map_nil]); first | done | rfl | (simp only [List.length_drop, List.length_take]; rfl)) ?_; (with_reducible refine (matrix_One.calls k 3 t260 t261 t264 _ A1.out).mono ?_); rintro e w12 ⟨v262, rfl, ho0, hb⟩; refine ⟨_, rfl, ?_⟩; have n0_ := am (Kd.S_lower ho0 (below_size (pb HB))); have n1_ := am (below_step (pb HB) hb); clear HB; have HO263 := n0_; have HB := n1_; clear n0_ n1_; (try clear hb); (try clear hb2); (try clear hk); (try clear hi); (try clear ho0)) | ((with_reducible refine gate_dst (N := 1) rfl ?_); (try (refine gate_guard (by rfl) ?_; dsimp only)); refine box_event ?hg (N := 1) ?hd (cs := #[.int .i64 0, .slice none 0 0]) (t := 42) ?hr ?_; (case hd => rfl); (case hg => rfl); (case hr => first | (go_simp; done) | (go_simp; rfl)); intro gb265 hg w13 hbox hb; have n0_ := am (Kd.S_below (by (with_reducible repeat (first | apply Kd.S_alloc | apply Kd.S_drewN | apply Kd.S_drew)); exact HO263.out) hb); have n1_ := am (below_step (pb HB) hb); have n2_ := am (hbox); have n3_ := am ((by rw [hg]; exact (below_size (pb HB)) : w.heap.size ≤ gb265)); have n4_ := am ((by rw [hg]; exact (below_size (pb HB)) : w.heap.size ≤ gb265)); clear HO263 HB; have HO263 := n0_; have HB := n1_; have BK265 := n2_; have GW265 := n3_; have GE265 := n4_; clear n0_ n1_ n2_ n3_ n4_ hb hbox hg; have hcz14_0 : w13.cell? ⟨gb265, 0, none⟩ = some (.int .i64 0) := (blk_cell BK265.out 0).trans rfl; have hcz14_1 : w13.cell? ⟨gb265, 1, none⟩ = some (.slice none 0 0) := (blk_cell BK265.out 1).trans rfl; have hfz14_0 := blk_frozen BK265.out 0; have hfz14_1 := blk_frozen BK265.out 1; obtain ⟨Ao15, co15, eo15⟩ := Kd.S_slice HO263.out; subst eo15))
  go_ret
  exact ⟨by first | rfl | (simp [errW_none, errW_some] <;> rfl) | (simp [*, errW_none, errW_some] <;> rfl), pb HB⟩

/-! ### downpourref01_In: function 108 -/
def downpourref01_In.l0 : Nat → Int → List Int → Int → Int → Option (Bool)
 | 0, _, _, _, _ => none
 | k + 1, x1, x7, x8, x9 => if x9 < x8 then (if 0 ≤ x9 then (if x9 < (x7.length : Int) then (if (rd x7 x9) = x1 then (some true) else (downpourref01_In.l0 k x1 x7 x8 (wrap64 (x9 + 1)))) else (none)) else (none)) else (some false)
def downpourref01_In.f (k : Nat) (l0 : List Int) (a1 : Int) : Option (Bool) := downpourref01_In.l0 k a1 l0 (l0.length : Int) 0
theorem downpourref01_In.mono_l : ∀ k, (∀ y0 y1 y2 y3, LeO (downpourref01_In.l0 k y0 y1 y2 y3) (downpourref01_In.l0 (k + 1) y0 y1 y2 y3))
 | 0 => fun _ _ _ _ r h => by simp [downpourref01_In.l0] at h
 | k + 1 => by
  have ih0 := downpourref01_In.mono_l k
  ·
   intro y0 y1 y2 y3
   unfold downpourref01_In.l0
   repeat' first
   | (with_reducible exact ih0 _ _ _ _)
   | (with_reducible exact LeO.refl _)
   | (with_reducible exact LeO.none _)
   | (with_reducible refine LeO.ite ?_ ?_)
   | (with_reducible refine LeO.bind ?_ (fun _ => ?_))
   | exact ih0 _ _ _ _
   | exact LeO.none _
   | refine LeO.ite ?_ ?_
   | refine LeO.bind ?_ (fun _ => ?_)
theorem downpourref01_In.mono : ∀ a0 a1 k, LeO (downpourref01_In.f k a0 a1) (downpourref01_In.f (k + 1) a0 a1) := by
 intro a0 a1 k
 have ih0 := downpourref01_In.mono_l k
 unfold downpourref01_In.f
 repeat' first
   | (with_reducible exact ih0 _ _ _ _)
   | (with_reducible exact LeO.refl _)
   | (with_reducible exact LeO.none _)
   | (with_reducible refine LeO.ite ?_ ?_)
   | (with_reducible refine LeO.bind ?_ (fun _ => ?_))
   | exact ih0 _ _ _ _
   | exact LeO.none _
   | refine LeO.ite ?_ ?_
   | refine LeO.bind ?_ (fun _ => ?_)
set_option maxHeartbeats 8000000 in
set_option maxRecDepth 100000 in
theorem downpourref01_In.calls (k : Nat) (A0 : Option Addr) (c0 : Nat) (l0 : List Int) (a1 : Int) (r : Bool) (w : World) (hr0 : Kd.C (Kd.int .i64) w A0 l0.length l0) (hc0 : l0.length ≤ c0) (h : downpourref01_In.f k l0 a1 = some r) :
  Calls Try.prog 108 #[.slice A0 l0.length c0, .int .i64 a1] w fun e w' => e = .returned (.bool r) ∧ Drawn0 w w' := by
 have HR0 := Aside0.mk hr0
 have HC0 := Aside0.mk hc0
 clear hr0 hc0
 have H : (downpourref01_In.l0 k a1 l0 (l0.length : Int) 0) = some r := h
 clear h
 have H' := Aside0.mk H
 clear H
 go_enter Try.func108, Try.ntmps108
 go_wp2
 go_loopg [9] k (fun kq v9 w' => ∃ (x9_1 : Int), v9 = .int .i64 x9_1 ∧ Aside0 (downpourref01_In.l0 kq a1 l0 (l0.length : Int) x9_1 = some r) ∧ Aside0 (kq ≤ k) ∧ Drawn0 w w')
 case atStart => exact ⟨(0), (by first | rfl | (simp; done) | (simp [*]; done)), H', ⟨Nat.le_refl _⟩, by repeat (first | exact Drawn0.refl _ | apply Drawn0.step)⟩
 case round =>
  clear H'
  try clear c1
  try clear p2
  obtain ⟨x9_1, rfl, HA, HK1, ⟨m1, rfl⟩⟩ := hrel
  cases gk with
  | zero => exact absurd HA.out (by simp [downpourref01_In.l0])
  | succ k1 =>
   have H := HA.out
   clear HA
   simp only [downpourref01_In.l0] at H
   by_cases c3 : x9_1 < (l0.length : Int)
   ·
    rw [if_pos c3] at H
    have c3b0 : decide (x9_1 < (l0.length : Int)) = true := decide_eq_true c3
    clear c3
    by_cases c4 : 0 ≤ x9_1
    ·
     rw [if_pos c4] at H
     have c4b0 : decide (0 ≤ x9_1) = true := decide_eq_true c4
     clear c4
     by_cases c5 : x9_1 < (l0.length : Int)
     ·
      rw [if_pos c5] at H
      have c5b0 : decide (x9_1 < (l0.length : Int)) = true := decide_eq_true c5
      clear c5
      by_cases c6 : (rd l0 x9_1) = a1
      ·
       rw [if_pos c6] at H
       have c6b0 : ((rd l0 x9_1) == a1) = true := beq_iff_eq.mpr c6
       have c6b1 : ((rd l0 x9_1) != a1) = false := bne_eq_false_iff_eq.mpr c6
       clear c6
       obtain rfl := Option.some.inj H
       have p266 : 0 ≤ (x9_1 : Int) := of_decide_eq_true (by first | (with_reducible assumption) | assumption)
       have q266 : x9_1 < (l0.length : Int) := of_decide_eq_true (by first | (with_reducible assumption) | assumption)
       obtain ⟨ad266, e266, hx266_0⟩ := Kd.at_int HR0.out x9_1 p266 q266
       cases e266
       replace p266 := eq_true p266
       replace q266 := eq_true q266
       go_wp2
       go_ret
       exact ⟨by first | rfl | (simp; done) | (simp [*]; done), by repeat (first | exact Drawn0.refl _ | apply Drawn0.step)⟩
      ·
       rw [if_neg c6] at H
       have c6b0 : ((rd l0 x9_1) == a1) = false := beq_eq_false_iff_ne.mpr c6
       have c6b1 : ((rd l0 x9_1) != a1) = true := bne_iff_ne.mpr c6
       have H' := Aside0.mk H
       clear H
       have p266 : 0 ≤ (x9_1 : Int) := of_decide_eq_true (by first | (with_reducible assumption) | assumption)
       have q266 : x9_1 < (l0.length : Int) := of_decide_eq_true (by first | (with_reducible assumption) | assumption)
       obtain ⟨ad266, e266, hx266_0⟩ := Kd.at_int HR0.out x9_1 p266 q266
       cases e266
       replace p266 := eq_true p266
       replace q266 := eq_true q266
       go_wp2
       go_roundg k1
       case measure => have := HK1.out; omega
       case rel => exact ⟨(wrap64 (x9_1 + 1)), (by first | rfl | (simp; done) | (simp [*]; done)), H', ⟨by have := HK1.out; omega⟩, by repeat (first | exact Drawn0.refl _ | apply Drawn0.step)⟩
     ·
      rw [if_neg c5] at H
      exact absurd H (by simp)
    ·
     rw [if_neg c4] at H
     exact absurd H (by simp)
   ·
    rw [if_neg c3] at H
    have c3b0 : decide (x9_1 < (l0.length : Int)) = false := decide_eq_false c3
    clear c3
    obtain rfl := Option.some.inj H
    go_wp2
    go_ret
    exact ⟨by first | rfl | (simp; done) | (simp [*]; done), by repeat (first | exact Drawn0.refl _ | apply Drawn0.step)⟩

/-! ### downpourref01_From: function 109 -/
mutual
def downpourref01_From.l0 : Nat → List Int → Int → Int → List Int → Option (Int × List Int)
 | 0, _, _, _, _ => none
 | k + 1, x0, x4, x269000, x269001 => (downpourref01_words.f (x0.length : Int)).bind fun t269 => (if x4 < t269 then (downpourref01_From.l1 k x0 x4 0 63 x269000 x269001) else (some (x269000, x269001)))
def downpourref01_From.l1 : Nat → List Int → Int → Int → Int → Int → List Int → Option (Int × List Int)
 | 0, _, _, _, _, _, _ => none
 | k + 1, x0, x4, x5, x6, x269000, x269001 => if x6 ≥ 0 then (if (wrap64 ((wrap64 (64 * x4)) + x6)) < (x0.length : Int) then (if 0 ≤ (wrap64 ((wrap64 (64 * x4)) + x6)) then (if (rd x0 (wrap64 ((wrap64 (64 * x4)) + x6))) = 1 then (downpourref01_From.l1 k x0 x4 (IntKind.u64.wrap ((IntKind.u64.wrap (2 * x5)) + 1)) (wrap64 (x6 - 1)) x269000 x269001) else (downpourref01_From.l1 k x0 x4 (IntKind.u64.wrap (2 * x5)) (wrap64 (x6 - 1)) x269000 x269001)) else (none)) else (downpourref01_From.l1 k x0 x4 (IntKind.u64.wrap (2 * x5)) (wrap64 (x6 - 1)) x269000 x269001)) else (if x269001.length < 17592186044416 then (downpourref01_From.l0 k x0 (wrap64 (x4 + 1)) x269000 (x269001 ++ [x5])) else (none))
end
def downpourref01_From.f (k : Nat) (l0 : List Int) : Option (Int × List Int) := downpourref01_From.l0 k l0 0 (l0.length : Int) ([] : List Int)
theorem downpourref01_From.mono_l : ∀ k, (∀ y0 y1 y2 y3, LeO (downpourref01_From.l0 k y0 y1 y2 y3) (downpourref01_From.l0 (k + 1) y0 y1 y2 y3)) ∧ (∀ y0 y1 y2 y3 y4 y5, LeO (downpourref01_From.l1 k y0 y1 y2 y3 y4 y5) (downpourref01_From.l1 (k + 1) y0 y1 y2 y3 y4 y5))
 | 0 => ⟨fun _ _ _ _ r h => by simp [downpourref01_From.l0] at h, fun _ _ _ _ _ _ r h => by simp [downpourref01_From.l1] at h⟩
 | k + 1 => by
  obtain ⟨ih0, ih1⟩ := downpourref01_From.mono_l k
  refine ⟨?_, ?_⟩
  ·
   intro y0 y1 y2 y3
   unfold downpourref01_From.l0
   repeat' first
   | (with_reducible exact ih0 _ _ _ _)
   | (with_reducible exact ih1 _ _ _ _ _ _)
   | (with_reducible exact LeO.refl _)
   | (with_reducible exact LeO.none _)
   | (with_reducible refine LeO.ite ?_ ?_)
   | (with_reducible refine LeO.bind ?_ (fun _ => ?_))
   | exact ih0 _ _ _ _
   | exact ih1 _ _ _ _ _ _
   | exact LeO.none _
   | refine LeO.ite ?_ ?_
   | refine LeO.bind ?_ (fun _ => ?_)
  ·
   intro y0 y1 y2 y3 y4 y5
   unfold downpourref01_From.l1
   repeat' first
   | (with_reducible exact ih0 _ _ _ _)
   | (with_reducible exact ih1 _ _ _ _ _ _)
   | (with_reducible exact LeO.refl _)
   | (with_reducible exact LeO.none _)
   | (with_reducible refine LeO.ite ?_ ?_)
   | (with_reducible refine LeO.bind ?_ (fun _ => ?_))
   | exact ih0 _ _ _ _
   | exact ih1 _ _ _ _ _ _
   | exact LeO.none _
   | refine LeO.ite ?_ ?_
   | refine LeO.bind ?_ (fun _ => ?_)
theorem downpourref01_From.mono : ∀ a0 k, LeO (downpourref01_From.f k a0) (downpourref01_From.f (k + 1) a0) := by
 intro a0 k
 obtain ⟨ih0, ih1⟩ := downpourref01_From.mono_l k
 unfold downpourref01_From.f
 repeat' first
   | (with_reducible exact ih0 _ _ _ _)
   | (with_reducible exact ih1 _ _ _ _ _ _)
   | (with_reducible exact LeO.refl _)
   | (with_reducible exact LeO.none _)
   | (with_reducible refine LeO.ite ?_ ?_)
   | (with_reducible refine LeO.bind ?_ (fun _ => ?_))
   | exact ih0 _ _ _ _
   | exact ih1 _ _ _ _ _ _
   | exact LeO.none _
   | refine LeO.ite ?_ ?_
   | refine LeO.bind ?_ (fun _ => ?_)
set_option maxHeartbeats 8000000 in
set_option maxRecDepth 100000 in
theorem downpourref01_From.calls (k : Nat) (A0 : Option Addr) (c0 : Nat) (l0 : List Int) (r1 : Int) (r2 : List Int) (w : World) (hr0 : Kd.C (Kd.int .i64) w A0 l0.length l0) (hc0 : l0.length ≤ c0) (h : downpourref01_From.f k l0 = some (r1, r2)) :
  Calls Try.prog 109 #[.slice A0 l0.length c0] w fun e w' => ∃ v1_ : Value, e = .returned (.agg #[.int .i64 r1, v1_]) ∧ Kd.R (Kd.int .u64) 59 w' w.heap.size (fun _ => True) v1_ r2 ∧ Below w.heap.size w w' := by
 have hu25 := Try.underlying25
 have HR0 := Aside0.mk hr0
 have HC0 := Aside0.mk hc0
 clear hr0 hc0
 have HB := am (Below.refl w.heap.size w)
 have H : (downpourref01_From.l0 k l0 0 (l0.length : Int) ([] : List Int)) = some (r1, r2) := h
 clear h
 have H' := Aside0.mk H
 clear H
 go_enter Try.func109, Try.ntmps109
 go_wp2_with (first | ((with_reducible refine gate_dst (N := 2) rfl ?_); refine box_event ?hg (N := 2) ?hd (cs := #[.int .i64 0, .slice none 0 0]) (t := 25) ?hr ?_; (case hd => rfl); (case hg => rfl); (case hr => first | (go_simp; done) | (go_simp; rfl)); intro gb267 hg w2 hbox hb; have n0_ := am (below_step (pb HB) hb); have n1_ := am (hbox); have n2_ := am ((by rw [hg]; exact (below_size (pb HB)) : w.heap.size ≤ gb267)); have n3_ := am ((by rw [hg]; exact (below_size (pb HB)) : w.heap.size ≤ gb267)); clear HB; have HB := n0_; have BK267 := n1_; have GW267 := n2_; have GE267 := n3_; clear n0_ n1_ n2_ n3_ hb hbox hg) | ((with_reducible refine gate_dst (N := 3) rfl ?_); refine box_event ?hg (N := 3) ?hd (cs := #[.int .i64 0, .slice none 0 0]) (t := 25) ?hr ?_; (case hd => rfl); (case hg => rfl); (case hr => first | (go_simp; done) | (go_simp; rfl)); intro gb268 hg w3 hbox hb; have n0_ := bb BK267 hb; have n1_ := am (below_step (pb HB) hb); have n2_ := am (hbox); have n3_ := am ((by rw [hg]; exact (below_size (pb HB)) : w.heap.size ≤ gb268)); have n4_ := am ((by rw [hg]; exact (below_size (pb HB)) : w.heap.size ≤ gb268)); have n5_ := am ((by rw [hg]; exact Nat.ne_of_lt (bl BK267) : gb267 ≠ gb268)); have n6_ := am ((by rw [hg]; exact Nat.ne_of_gt (bl BK267) : gb268 ≠ gb267)); clear BK267 HB; have BK267 := n0_; have HB := n1_; have BK268 := n2_; have GW268 := n3_; have GE268 := n4_; have NB267_268 := n5_; have NB268_267 := n6_; clear n0_ n1_ n2_ n3_ n4_ n5_ n6_ hb hbox hg; have hnb4 := NB268_267.out; have hnc4 := NB267_268.out; have hcz5_0 : w3.cell? ⟨gb268, 0, none⟩ = some (.int .i64 0) := (blk_cell BK268.out 0).trans rfl; have hcz5_1 : w3.cell? ⟨gb268, 1, none⟩ = some (.slice none 0 0) := (blk_cell BK268.out 1).trans rfl; have hfz5_0 := blk_frozen BK268.out 0; have hfz5_1 := blk_frozen BK268.out 1))
 go_loopg [4] k (fun kq v4 w' => ∃ (x4_1 : Int) (x269001_1 : List Int) (u269001 : Value), v4 = .int .i64 x4_1 ∧ Aside0 (downpourref01_From.l0 kq l0 x4_1 (l0.length : Int) x269001_1 = some (r1, r2)) ∧ Aside0 (kq ≤ k) ∧ Aside0 (Kd.R (Kd.int .u64) 59 w' w.heap.size (fun _ => True) u269001 x269001_1) ∧ Aside0 (w'.heap[gb267]? = some (.cells #[.int .i64 0, (.slice none 0 0)] 25 (0, 0))) ∧ Aside0 (w'.heap[gb268]? = some (.cells #[.int .i64 (l0.length : Int), u269001] 25 (0, 0))) ∧ Aside0 (Below w.heap.size w w'))
 case atStart => exact ⟨(0), (([] : List Int)), (.slice none 0 0), (by first | rfl | (simp; done) | (simp [*]; done)), H', ⟨Nat.le_refl _⟩, ⟨by first | exact Kd.R_nil _ _ _ _ _ | exact Kd.N_nil _ _ _ _ _ | exact Kd.V_nil _ _ _ _ _ | exact Kd.Q_nil _ _ _ _ _ | exact Kd.S_nil _ _ _ _ _⟩, ⟨by (with_reducible repeat (first | refine blk_drewN ?_ _ | refine blk_drew ?_ | refine blk_alloc ?_ _)); refine blk_far ?_ NB267_268.out _; (with_reducible repeat (first | refine blk_drewN ?_ _ | refine blk_drew ?_ | refine blk_alloc ?_ _)); refine blk_far ?_ NB267_268.out _; (with_reducible repeat (first | refine blk_drewN ?_ _ | refine blk_drew ?_ | refine blk_alloc ?_ _)); exact BK267.out⟩, ⟨by (with_reducible repeat (first | refine blk_drewN ?_ _ | refine blk_drew ?_ | refine blk_alloc ?_ _)); refine blk_put (cs := #[.int .i64 (l0.length : Int), .slice none 0 0]) ?_ 1 _ rfl; (with_reducible repeat (first | refine blk_drewN ?_ _ | refine blk_drew ?_ | refine blk_alloc ?_ _)); refine blk_put (cs := #[.int .i64 0, .slice none 0 0]) ?_ 0 _ rfl; (with_reducible repeat (first | refine blk_drewN ?_ _ | refine blk_drew ?_ | refine blk_alloc ?_ _)); exact BK268.out⟩, ⟨pb HB⟩⟩
 case round =>
  clear H'
  try clear c1
  try clear p2
  try clear c4
  try clear hcz5_0
  try clear hcz5_1
  try clear hfz5_0
  try clear hfz5_1
  obtain ⟨x4_1, x269001_1, u269001, rfl, HA, HK1, HO_269001, BK267, BK268, HB⟩ := hrel
  cases gk with
  | zero => exact absurd HA.out (by simp [downpourref01_From.l0])
  | succ k1 =>
   have H := HA.out
   clear HA
   simp only [downpourref01_From.l0] at H
   replace H := Option.bind_eq_some_iff.mp H
   obtain ⟨t269, A60, H⟩ := H
   replace H : (if x4_1 < t269 then (downpourref01_From.l1 k1 l0 x4_1 0 63 (l0.length : Int) x269001_1) else (some ((l0.length : Int), x269001_1))) = some (r1, r2) := H
   have A6 := Aside0.mk A60
   clear A60
   by_cases c7 : x4_1 < t269
   ·
    rw [if_pos c7] at H
    have c7b0 : decide (x4_1 < t269) = true := decide_eq_true c7
    clear c7
    have H' := Aside0.mk H
    clear H
    go_wp2_with (first | ((with_reducible refine gate_callee (f := 105) rfl ?_); refine goesL_ (some 13) rfl rfl Try.func105 (by kernel_rfl) rfl #[.int .i64 (l0.length : Int)] rfl (by (try simp only [List.map_toArray, List.map_cons, List.map_nil]); first | done | rfl | (simp only [List.length_drop, List.length_take]; rfl)) ?_; (with_reducible refine (downpourref01_words.calls (l0.length : Int) t269 _ A6.out).mono ?_); rintro e w' ⟨rfl, ⟨nd, rfl⟩⟩; refine ⟨_, rfl, ?_⟩))
    go_loopg [5, 6] k1 (fun kq v5 v6 w' => ∃ (x5_2 : Int) (x6_2 : Int), v5 = .int .u64 x5_2 ∧ v6 = .int .i64 x6_2 ∧ Aside0 (downpourref01_From.l1 kq l0 x4_1 x5_2 x6_2 (l0.length : Int) x269001_1 = some (r1, r2)) ∧ Aside0 (kq ≤ k1) ∧ Aside0 (Kd.R (Kd.int .u64) 59 w' w.heap.size (fun _ => True) u269001 x269001_1) ∧ Aside0 (w'.heap[gb267]? = some (.cells #[.int .i64 0, (.slice none 0 0)] 25 (0, 0))) ∧ Aside0 (w'.heap[gb268]? = some (.cells #[.int .i64 (l0.length : Int), u269001] 25 (0, 0))) ∧ Aside0 (Below w.heap.size w w'))
    case atStart => exact ⟨(0), (63), (by first | rfl | (simp; done) | (simp [*]; done)), (by first | rfl | (simp; done) | (simp [*]; done)), H', ⟨Nat.le_refl _⟩, ⟨by (with_reducible repeat (first | apply Kd.R_alloc | apply Kd.R_drewN | apply Kd.R_drew)); exact HO_269001.out⟩, ⟨by (with_reducible repeat (first | refine blk_drewN ?_ _ | refine blk_drew ?_ | refine blk_alloc ?_ _)); exact BK267.out⟩, ⟨by (with_reducible repeat (first | refine blk_drewN ?_ _ | refine blk_drew ?_ | refine blk_alloc ?_ _)); exact BK268.out⟩, ⟨pb HB⟩⟩
    case round =>
     clear H'
     try clear c1
     try clear p2
     try clear c4
     try clear c7
     try clear c7b0
     try clear hcz5_0
     try clear hcz5_1
     try clear hfz5_0
     try clear hfz5_1
     try clear p2
     obtain ⟨x5_2, x6_2, rfl, rfl, HA, HK2, HO_269001, BK267, BK268, HB⟩ := hrel
     cases gk with
     | zero => exact absurd HA.out (by simp [downpourref01_From.l1])
     | succ k2 =>
      have H := HA.out
      clear HA
      simp only [downpourref01_From.l1] at H
      by_cases c8 : x6_2 ≥ 0
      ·
       rw [if_pos c8] at H
       have c8b0 : decide (0 ≤ x6_2) = true := decide_eq_true c8
       clear c8
       by_cases c9 : (wrap64 ((wrap64 (64 * x4_1)) + x6_2)) < (l0.length : Int)
       ·
        rw [if_pos c9] at H
        have c9b0 : decide ((wrap64 ((wrap64 (64 * x4_1)) + x6_2)) < (l0.length : Int)) = true := decide_eq_true c9
        clear c9
        obtain ⟨ji10, hji10⟩ : ∃ j_ : Int, (wrap64 ((wrap64 (64 * x4_1)) + x6_2)) = j_ := ⟨_, rfl⟩
        replace H : (if 0 ≤ (ji10) then (if (rd l0 (ji10)) = 1 then (downpourref01_From.l1 k2 l0 x4_1 (IntKind.u64.wrap ((IntKind.u64.wrap (2 * x5_2)) + 1)) (wrap64 (x6_2 - 1)) (l0.length : Int) x269001_1) else (downpourref01_From.l1 k2 l0 x4_1 (IntKind.u64.wrap (2 * x5_2)) (wrap64 (x6_2 - 1)) (l0.length : Int) x269001_1)) else (none)) = some (r1, r2) := by first | (rw [hji10] at H; exact H) | (simp only [hji10] at H ⊢; exact H)
        (try rw [hji10] at c9b0)
        have hji10w : (IntKind.i64.wrap ((wrap64 (64 * x4_1)) + x6_2)) = ji10 := (i64_w _).trans hji10
        by_cases c11 : 0 ≤ (ji10)
        ·
         rw [if_pos c11] at H
         have c11b0 : decide (0 ≤ (ji10)) = true := decide_eq_true c11
         clear c11
         by_cases c12 : (rd l0 (ji10)) = 1
         ·
          rw [if_pos c12] at H
          have c12b0 : ((rd l0 (ji10)) == 1) = true := beq_iff_eq.mpr c12
          have c12b1 : ((rd l0 (ji10)) != 1) = false := bne_eq_false_iff_eq.mpr c12
          clear c12
          have H' := Aside0.mk H
          clear H
          have p270 : 0 ≤ ((ji10) : Int) := of_decide_eq_true (by first | (with_reducible assumption) | assumption)
          have q270 : (ji10) < (l0.length : Int) := of_decide_eq_true (by first | (with_reducible assumption) | assumption)
          obtain ⟨ad270, e270, hx270_0⟩ := Kd.at_int HR0.out (ji10) p270 q270
          cases e270
          replace hx270_0 := (HB.out.cell (World.block_lt_of_cell? w _ hx270_0)).trans hx270_0
          replace p270 := eq_true p270
          replace q270 := eq_true q270
          go_wp2
          go_roundg k2
          case measure => have := HK1.out; have := HK2.out; omega
          case rel => exact ⟨(IntKind.u64.wrap ((IntKind.u64.wrap (2 * x5_2)) + 1)), (wrap64 (x6_2 - 1)), (by first | rfl | (simp; done) | (simp [*]; done)), (by first | rfl | (simp; done) | (simp [*]; done)), H', ⟨by have := HK1.out; have := HK2.out; omega⟩, ⟨by (with_reducible repeat (first | apply Kd.R_alloc | apply Kd.R_drewN | apply Kd.R_drew)); exact HO_269001.out⟩, ⟨by (with_reducible repeat (first | refine blk_drewN ?_ _ | refine blk_drew ?_ | refine blk_alloc ?_ _)); exact BK267.out⟩, ⟨by (with_reducible repeat (first | refine blk_drewN ?_ _ | refine blk_drew ?_ | refine blk_alloc ?_ _)); exact BK268.out⟩, ⟨pb HB⟩⟩
         ·
          rw [if_neg c12] at H
          have c12b0 : ((rd l0 (ji10)) == 1) = false := beq_eq_false_iff_ne.mpr c12
          have c12b1 : ((rd l0 (ji10)) != 1) = true := bne_iff_ne.mpr c12
          have H' := Aside0.mk H
          clear H
          have p270 : 0 ≤ ((ji10) : Int) := of_decide_eq_true (by first | (with_reducible assumption) | assumption)
          have q270 : (ji10) < (l0.length : Int) := of_decide_eq_true (by first | (with_reducible assumption) | assumption)
          obtain ⟨ad270, e270, hx270_0⟩ := Kd.at_int HR0.out (ji10) p270 q270
          cases e270
          replace hx270_0 := (HB.out.cell (World.block_lt_of_cell? w _ hx270_0)).trans hx270_0
          replace p270 := eq_true p270
          replace q270 := eq_true q270
          go_wp2
          go_roundg k2
          case measure => have := HK1.out; have := HK2.out; omega
          case rel => exact ⟨(IntKind.u64.wrap (2 * x5_2)), (wrap64 (x6_2 - 1)), (by first | rfl | (simp; done) | (simp [*]; done)), (by first | rfl | (simp; done) | (simp [*]; done)), H', ⟨by have := HK1.out; have := HK2.out; omega⟩, ⟨by (with_reducible repeat (first | apply Kd.R_alloc | apply Kd.R_drewN | apply Kd.R_drew)); exact HO_269001.out⟩, ⟨by (with_reducible repeat (first | refine blk_drewN ?_ _ | refine blk_drew ?_ | refine blk_alloc ?_ _)); exact BK267.out⟩, ⟨by (with_reducible repeat (first | refine blk_drewN ?_ _ | refine blk_drew ?_ | refine blk_alloc ?_ _)); exact BK268.out⟩, ⟨pb HB⟩⟩
        ·
         rw [if_neg c11] at H
         exact absurd H (by simp)
       ·
        rw [if_neg c9] at H
        have c9b0 : decide ((wrap64 ((wrap64 (64 * x4_1)) + x6_2)) < (l0.length : Int)) = false := decide_eq_false c9
        clear c9
        have H' := Aside0.mk H
        clear H
        go_wp2
        go_roundg k2
        case measure => have := HK1.out; have := HK2.out; omega
        case rel => exact ⟨(IntKind.u64.wrap (2 * x5_2)), (wrap64 (x6_2 - 1)), (by first | rfl | (simp; done) | (simp [*]; done)), (by first | rfl | (simp; done) | (simp [*]; done)), H', ⟨by have := HK1.out; have := HK2.out; omega⟩, ⟨by (with_reducible repeat (first | apply Kd.R_alloc | apply Kd.R_drewN | apply Kd.R_drew)); exact HO_269001.out⟩, ⟨by (with_reducible repeat (first | refine blk_drewN ?_ _ | refine blk_drew ?_ | refine blk_alloc ?_ _)); exact BK267.out⟩, ⟨by (with_reducible repeat (first | refine blk_drewN ?_ _ | refine blk_drew ?_ | refine blk_alloc ?_ _)); exact BK268.out⟩, ⟨pb HB⟩⟩
      ·
       rw [if_neg c8] at H
       have c8b0 : decide (0 ≤ x6_2) = false := decide_eq_false c8
       clear c8
       by_cases c13 : x269001_1.length < 17592186044416
       ·
        rw [if_pos c13] at H
        have LMc13 := Aside0.mk c13
        clear c13
        obtain ⟨y271, hy271⟩ : ∃ y_ : List Int, y_ = (x269001_1 ++ [x5_2]) := ⟨_, rfl⟩
        replace H : (downpourref01_From.l0 k2 l0 (wrap64 (x4_1 + 1)) (l0.length : Int) y271) = some (r1, r2) := by first | (rw [hy271]; with_reducible exact H) | (have H2_ := (Option.bind_some _ _).symm.trans H; rw [hy271]; with_reducible exact H2_) | (have H2_ := (Option.bind_some _ _).symm.trans H; with_reducible exact H2_) | with_reducible exact H | (rw [hy271]; exact H) | exact H
        have Ny271 := Aside0.mk hy271
        clear hy271
        have H' := Aside0.mk H
        clear H
        have hnb14 := NB268_267.out
        have hnc14 := NB267_268.out
        have hcz15_0 : wr.cell? ⟨gb268, 0, none⟩ = some (.int .i64 (l0.length : Int)) := (blk_cell BK268.out 0).trans rfl
        have hcz15_1 : wr.cell? ⟨gb268, 1, none⟩ = some (u269001) := (blk_cell BK268.out 1).trans rfl
        have hfz15_0 := blk_frozen BK268.out 0
        have hfz15_1 := blk_frozen BK268.out 1
        go_wp2_with (first | ((with_reducible refine gate_builtin (b := .append) (xs := #[.tmp 43, .tmp 45]) rfl ?_); at_builtin; refine Kd.R_append (Kd.int .u64) (w0 := w) w.heap.size rfl (.tmp 43) (.tmp 45) 23 59 (.int .u64 0) 8 rfl Try.underlying23 info59 rfl (by decide) (by omega) u269001 x269001_1 x5_2 [.int .u64 x5_2] (fun _ => True) (fun _ => False) rfl rfl ?aP (fun _ hk => hk.elim) ?aF ?aO ?aB ?aS ?aL ?_; (case aP => exact rfl); (case aB => exact (pb HB)); (case aF => exact (fun _ _ => trivial)); (case aO => exact (pr HO_269001)); (case aS => exact (below_size (pb HB))); (case aL => have := LMc13.out; omega); intro v272 w16 ho hb hg hat; rw [← Ny271.out] at ho; have n0_ := am (blk_grown (g := gb267) (o := .cells #[.int .i64 0, .slice none 0 0] 25 (0, 0)) (pk BK267) hg (Kd.R_ne HO_269001.out BK267.out (by decide))); have n1_ := am (blk_grown (g := gb268) (o := .cells #[.int .i64 (l0.length : Int), u269001] 25 (0, 0)) (pk BK268) hg (Kd.R_ne HO_269001.out BK268.out (by decide))); have n2_ := am (hb); have n3_ := am (ho); clear BK267 BK268 HB HO_269001; have BK267 := n0_; have BK268 := n1_; have HB := n2_; have HO273 := n3_; clear n0_ n1_ n2_ n3_ ho hb hg hat; obtain ⟨Ao17, co17, eo17⟩ := Kd.R_slice HO273.out; subst eo17; have hcz18_0 : w16.cell? ⟨gb268, 0, none⟩ = some (.int .i64 (l0.length : Int)) := (blk_cell BK268.out 0).trans rfl; have hcz18_1 : w16.cell? ⟨gb268, 1, none⟩ = some (u269001) := (blk_cell BK268.out 1).trans rfl; have hfz18_0 := blk_frozen BK268.out 0; have hfz18_1 := blk_frozen BK268.out 1))
        go_roundg k2
        case measure => have := HK1.out; have := HK2.out; omega
        case rel => exact ⟨(wrap64 (x4_1 + 1)), (y271), (.slice Ao17 y271.length co17), (by first | rfl | (simp; done) | (simp [*]; done)), H', ⟨by have := HK1.out; have := HK2.out; omega⟩, ⟨by (with_reducible repeat (first | apply Kd.R_alloc | apply Kd.R_drewN | apply Kd.R_drew)); exact Kd.R_mono (Kd.R_far (p := ⟨gb268, 1, none⟩) (Kd.R_types HO273.out BK268.out (by decide)) (fun _ hk => hk.2) (.slice Ao17 y271.length co17)) (fun _ hk => trivial)⟩, ⟨by (with_reducible repeat (first | refine blk_drewN ?_ _ | refine blk_drew ?_ | refine blk_alloc ?_ _)); refine blk_far ?_ NB267_268.out _; (with_reducible repeat (first | refine blk_drewN ?_ _ | refine blk_drew ?_ | refine blk_alloc ?_ _)); exact BK267.out⟩, ⟨by (with_reducible repeat (first | refine blk_drewN ?_ _ | refine blk_drew ?_ | refine blk_alloc ?_ _)); refine blk_put (cs := #[.int .i64 (l0.length : Int), u269001]) ?_ 1 _ rfl; (with_reducible repeat (first | refine blk_drewN ?_ _ | refine blk_drew ?_ | refine blk_alloc ?_ _)); exact BK268.out⟩, ⟨pb HB⟩⟩
       ·
        rw [if_neg c13] at H
        exact absurd H (by simp)
   ·
    rw [if_neg c7] at H
    have c7b0 : decide (x4_1 < t269) = false := decide_eq_false c7
    clear c7
    simp only [Option.some.injEq, Prod.mk.injEq] at H
    obtain ⟨rfl, rfl⟩ := H
    go_wp2_with (first | ((with_reducible refine gate_callee (f := 105) rfl ?_); refine goesL_ (some 13) rfl rfl Try.func105 (by kernel_rfl) rfl #[.int .i64 (l0.length : Int)] rfl (by (try simp only [List.map_toArray, List.map_cons, List.map_nil]); first | done | rfl | (simp only [List.length_drop, List.length_take]; rfl)) ?_; (with_reducible refine (downpourref01_words.calls (l0.length : Int) t269 _ A6.out).mono ?_); rintro e w' ⟨rfl, ⟨nd, rfl⟩⟩; refine ⟨_, rfl, ?_⟩; (try (rw [drewN_self wr]; generalize hq_ : World.drewN wr _ = wr; have n0_ : Aside0 (Kd.R (Kd.int .u64) 59 wr w.heap.size (fun _ => True) u269001 x269001_1) := ⟨by rw [← hq_]; exact (pr HO_269001)⟩; have n1_ : Aside0 (wr.heap[gb267]? = some (.cells #[.int .i64 0, .slice none 0 0] 25 (0, 0))) := ⟨by rw [← hq_]; exact (pk BK267)⟩; have n2_ : Aside0 (wr.heap[gb268]? = some (.cells #[.int .i64 (l0.length : Int), u269001] 25 (0, 0))) := ⟨by rw [← hq_]; exact (pk BK268)⟩; have n3_ : Aside0 (Below w.heap.size w wr) := ⟨by rw [← hq_]; exact (pb HB)⟩; clear HO_269001 BK267 BK268 HB hq_; have HO_269001 := n0_; have BK267 := n1_; have BK268 := n2_; have HB := n3_; clear n0_ n1_ n2_ n3_)); have hnb19 := NB268_267.out; have hnc19 := NB267_268.out; have hcz20_0 : wr.cell? ⟨gb268, 0, none⟩ = some (.int .i64 (l0.length : Int)) := (blk_cell BK268.out 0).trans rfl; have hcz20_1 : wr.cell? ⟨gb268, 1, none⟩ = some (u269001) := (blk_cell BK268.out 1).trans rfl; have hfz20_0 := blk_frozen BK268.out 0; have hfz20_1 := blk_frozen BK268.out 1; have hcz21_0 : wr.cell? ⟨gb267, 0, none⟩ = some (.int .i64 0) := (blk_cell BK267.out 0).trans rfl; have hcz21_1 : wr.cell? ⟨gb267, 1, none⟩ = some (.slice none 0 0) := (blk_cell BK267.out 1).trans rfl; have hfz21_0 := blk_frozen BK267.out 0; have hfz21_1 := blk_frozen BK267.out 1; obtain ⟨Ao22, co22, eo22⟩ := Kd.R_slice HO_269001.out; subst eo22))
    refine bodyPost_ret (results_cell_row rfl _ _ gb267 25 #[.int .i64 (l0.length : Int), .slice Ao22 x269001_1.length co22] (0, 0) _ rfl (by (with_reducible repeat (first | refine blk_drewN ?_ _ | refine blk_drew ?_ | refine blk_alloc ?_ _)); refine blk_put (cs := #[.int .i64 (l0.length : Int), .slice none 0 0]) ?_ 1 _ rfl; (with_reducible repeat (first | refine blk_drewN ?_ _ | refine blk_drew ?_ | refine blk_alloc ?_ _)); refine blk_put (cs := #[.int .i64 0, .slice none 0 0]) ?_ 0 _ rfl; (with_reducible repeat (first | refine blk_drewN ?_ _ | refine blk_drew ?_ | refine blk_alloc ?_ _)); exact BK267.out) Try.underlying25 rfl (by kernel_rfl)) rfl ?_
    exact ⟨_, by first | rfl | (simp [errW_none, errW_some] <;> rfl) | (simp [*, errW_none, errW_some] <;> rfl), by (with_reducible repeat (first | apply Kd.R_alloc | apply Kd.R_drewN | apply Kd.R_drew)); exact Kd.R_mono (Kd.R_far (p := ⟨gb267, 1, none⟩) (Kd.R_far (p := ⟨gb267, 0, none⟩) (Kd.R_types HO_269001.out BK267.out (by decide)) (fun _ hk => hk.2) (.int .i64 (l0.length : Int))) (fun _ hk => hk.2) (.slice Ao22 x269001_1.length co22)) (fun _ hk => trivial), pb HB⟩

/-! ### downpourref01_Of: function 27 -/
def downpourref01_Of.l0 : Nat → Int → List Int → List Int → Int → Option (Int × List Int)
 | 0, _, _, _, _ => none
 | k + 1, x0, x1, x5, x6 => if x6 < x0 then ((downpourref01_In.f k x1 x6).bind fun t278 => (if t278 = true then (if x5.length < 17592186044416 then (downpourref01_Of.l0 k x0 x1 (x5 ++ [1]) (wrap64 (x6 + 1))) else (none)) else (if x5.length < 17592186044416 then (downpourref01_Of.l0 k x0 x1 (x5 ++ [0]) (wrap64 (x6 + 1))) else (none)))) else ((downpourref01_From.f k x5).bind fun bt285 => (some (bt285.1, bt285.2)))
def downpourref01_Of.f (k : Nat) (a0 : Int) (l1 : List Int) : Option (Int × List Int) := downpourref01_Of.l0 k a0 l1 (([] : List Int)) 0
theorem downpourref01_Of.mono_l : ∀ k, (∀ y0 y1 y2 y3, LeO (downpourref01_Of.l0 k y0 y1 y2 y3) (downpourref01_Of.l0 (k + 1) y0 y1 y2 y3))
 | 0 => fun _ _ _ _ r h => by simp [downpourref01_Of.l0] at h
 | k + 1 => by
  have ih0 := downpourref01_Of.mono_l k
  ·
   intro y0 y1 y2 y3
   unfold downpourref01_Of.l0
   repeat' first
   | (with_reducible exact ih0 _ _ _ _)
   | (with_reducible exact downpourref01_From.mono _ _)
   | (with_reducible exact downpourref01_In.mono _ _ _)
   | (with_reducible exact LeO.refl _)
   | (with_reducible exact LeO.none _)
   | (with_reducible refine LeO.ite ?_ ?_)
   | (with_reducible refine LeO.bind ?_ (fun _ => ?_))
   | exact ih0 _ _ _ _
   | exact downpourref01_From.mono _ _
   | exact downpourref01_In.mono _ _ _
   | exact LeO.none _
   | refine LeO.ite ?_ ?_
   | refine LeO.bind ?_ (fun _ => ?_)
theorem downpourref01_Of.mono : ∀ a0 a1 k, LeO (downpourref01_Of.f k a0 a1) (downpourref01_Of.f (k + 1) a0 a1) := by
 intro a0 a1 k
 have ih0 := downpourref01_Of.mono_l k
 unfold downpourref01_Of.f
 repeat' first
   | (with_reducible exact ih0 _ _ _ _)
   | (with_reducible exact downpourref01_From.mono _ _)
   | (with_reducible exact downpourref01_In.mono _ _ _)
   | (with_reducible exact LeO.refl _)
   | (with_reducible exact LeO.none _)
   | (with_reducible refine LeO.ite ?_ ?_)
   | (with_reducible refine LeO.bind ?_ (fun _ => ?_))
   | exact ih0 _ _ _ _
   | exact downpourref01_From.mono _ _
   | exact downpourref01_In.mono _ _ _
   | exact LeO.none _
   | refine LeO.ite ?_ ?_
   | refine LeO.bind ?_ (fun _ => ?_)
set_option maxHeartbeats 8000000 in
set_option maxRecDepth 100000 in
theorem downpourref01_Of.calls (k : Nat) (a0 : Int) (A1 : Option Addr) (c1 : Nat) (l1 : List Int) (r1 : Int) (r2 : List Int) (w : World) (hr1 : Kd.C (Kd.int .i64) w A1 l1.length l1) (hc1 : l1.length ≤ c1) (h : downpourref01_Of.f k a0 l1 = some (r1, r2)) :
  Calls Try.prog 27 #[.int .i64 a0, .slice A1 l1.length c1] w fun e w' => ∃ v1_ : Value, e = .returned (.agg #[.int .i64 r1, v1_]) ∧ Kd.R (Kd.int .u64) 59 w' w.heap.size (fun _ => True) v1_ r2 ∧ Below w.heap.size w w' := by
 have hu25 := Try.underlying25
 have HR1 := Aside0.mk hr1
 have HC1 := Aside0.mk hc1
 clear hr1 hc1
 have HB := am (Below.refl w.heap.size w)
 have H : (downpourref01_Of.l0 k a0 l1 (([] : List Int)) 0) = some (r1, r2) := h
 clear h
 obtain ⟨y275, hy275⟩ : ∃ y_ : List Int, y_ = (([] : List Int)) := ⟨_, rfl⟩
 replace H : (downpourref01_Of.l0 k a0 l1 y275 0) = some (r1, r2) := by first | (rw [hy275]; with_reducible exact H) | (have H2_ := (Option.bind_some _ _).symm.trans H; rw [hy275]; with_reducible exact H2_) | (have H2_ := (Option.bind_some _ _).symm.trans H; with_reducible exact H2_) | with_reducible exact H | (rw [hy275]; exact H) | exact H
 have Ny275 := Aside0.mk hy275
 clear hy275
 have H' := Aside0.mk H
 clear H
 go_enter Try.func27, Try.ntmps27
 go_wp2_with (first | ((with_reducible refine gate_dst (N := 4) rfl ?_); refine box_event ?hg (N := 4) ?hd (cs := #[.int .i64 0, .slice none 0 0]) (t := 25) ?hr ?_; (case hd => rfl); (case hg => rfl); (case hr => first | (go_simp; done) | (go_simp; rfl)); intro gb274 hg w3 hbox hb; have n0_ := am (below_step (pb HB) hb); have n1_ := am (hbox); have n2_ := am ((by rw [hg]; exact (below_size (pb HB)) : w.heap.size ≤ gb274)); have n3_ := am ((by rw [hg]; exact (below_size (pb HB)) : w.heap.size ≤ gb274)); clear HB; have HB := n0_; have BK274 := n1_; have GW274 := n2_; have GE274 := n3_; clear n0_ n1_ n2_ n3_ hb hbox hg) | ((with_reducible refine gate_dst (N := 8) rfl ?_); refine Kd.R_lit (Kd.int .i64) _ 3 ?hg (N := 8) ?hd (xs := ([] : List Int)) (inner := []) (ok := fun _ => True) (okp := fun _ => True) ?hr ?hp (fun _ hk => hk) trivial (Below.refl _ _) (Nat.le_refl _) (by simp) ?_; (case hd => rfl); (case hg => rfl); (case hr => first | (go_simp; done) | (go_simp; rfl)); (case hp => exact (Reps.none _ _)); intro v276 w4 ho5 hb hg_ hnew_; clear hg_ hnew_; (first | rw [← Ny275.out] at ho5 | (simp only [Int.reduceToNat] at ho5; rw [← Ny275.out] at ho5)); have n0_ := am (Kd.R_lower ho5 (below_size (pb HB))); have n1_ := bb BK274 hb; have n2_ := am (below_step (pb HB) hb); clear BK274 HB; have HO277 := n0_; have BK274 := n1_; have HB := n2_; clear n0_ n1_ n2_ hb ho5))
 go_loopg [5, 6] k (fun kq v5 v6 w' => ∃ (x5_1 : List Int) (x6_1 : Int), v6 = .int .i64 x6_1 ∧ Aside0 (downpourref01_Of.l0 kq a0 l1 x5_1 x6_1 = some (r1, r2)) ∧ Aside0 (kq ≤ k) ∧ Aside0 (Kd.R (Kd.int .i64) 3 w' w.heap.size (fun _ => True) v5 x5_1) ∧ Aside0 (w'.heap[gb274]? = some (.cells #[.int .i64 0, (.slice none 0 0)] 25 (0, 0))) ∧ Aside0 (Below w.heap.size w w'))
 case atStart => exact ⟨(y275), (0), (by first | rfl | (simp; done) | (simp [*]; done)), H', ⟨Nat.le_refl _⟩, ⟨by (with_reducible repeat (first | apply Kd.R_alloc | apply Kd.R_drewN | apply Kd.R_drew)); exact HO277.out⟩, ⟨by (with_reducible repeat (first | refine blk_drewN ?_ _ | refine blk_drew ?_ | refine blk_alloc ?_ _)); exact BK274.out⟩, ⟨pb HB⟩⟩
 case round =>
  clear H'
  try clear c1
  try clear c2
  try clear p2
  obtain ⟨x5_1, x6_1, rfl, HA, HK1, HO_5, BK274, HB⟩ := hrel
  cases gk with
  | zero => exact absurd HA.out (by simp [downpourref01_Of.l0])
  | succ k1 =>
   have H := HA.out
   clear HA
   simp only [downpourref01_Of.l0] at H
   by_cases c6 : x6_1 < a0
   ·
    rw [if_pos c6] at H
    have c6b0 : decide (x6_1 < a0) = true := decide_eq_true c6
    clear c6
    replace H := Option.bind_eq_some_iff.mp H
    obtain ⟨t278, A70, H⟩ := H
    replace H : (if t278 = true then (if x5_1.length < 17592186044416 then (downpourref01_Of.l0 k1 a0 l1 (x5_1 ++ [1]) (wrap64 (x6_1 + 1))) else (none)) else (if x5_1.length < 17592186044416 then (downpourref01_Of.l0 k1 a0 l1 (x5_1 ++ [0]) (wrap64 (x6_1 + 1))) else (none))) = some (r1, r2) := H
    have A7 := Aside0.mk A70
    clear A70
    by_cases c8 : t278 = true
    ·
     subst c8
     have H1 : (if x5_1.length < 17592186044416 then (downpourref01_Of.l0 k1 a0 l1 (x5_1 ++ [1]) (wrap64 (x6_1 + 1))) else (none)) = some (r1, r2) := by rw [if_pos rfl] at H; exact H
     clear H
     have H := H1
     clear H1
     by_cases c9 : x5_1.length < 17592186044416
     ·
      rw [if_pos c9] at H
      have LMc9 := Aside0.mk c9
      clear c9
      obtain ⟨y279, hy279⟩ : ∃ y_ : List Int, y_ = (x5_1 ++ [1]) := ⟨_, rfl⟩
      replace H : (downpourref01_Of.l0 k1 a0 l1 y279 (wrap64 (x6_1 + 1))) = some (r1, r2) := by first | (rw [hy279]; with_reducible exact H) | (have H2_ := (Option.bind_some _ _).symm.trans H; rw [hy279]; with_reducible exact H2_) | (have H2_ := (Option.bind_some _ _).symm.trans H; with_reducible exact H2_) | with_reducible exact H | (rw [hy279]; exact H) | exact H
      have Ny279 := Aside0.mk hy279
      clear hy279
      have H' := Aside0.mk H
      clear H
      go_wp2_with (first | ((with_reducible refine gate_callee (f := 108) rfl ?_); refine goesL_ (some 16) rfl rfl Try.func108 (by kernel_rfl) rfl #[.slice A1 l1.length c1, .int .i64 x6_1] rfl (by (try simp only [List.map_toArray, List.map_cons, List.map_nil]); first | done | rfl | (simp only [List.length_drop, List.length_take]; rfl)) ?_; (with_reducible refine (downpourref01_In.calls k1 _ _ l1 x6_1 true _ ?side1 ?side2 A7.out).mono ?_); (case side1 => repeat (first | exact (Kd.C_below HR1.out HB.out) | (with_reducible refine Kd.C_alloc ?_ _) | (with_reducible refine Kd.C_drewN ?_ _) | (with_reducible refine Kd.C_drew ?_))); (case side2 => exact HC1.out); rintro e w' ⟨rfl, ⟨nd, rfl⟩⟩; refine ⟨_, rfl, ?_⟩) | ((with_reducible refine gate_builtin (b := .append) (xs := #[.tmp 17, .tmp 19]) rfl ?_); at_builtin; refine Kd.R_append (Kd.int .i64) (w0 := w) w.heap.size rfl (.tmp 17) (.tmp 19) 22 3 (.int .i64 0) 8 rfl Try.underlying22 info3 rfl (by decide) (by omega) u5 x5_1 1 [.int .i64 1] (fun _ => True) (fun _ => False) rfl rfl ?aP (fun _ hk => hk.elim) ?aF ?aO ?aB ?aS ?aL ?_; (case aP => exact rfl); (case aB => exact (pb HB)); (case aF => exact (fun _ _ => trivial)); (case aO => exact (pr HO_5)); (case aS => exact (below_size (pb HB))); (case aL => have := LMc9.out; omega); intro v280 w10 ho hb hg hat; rw [← Ny279.out] at ho; have n0_ := am (blk_grown (g := gb274) (o := .cells #[.int .i64 0, .slice none 0 0] 25 (0, 0)) (pk BK274) hg (Kd.R_ne HO_5.out BK274.out (by decide))); have n1_ := am (hb); have n2_ := am (ho); clear BK274 HB HO_5; have BK274 := n0_; have HB := n1_; have HO281 := n2_; clear n0_ n1_ n2_ ho hb hg hat))
      go_roundg k1
      case measure => have := HK1.out; omega
      case rel => exact ⟨(y279), (wrap64 (x6_1 + 1)), (by first | rfl | (simp; done) | (simp [*]; done)), H', ⟨by have := HK1.out; omega⟩, ⟨by (with_reducible repeat (first | apply Kd.R_alloc | apply Kd.R_drewN | apply Kd.R_drew)); exact HO281.out⟩, ⟨by (with_reducible repeat (first | refine blk_drewN ?_ _ | refine blk_drew ?_ | refine blk_alloc ?_ _)); exact BK274.out⟩, ⟨pb HB⟩⟩
     ·
      rw [if_neg c9] at H
      exact absurd H (by simp)
    ·
     replace c8 := Bool.eq_false_iff.mpr c8
     subst c8
     have H1 : (if x5_1.length < 17592186044416 then (downpourref01_Of.l0 k1 a0 l1 (x5_1 ++ [0]) (wrap64 (x6_1 + 1))) else (none)) = some (r1, r2) := by rw [if_neg (show ¬ (false = true) by decide)] at H; exact H
     clear H
     have H := H1
     clear H1
     by_cases c11 : x5_1.length < 17592186044416
     ·
      rw [if_pos c11] at H
      have LMc11 := Aside0.mk c11
      clear c11
      obtain ⟨y282, hy282⟩ : ∃ y_ : List Int, y_ = (x5_1 ++ [0]) := ⟨_, rfl⟩
      replace H : (downpourref01_Of.l0 k1 a0 l1 y282 (wrap64 (x6_1 + 1))) = some (r1, r2) := by first | (rw [hy282]; with_reducible exact H) | (have H2_ := (Option.bind_some _ _).symm.trans H; rw [hy282]; with_reducible exact H2_) | (have H2_ := (Option.bind_some _ _).symm.trans H; with_reducible exact H2_) | with_reducible exact H | (rw [hy282]; exact H) | exact H
      have Ny282 := Aside0.mk hy282
      clear hy282
      have H' := Aside0.mk H
      clear H
      go_wp2_with (first | ((with_reducible refine gate_callee (f := 108) rfl ?_); refine goesL_ (some 16) rfl rfl Try.func108 (by kernel_rfl) rfl #[.slice A1 l1.length c1, .int .i64 x6_1] rfl (by (try simp only [List.map_toArray, List.map_cons, List.map_nil]); first | done | rfl | (simp only [List.length_drop, List.length_take]; rfl)) ?_; (with_reducible refine (downpourref01_In.calls k1 _ _ l1 x6_1 false _ ?side1 ?side2 A7.out).mono ?_); (case side1 => repeat (first | exact (Kd.C_below HR1.out HB.out) | (with_reducible refine Kd.C_alloc ?_ _) | (with_reducible refine Kd.C_drewN ?_ _) | (with_reducible refine Kd.C_drew ?_))); (case side2 => exact HC1.out); rintro e w' ⟨rfl, ⟨nd, rfl⟩⟩; refine ⟨_, rfl, ?_⟩) | ((with_reducible refine gate_builtin (b := .append) (xs := #[.tmp 17, .tmp 19]) rfl ?_); at_builtin; refine Kd.R_append (Kd.int .i64) (w0 := w) w.heap.size rfl (.tmp 17) (.tmp 19) 22 3 (.int .i64 0) 8 rfl Try.underlying22 info3 rfl (by decide) (by omega) u5 x5_1 0 [.int .i64 0] (fun _ => True) (fun _ => False) rfl rfl ?aP (fun _ hk => hk.elim) ?aF ?aO ?aB ?aS ?aL ?_; (case aP => exact rfl); (case aB => exact (pb HB)); (case aF => exact (fun _ _ => trivial)); (case aO => exact (pr HO_5)); (case aS => exact (below_size (pb HB))); (case aL => have := LMc11.out; omega); intro v283 w12 ho hb hg hat; rw [← Ny282.out] at ho; have n0_ := am (blk_grown (g := gb274) (o := .cells #[.int .i64 0, .slice none 0 0] 25 (0, 0)) (pk BK274) hg (Kd.R_ne HO_5.out BK274.out (by decide))); have n1_ := am (hb); have n2_ := am (ho); clear BK274 HB HO_5; have BK274 := n0_; have HB := n1_; have HO284 := n2_; clear n0_ n1_ n2_ ho hb hg hat))
      go_roundg k1
      case measure => have := HK1.out; omega
      case rel => exact ⟨(y282), (wrap64 (x6_1 + 1)), (by first | rfl | (simp; done) | (simp [*]; done)), H', ⟨by have := HK1.out; omega⟩, ⟨by (with_reducible repeat (first | apply Kd.R_alloc | apply Kd.R_drewN | apply Kd.R_drew)); exact HO284.out⟩, ⟨by (with_reducible repeat (first | refine blk_drewN ?_ _ | refine blk_drew ?_ | refine blk_alloc ?_ _)); exact BK274.out⟩, ⟨pb HB⟩⟩
     ·
      rw [if_neg c11] at H
      exact absurd H (by simp)
   ·
    rw [if_neg c6] at H
    have c6b0 : decide (x6_1 < a0) = false := decide_eq_false c6
    clear c6
    replace H := Option.bind_eq_some_iff.mp H
    obtain ⟨⟨t285, t286⟩, A130, H⟩ := H
    replace H : (some (t285, t286)) = some (r1, r2) := H
    have A13 := Aside0.mk A130
    clear A130
    simp only [Option.some.injEq, Prod.mk.injEq] at H
    obtain ⟨rfl, rfl⟩ := H
    obtain ⟨Ao14, co14, eo14⟩ := Kd.R_slice HO_5.out
    subst eo14
    go_wp2_with (first | ((with_reducible refine gate_callee (f := 109) rfl ?_); refine goesL_ (some 22) rfl rfl Try.func109 (by kernel_rfl) rfl #[.slice Ao14 x5_1.length co14] rfl (by (try simp only [List.map_toArray, List.map_cons, List.map_nil]); first | done | rfl | (simp only [List.length_drop, List.length_take]; rfl)) ?_; (with_reducible refine (downpourref01_From.calls k1 _ _ x5_1 t285 t286 _ ?side1 ?side2 A13.out).mono ?_); (case side1 => repeat (first | exact (Kd.R_reads' HO_5.out).2.2 | (with_reducible refine Kd.C_alloc ?_ _) | (with_reducible refine Kd.C_drewN ?_ _) | (with_reducible refine Kd.C_drew ?_))); (case side2 => exact (Kd.R_reads' HO_5.out).2.1); rintro e w15 ⟨v287, rfl, ho0, hb⟩; refine ⟨_, rfl, ?_⟩; have n0_ := am (Kd.R_below (pr HO_5) hb); have n1_ := am (Kd.R_lower ho0 (below_size (pb HB))); have n2_ := bb BK274 hb; have n3_ := am (below_step (pb HB) hb); clear HO_5 BK274 HB; have HO_5 := n0_; have HO288 := n1_; have BK274 := n2_; have HB := n3_; clear n0_ n1_ n2_ n3_; (try clear hb); (try clear hb2); (try clear hk); (try clear hi); (try clear ho0); have hcz16_0 : w15.cell? ⟨gb274, 0, none⟩ = some (.int .i64 0) := (blk_cell BK274.out 0).trans rfl; have hcz16_1 : w15.cell? ⟨gb274, 1, none⟩ = some (.slice none 0 0) := (blk_cell BK274.out 1).trans rfl; have hfz16_0 := blk_frozen BK274.out 0; have hfz16_1 := blk_frozen BK274.out 1; obtain ⟨Ao17, co17, eo17⟩ := Kd.R_slice HO288.out; subst eo17))
    refine bodyPost_ret (results_cell_row rfl _ _ gb274 25 #[.int .i64 t285, .slice Ao17 t286.length co17] (0, 0) _ rfl (by (with_reducible repeat (first | refine blk_drewN ?_ _ | refine blk_drew ?_ | refine blk_alloc ?_ _)); refine blk_put (cs := #[.int .i64 t285, .slice none 0 0]) ?_ 1 _ rfl; (with_reducible repeat (first | refine blk_drewN ?_ _ | refine blk_drew ?_ | refine blk_alloc ?_ _)); refine blk_put (cs := #[.int .i64 0, .slice none 0 0]) ?_ 0 _ rfl; (with_reducible repeat (first | refine blk_drewN ?_ _ | refine blk_drew ?_ | refine blk_alloc ?_ _)); exact BK274.out) Try.underlying25 rfl (by kernel_rfl)) rfl ?_
    exact ⟨_, by first | rfl | (simp [errW_none, errW_some] <;> rfl) | (simp [*, errW_none, errW_some] <;> rfl), by (with_reducible repeat (first | apply Kd.R_alloc | apply Kd.R_drewN | apply Kd.R_drew)); exact Kd.R_mono (Kd.R_far (p := ⟨gb274, 1, none⟩) (Kd.R_far (p := ⟨gb274, 0, none⟩) (Kd.R_types HO288.out BK274.out (by decide)) (fun _ hk => hk.2) (.int .i64 t285)) (fun _ hk => hk.2) (.slice Ao17 t286.length co17)) (fun _ hk => trivial), pb HB⟩

end Go.Proofs.Ytfdcjkhckjnaeaa.PD
