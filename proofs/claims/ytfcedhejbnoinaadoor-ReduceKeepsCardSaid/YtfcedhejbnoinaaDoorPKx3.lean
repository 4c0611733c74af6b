-- PRINTED by print.py (a twelfth state) out of the translation. Not trusted: Lean checks it.
import Derived.Test.YtfcedhejbnoinaaDoorPKx0
import Derived.Test.YtfcedhejbnoinaaDoorPKx1
import Derived.Test.YtfcedhejbnoinaaDoorPKx2
namespace Go.Proofs.YtfcedhejbnoinaaDoor.PK
open Go.RowKit Go.Proofs.YtfcedhejbnoinaaDoorW.PrintWords Go.Proofs.YtfcedhejbnoinaaDoorW.PrintLast Go.Proofs.YtfcedhejbnoinaaDoorW.PrintMore
open Bool renaming true → T, false → F
open List renaming setIfInBounds_toArray → q1, set_cons_zero → q2, set_cons_succ → q3
attribute [local go_sem] run_store_func max2_int min2_int max_two min_two max_three min_three max_four min_four   -- for this text's walks alone
set_option linter.unusedVariables false
set_option linter.unusedSimpArgs false

/-! ### matrix_Right: function 71 -/
def matrix_Right.f (k : Nat) (a0_0 : Int) (l0_1 : List (S25)) : Option (Bool) := (matrix_sized.f a0_0).bind fun t124 => (if t124 = true then (if (l0_1.length : Int) ≤ 64 then ((api_Row_97_901007.f k l0_1 a0_0 l0_1).bind fun t125 => (some (!t125))) else (some false)) else (some false))
theorem matrix_Right.mono : ∀ a0 a1 k, LeO (matrix_Right.f k a0 a1) (matrix_Right.f (k + 1) a0 a1) := by
 intro a0 a1 k
 unfold matrix_Right.f
 repeat' first
   | (with_reducible exact api_Row_97_901007.mono _ _ _ _)
   | (with_reducible exact LeO.refl _)
   | (with_reducible exact LeO.none _)
   | (with_reducible refine LeO.ite ?_ ?_)
   | (with_reducible refine LeO.bind ?_ (fun _ => ?_))
   | exact api_Row_97_901007.mono _ _ _ _
   | exact LeO.none _
   | refine LeO.ite ?_ ?_
   | refine LeO.bind ?_ (fun _ => ?_)
set_option maxHeartbeats 8000000 in
set_option maxRecDepth 100000 in
theorem matrix_Right.calls (k : Nat) (a0_0 : Int) (A0_1 : Option Addr) (c0_1 : Nat) (l0_1 : List (S25)) (r : Bool) (w : World) (hr0_1 : Kd.C k25 w A0_1 l0_1.length l0_1) (hc0_1 : l0_1.length ≤ c0_1) (h : matrix_Right.f k a0_0 l0_1 = some r) :
  Calls Tryd.prog 71 #[.agg #[.int .i64 a0_0, .slice A0_1 l0_1.length c0_1]] w fun e w' => e = .returned (.bool r) ∧ Below w.heap.size w w' := by
 have hu55 := Tryd.underlying55
 have HR0_1 := Aside0.mk hr0_1
 have HC0_1 := Aside0.mk hc0_1
 clear hr0_1 hc0_1
 have HB := am (Below.refl w.heap.size w)
 have H : ((matrix_sized.f a0_0).bind fun t124 => (if t124 = true then (if (l0_1.length : Int) ≤ 64 then ((api_Row_97_901007.f k l0_1 a0_0 l0_1).bind fun t125 => (some (!t125))) else (some false)) else (some false))) = some r := h
 clear h
 replace H := Option.bind_eq_some_iff.mp H
 obtain ⟨t124, A20, H⟩ := H
 replace H : (if t124 = true then (if (l0_1.length : Int) ≤ 64 then ((api_Row_97_901007.f k l0_1 a0_0 l0_1).bind fun t125 => (some (!t125))) else (some false)) else (some false)) = some r := H
 have A2 := Aside0.mk A20
 clear A20
 by_cases c3 : t124 = true
 ·
  subst c3
  have H1 : (if (l0_1.length : Int) ≤ 64 then ((api_Row_97_901007.f k l0_1 a0_0 l0_1).bind fun t125 => (some (!t125))) else (some false)) = some r := by rw [if_pos rfl] at H; exact H
  clear H
  have H := H1
  clear H1
  by_cases c4 : (l0_1.length : Int) ≤ 64
  ·
   rw [if_pos c4] at H
   have c4b0 : decide ((l0_1.length : Int) ≤ 64) = true := decide_eq_true c4
   have c4b1 : decide (l0_1.length ≤ 64) = true := decide_eq_true (by omega)
   clear c4
   replace H := Option.bind_eq_some_iff.mp H
   obtain ⟨t125, A50, H⟩ := H
   replace H : (some (!t125)) = some r := H
   have A5 := Aside0.mk A50
   clear A50
   obtain rfl := Option.some.inj H
   go_enter Tryd.func71, Tryd.ntmps71
   go_wp2_with (first | ((with_reducible refine gate_dst (N := 1) rfl ?_); (try (refine gate_guard (by rfl) ?_; dsimp only)); refine box_event ?hg (N := 1) ?hd (cs := #[.int .i64 a0_0, .slice A0_1 l0_1.length c0_1]) (t := 55) ?hr ?_; (case hd => rfl); (case hg => rfl); (case hr => first | (go_simp; done) | (go_simp; rfl)); intro gb123 hg w6 hbox hb; have n0_ := am (below_step (pb HB) hb); have n1_ := am (hbox); have n2_ := am ((by rw [hg]; exact (below_size (pb HB)) : w.heap.size ≤ gb123)); have n3_ := am ((by rw [hg]; exact (below_size (pb HB)) : w.heap.size ≤ gb123)); clear HB; have HB := n0_; have BK123 := n1_; have GW123 := n2_; have GE123 := n3_; clear n0_ n1_ n2_ n3_ hb hbox hg; have hcz7_0 : w6.cell? ⟨gb123, 0, none⟩ = some (.int .i64 a0_0) := (blk_cell BK123.out 0).trans rfl; have hcz7_1 : w6.cell? ⟨gb123, 1, none⟩ = some (.slice A0_1 l0_1.length c0_1) := (blk_cell BK123.out 1).trans rfl; have hfz7_0 := blk_frozen BK123.out 0; have hfz7_1 := blk_frozen BK123.out 1) | ((with_reducible refine gate_callee (f := 80) rfl ?_); refine goesL_ (some 5) rfl rfl Tryd.func80 (by kernel_rfl) rfl #[.int .i64 a0_0] rfl (by (try simp only [List.map_toArray, List.map_cons, List.map_nil]); first | done | rfl | (simp only [List.length_drop, List.length_take]; rfl)) ?_; (with_reducible refine (matrix_sized.calls a0_0 true _ A2.out).mono ?_); rintro e w' ⟨rfl, ⟨nd, rfl⟩⟩; refine ⟨_, rfl, ?_⟩) | (go_at_call 96; (with_reducible refine (api_Row_97_901007.calls k _ _ l0_1  gb123 a0_0 A0_1 c0_1 l0_1 t125 _ ?side1 ?side2 ?side3 ?side4 ?side5 A5.out).mono ?_); (case side1 => repeat (first | exact (Kd.C_below HR0_1.out (pb HB)) | (with_reducible refine Kd.C_alloc ?_ _) | (with_reducible refine Kd.C_drewN ?_ _) | (with_reducible refine Kd.C_drew ?_))); (case side2 => exact HC0_1.out); (case side3 => (with_reducible repeat (first | refine blk_drewN ?_ _ | refine blk_drew ?_ | refine blk_alloc ?_ _)); exact BK123.out); (case side4 => repeat (first | exact (Kd.C_below HR0_1.out (pb HB)) | (with_reducible refine Kd.C_alloc ?_ _) | (with_reducible refine Kd.C_drewN ?_ _) | (with_reducible refine Kd.C_drew ?_))); (case side5 => exact HC0_1.out); rintro e w8 ⟨rfl, hb⟩; have n0_ := bb BK123 hb; have n1_ := am (below_step (pb HB) hb); clear BK123 HB; have BK123 := n0_; have HB := n1_; clear n0_ n1_; (try clear hb); (try clear hb2); (try clear hk); (try clear hi)))
   go_ret
   exact ⟨by first | rfl | (simp [errW_none, errW_some] <;> rfl) | (simp [*, errW_none, errW_some] <;> rfl), pb HB⟩
  ·
   rw [if_neg c4] at H
   have c4b0 : decide ((l0_1.length : Int) ≤ 64) = false := decide_eq_false c4
   have c4b1 : decide (l0_1.length ≤ 64) = false := decide_eq_false (by omega)
   clear c4
   obtain rfl := Option.some.inj H
   go_enter Tryd.func71, Tryd.ntmps71
   go_wp2_with (first | ((with_reducible refine gate_dst (N := 1) rfl ?_); (try (refine gate_guard (by rfl) ?_; dsimp only)); refine box_event ?hg (N := 1) ?hd (cs := #[.int .i64 a0_0, .slice A0_1 l0_1.length c0_1]) (t := 55) ?hr ?_; (case hd => rfl); (case hg => rfl); (case hr => first | (go_simp; done) | (go_simp; rfl)); intro gb123 hg w9 hbox hb; have n0_ := am (below_step (pb HB) hb); have n1_ := am (hbox); have n2_ := am ((by rw [hg]; exact (below_size (pb HB)) : w.heap.size ≤ gb123)); have n3_ := am ((by rw [hg]; exact (below_size (pb HB)) : w.heap.size ≤ gb123)); clear HB; have HB := n0_; have BK123 := n1_; have GW123 := n2_; have GE123 := n3_; clear n0_ n1_ n2_ n3_ hb hbox hg; have hcz10_0 : w9.cell? ⟨gb123, 0, none⟩ = some (.int .i64 a0_0) := (blk_cell BK123.out 0).trans rfl; have hcz10_1 : w9.cell? ⟨gb123, 1, none⟩ = some (.slice A0_1 l0_1.length c0_1) := (blk_cell BK123.out 1).trans rfl; have hfz10_0 := blk_frozen BK123.out 0; have hfz10_1 := blk_frozen BK123.out 1) | ((with_reducible refine gate_callee (f := 80) rfl ?_); refine goesL_ (some 5) rfl rfl Tryd.func80 (by kernel_rfl) rfl #[.int .i64 a0_0] rfl (by (try simp only [List.map_toArray, List.map_cons, List.map_nil]); first | done | rfl | (simp only [List.length_drop, List.length_take]; rfl)) ?_; (with_reducible refine (matrix_sized.calls a0_0 true _ A2.out).mono ?_); rintro e w' ⟨rfl, ⟨nd, rfl⟩⟩; refine ⟨_, rfl, ?_⟩))
   go_ret
   exact ⟨by first | rfl | (simp [errW_none, errW_some] <;> rfl) | (simp [*, errW_none, errW_some] <;> rfl), pb HB⟩
 ·
  replace c3 := Bool.eq_false_iff.mpr c3
  subst c3
  have H1 : (some false) = some r := by rw [if_neg (show ¬ (false = true) by decide)] at H; exact H
  clear H
  have H := H1
  clear H1
  obtain rfl := Option.some.inj H
  go_enter Tryd.func71, Tryd.ntmps71
  go_wp2_with (first | ((with_reducible refine gate_dst (N := 1) rfl ?_); (try (refine gate_guard (by rfl) ?_; dsimp only)); refine box_event ?hg (N := 1) ?hd (cs := #[.int .i64 a0_0, .slice A0_1 l0_1.length c0_1]) (t := 55) ?hr ?_; (case hd => rfl); (case hg => rfl); (case hr => first | (go_simp; done) | (go_simp; rfl)); intro gb123 hg w11 hbox hb; have n0_ := am (below_step (pb HB) hb); have n1_ := am (hbox); have n2_ := am ((by rw [hg]; exact (below_size (pb HB)) : w.heap.size ≤ gb123)); have n3_ := am ((by rw [hg]; exact (below_size (pb HB)) : w.heap.size ≤ gb123)); clear HB; have HB := n0_; have BK123 := n1_; have GW123 := n2_; have GE123 := n3_; clear n0_ n1_ n2_ n3_ hb hbox hg; have hcz12_0 : w11.cell? ⟨gb123, 0, none⟩ = some (.int .i64 a0_0) := (blk_cell BK123.out 0).trans rfl; have hcz12_1 : w11.cell? ⟨gb123, 1, none⟩ = some (.slice A0_1 l0_1.length c0_1) := (blk_cell BK123.out 1).trans rfl; have hfz12_0 := blk_frozen BK123.out 0; have hfz12_1 := blk_frozen BK123.out 1) | ((with_reducible refine gate_callee (f := 80) rfl ?_); refine goesL_ (some 5) rfl rfl Tryd.func80 (by kernel_rfl) rfl #[.int .i64 a0_0] rfl (by (try simp only [List.map_toArray, List.map_cons, List.map_nil]); first | done | rfl | (simp only [List.length_drop, List.length_take]; rfl)) ?_; (with_reducible refine (matrix_sized.calls a0_0 false _ A2.out).mono ?_); rintro e w' ⟨rfl, ⟨nd, rfl⟩⟩; refine ⟨_, rfl, ?_⟩))
  go_ret
  exact ⟨by first | rfl | (simp [errW_none, errW_some] <;> rfl) | (simp [*, errW_none, errW_some] <;> rfl), pb HB⟩

/-! ### matrix_numbers: function 78 -/
def matrix_numbers.l0 : Nat → List Int → Int → Int → Option (List Int)
 | 0, _, _, _ => none
 | k + 1, x3, x5, x6 => if x6 < x5 then (if x3.length < 17592186044416 then (matrix_numbers.l0 k (x3 ++ [x6]) x5 (wrap64 (x6 + 1))) else (none)) else (some x3)
def matrix_numbers.f (k : Nat) (a0 : Int) : Option (List Int) := matrix_numbers.l0 k ([] : List Int) a0 0
theorem matrix_numbers.mono_l : ∀ k, (∀ y0 y1 y2, LeO (matrix_numbers.l0 k y0 y1 y2) (matrix_numbers.l0 (k + 1) y0 y1 y2))
 | 0 => fun _ _ _ r h => by simp [matrix_numbers.l0] at h
 | k + 1 => by
  have ih0 := matrix_numbers.mono_l k
  ·
   intro y0 y1 y2
   unfold matrix_numbers.l0
   repeat' first
   | (with_reducible exact ih0 _ _ _)
   | (with_reducible exact LeO.refl _)
   | (with_reducible exact LeO.none _)
   | (with_reducible refine LeO.ite ?_ ?_)
   | (with_reducible refine LeO.bind ?_ (fun _ => ?_))
   | exact ih0 _ _ _
   | exact LeO.none _
   | refine LeO.ite ?_ ?_
   | refine LeO.bind ?_ (fun _ => ?_)
theorem matrix_numbers.mono : ∀ a0 k, LeO (matrix_numbers.f k a0) (matrix_numbers.f (k + 1) a0) := by
 intro a0 k
 have ih0 := matrix_numbers.mono_l k
 unfold matrix_numbers.f
 repeat' first
   | (with_reducible exact ih0 _ _ _)
   | (with_reducible exact LeO.refl _)
   | (with_reducible exact LeO.none _)
   | (with_reducible refine LeO.ite ?_ ?_)
   | (with_reducible refine LeO.bind ?_ (fun _ => ?_))
   | exact ih0 _ _ _
   | exact LeO.none _
   | refine LeO.ite ?_ ?_
   | refine LeO.bind ?_ (fun _ => ?_)
set_option maxHeartbeats 8000000 in
set_option maxRecDepth 100000 in
theorem matrix_numbers.calls (k : Nat) (a0 : Int) (r : List Int) (w : World) (h : matrix_numbers.f k a0 = some r) :
  Calls Tryd.prog 78 #[.int .i64 a0] w fun e w' => ∃ v0_ : Value, e = .returned (v0_) ∧ Kd.R (Kd.int .i64) 3 w' w.heap.size (fun _ => True) v0_ r ∧ Below w.heap.size w w' := by
 have HB := am (Below.refl w.heap.size w)
 have H : (matrix_numbers.l0 k ([] : List Int) a0 0) = some r := h
 clear h
 have H' := Aside0.mk H
 clear H
 go_enter Tryd.func78, Tryd.ntmps78
 go_wp2
 go_loopg [3, 6] k (fun kq v3 v6 w' => ∃ (x3_1 : List Int) (x6_1 : Int), v6 = .int .i64 x6_1 ∧ Aside0 (matrix_numbers.l0 kq x3_1 a0 x6_1 = some r) ∧ Aside0 (kq ≤ k) ∧ Aside0 (Kd.R (Kd.int .i64) 3 w' w.heap.size (fun _ => True) v3 x3_1) ∧ Aside0 (Below w.heap.size w w'))
 case atStart => exact ⟨(([] : List Int)), (0), (by first | rfl | (simp; done) | (simp [*]; done)), H', ⟨Nat.le_refl _⟩, ⟨by first | exact Kd.R_nil _ _ _ _ _ | exact Kd.N_nil _ _ _ _ _ | exact Kd.V_nil _ _ _ _ _ | exact Kd.Q_nil _ _ _ _ _ | exact Kd.S_nil _ _ _ _ _⟩, ⟨pb HB⟩⟩
 case round =>
  clear H'
  obtain ⟨x3_1, x6_1, rfl, HA, HK1, HO_3, HB⟩ := hrel
  cases gk with
  | zero => exact absurd HA.out (by simp [matrix_numbers.l0])
  | succ k1 =>
   have H := HA.out
   clear HA
   simp only [matrix_numbers.l0] at H
   by_cases c2 : x6_1 < a0
   ·
    rw [if_pos c2] at H
    have c2b0 : decide (x6_1 < a0) = true := decide_eq_true c2
    clear c2
    by_cases c3 : x3_1.length < 17592186044416
    ·
     rw [if_pos c3] at H
     have LMc3 := Aside0.mk c3
     clear c3
     obtain ⟨y126, hy126⟩ : ∃ y_ : List Int, y_ = (x3_1 ++ [x6_1]) := ⟨_, rfl⟩
     replace H : (matrix_numbers.l0 k1 y126 a0 (wrap64 (x6_1 + 1))) = some r := by first | (rw [hy126]; with_reducible exact H) | (have H2_ := (Option.bind_some _ _).symm.trans H; rw [hy126]; with_reducible exact H2_) | (have H2_ := (Option.bind_some _ _).symm.trans H; with_reducible exact H2_) | with_reducible exact H | (rw [hy126]; exact H) | exact H
     have Ny126 := Aside0.mk hy126
     clear hy126
     have H' := Aside0.mk H
     clear H
     go_wp2_with (first | ((with_reducible refine gate_builtin (b := .append) (xs := #[.tmp 9, .tmp 11]) rfl ?_); at_builtin; refine Kd.R_append (Kd.int .i64) (w0 := w) w.heap.size rfl (.tmp 9) (.tmp 11) 34 3 (.int .i64 0) 8 rfl Tryd.underlying34 info3 rfl (by decide) (by omega) u3 x3_1 x6_1 [.int .i64 x6_1] (fun _ => True) (fun _ => False) rfl rfl ?aP (fun _ hk => hk.elim) ?aF ?aO ?aB ?aS ?aL ?_; (case aP => exact rfl); (case aB => exact (pb HB)); (case aF => exact (fun _ _ => trivial)); (case aO => exact (pr HO_3)); (case aS => exact (below_size (pb HB))); (case aL => have := LMc3.out; omega); intro v127 w4 ho hb hg hat; rw [← Ny126.out] at ho; have n0_ := am (hb); have n1_ := am (ho); clear HB HO_3; have HB := n0_; have HO128 := n1_; clear n0_ n1_ ho hb hg hat))
     go_roundg k1
     case measure => have := HK1.out; omega
     case rel => exact ⟨(y126), (wrap64 (x6_1 + 1)), (by first | rfl | (simp; done) | (simp [*]; done)), H', ⟨by have := HK1.out; omega⟩, ⟨by (with_reducible repeat (first | apply Kd.R_alloc | apply Kd.R_drewN | apply Kd.R_drew)); exact HO128.out⟩, ⟨pb HB⟩⟩
    ·
     rw [if_neg c3] at H
     exact absurd H (by simp)
   ·
    rw [if_neg c2] at H
    have c2b0 : decide (x6_1 < a0) = false := decide_eq_false c2
    clear c2
    obtain rfl := Option.some.inj H
    go_wp2
    go_ret
    exact ⟨_, by first | rfl | (simp [errW_none, errW_some] <;> rfl) | (simp [*, errW_none, errW_some] <;> rfl), by (with_reducible repeat (first | apply Kd.R_alloc | apply Kd.R_drewN | apply Kd.R_drew)); exact HO_3.out, pb HB⟩

/-! ### bitrow_Get: function 22 -/
def bitrow_Get.f (a0_0 : Int) (l0_1 : List Int) (a1 : Int) : Option (Int × Int) := (bitrow_Right.f a0_0 l0_1).bind fun t130 => (if t130 = true then (if a1 < 0 then (some (0, 3)) else (if a1 ≥ a0_0 then (some (0, 3)) else (if 0 ≤ (wrap64 (Int.tdiv a1 64)) then (if (wrap64 (Int.tdiv a1 64)) < (l0_1.length : Int) then (if 0 ≤ (Int.tmod a1 64) then (some (wrap64 (Go.bits .and .u64 (shr .u64 (rd l0_1 (wrap64 (Int.tdiv a1 64))) (Int.tmod a1 64)) 1), 0)) else (none)) else (none)) else (none)))) else (some (0, 1)))
set_option maxHeartbeats 8000000 in
set_option maxRecDepth 100000 in
theorem bitrow_Get.calls (a0_0 : Int) (A0_1 : Option Addr) (c0_1 : Nat) (l0_1 : List Int) (a1 : Int) (r1 : Int) (r2 : Int) (w : World) (hr0_1 : Kd.C (Kd.int .u64) w A0_1 l0_1.length l0_1) (hc0_1 : l0_1.length ≤ c0_1) (h : bitrow_Get.f a0_0 l0_1 a1 = some (r1, r2)) :
  Calls Tryd.prog 22 #[.agg #[.int .i64 a0_0, .slice A0_1 l0_1.length c0_1], .int .i64 a1] w fun e w' => e = .returned (.tuple #[.int .i64 r1, .int .i64 r2]) ∧ Below w.heap.size w w' := by
 have hu25 := Tryd.underlying25
 have HR0_1 := Aside0.mk hr0_1
 have HC0_1 := Aside0.mk hc0_1
 clear hr0_1 hc0_1
 have HB := am (Below.refl w.heap.size w)
 have H : ((bitrow_Right.f a0_0 l0_1).bind fun t130 => (if t130 = true then (if a1 < 0 then (some (0, 3)) else (if a1 ≥ a0_0 then (some (0, 3)) else (if 0 ≤ (wrap64 (Int.tdiv a1 64)) then (if (wrap64 (Int.tdiv a1 64)) < (l0_1.length : Int) then (if 0 ≤ (Int.tmod a1 64) then (some (wrap64 (Go.bits .and .u64 (shr .u64 (rd l0_1 (wrap64 (Int.tdiv a1 64))) (Int.tmod a1 64)) 1), 0)) else (none)) else (none)) else (none)))) else (some (0, 1)))) = some (r1, r2) := h
 clear h
 replace H := Option.bind_eq_some_iff.mp H
 obtain ⟨t130, A30, H⟩ := H
 replace H : (if t130 = true then (if a1 < 0 then (some (0, 3)) else (if a1 ≥ a0_0 then (some (0, 3)) else (if 0 ≤ (wrap64 (Int.tdiv a1 64)) then (if (wrap64 (Int.tdiv a1 64)) < (l0_1.length : Int) then (if 0 ≤ (Int.tmod a1 64) then (some (wrap64 (Go.bits .and .u64 (shr .u64 (rd l0_1 (wrap64 (Int.tdiv a1 64))) (Int.tmod a1 64)) 1), 0)) else (none)) else (none)) else (none)))) else (some (0, 1))) = some (r1, r2) := H
 have A3 := Aside0.mk A30
 clear A30
 by_cases c4 : t130 = true
 ·
  subst c4
  have H1 : (if a1 < 0 then (some (0, 3)) else (if a1 ≥ a0_0 then (some (0, 3)) else (if 0 ≤ (wrap64 (Int.tdiv a1 64)) then (if (wrap64 (Int.tdiv a1 64)) < (l0_1.length : Int) then (if 0 ≤ (Int.tmod a1 64) then (some (wrap64 (Go.bits .and .u64 (shr .u64 (rd l0_1 (wrap64 (Int.tdiv a1 64))) (Int.tmod a1 64)) 1), 0)) else (none)) else (none)) else (none)))) = some (r1, r2) := by rw [if_pos rfl] at H; exact H
  clear H
  have H := H1
  clear H1
  by_cases c5 : a1 < 0
  ·
   rw [if_pos c5] at H
   have c5b0 : decide (a1 < 0) = true := decide_eq_true c5
   clear c5
   simp only [Option.some.injEq, Prod.mk.injEq] at H
   obtain ⟨rfl, rfl⟩ := H
   go_enter Tryd.func22, Tryd.ntmps22
   go_wp2_with (first | ((with_reducible refine gate_dst (N := 2) rfl ?_); refine box_event ?hg (N := 2) ?hd (cs := #[.int .i64 a0_0, .slice A0_1 l0_1.length c0_1]) (t := 25) ?hr ?_; (case hd => rfl); (case hg => rfl); (case hr => first | (go_simp; done) | (go_simp; rfl)); intro gb129 hg w6 hbox hb; have n0_ := am (below_step (pb HB) hb); have n1_ := am (hbox); have n2_ := am ((by rw [hg]; exact (below_size (pb HB)) : w.heap.size ≤ gb129)); have n3_ := am ((by rw [hg]; exact (below_size (pb HB)) : w.heap.size ≤ gb129)); clear HB; have HB := n0_; have BK129 := n1_; have GW129 := n2_; have GE129 := n3_; clear n0_ n1_ n2_ n3_ hb hbox hg; have hcz7_0 : w6.cell? ⟨gb129, 0, none⟩ = some (.int .i64 a0_0) := (blk_cell BK129.out 0).trans rfl; have hcz7_1 : w6.cell? ⟨gb129, 1, none⟩ = some (.slice A0_1 l0_1.length c0_1) := (blk_cell BK129.out 1).trans rfl; have hfz7_0 := blk_frozen BK129.out 0; have hfz7_1 := blk_frozen BK129.out 1) | ((with_reducible refine gate_callee (f := 31) rfl ?_); refine goesL_ (some 8) rfl rfl Tryd.func31 (by kernel_rfl) rfl #[.agg #[.int .i64 a0_0, .slice A0_1 l0_1.length c0_1]] rfl (by (try simp only [List.map_toArray, List.map_cons, List.map_nil]); first | done | rfl | (simp only [List.length_drop, List.length_take]; rfl)) ?_; (with_reducible refine (bitrow_Right.calls a0_0 _ _ l0_1 true _ ?side1 ?side2 A3.out).mono ?_); (case side1 => repeat (first | exact (Kd.C_below HR0_1.out HB.out) | (with_reducible refine Kd.C_alloc ?_ _) | (with_reducible refine Kd.C_drewN ?_ _) | (with_reducible refine Kd.C_drew ?_))); (case side2 => exact HC0_1.out); rintro e w8 ⟨rfl, hb⟩; refine ⟨_, rfl, ?_⟩; have n0_ := bb BK129 hb; have n1_ := am (below_step (pb HB) hb); clear BK129 HB; have BK129 := n0_; have HB := n1_; clear n0_ n1_; (try clear hb); (try clear hb2); (try clear hk); (try clear hi)))
   go_ret2
   exact ⟨by first | rfl | (simp [errW_none, errW_some] <;> rfl) | (simp [*, errW_none, errW_some] <;> rfl), pb HB⟩
  ·
   rw [if_neg c5] at H
   have c5b0 : decide (a1 < 0) = false := decide_eq_false c5
   clear c5
   by_cases c9 : a1 ≥ a0_0
   ·
    rw [if_pos c9] at H
    have c9b0 : decide (a0_0 ≤ a1) = true := decide_eq_true c9
    clear c9
    simp only [Option.some.injEq, Prod.mk.injEq] at H
    obtain ⟨rfl, rfl⟩ := H
    go_enter Tryd.func22, Tryd.ntmps22
    go_wp2_with (first | ((with_reducible refine gate_dst (N := 2) rfl ?_); refine box_event ?hg (N := 2) ?hd (cs := #[.int .i64 a0_0, .slice A0_1 l0_1.length c0_1]) (t := 25) ?hr ?_; (case hd => rfl); (case hg => rfl); (case hr => first | (go_simp; done) | (go_simp; rfl)); intro gb129 hg w10 hbox hb; have n0_ := am (below_step (pb HB) hb); have n1_ := am (hbox); have n2_ := am ((by rw [hg]; exact (below_size (pb HB)) : w.heap.size ≤ gb129)); have n3_ := am ((by rw [hg]; exact (below_size (pb HB)) : w.heap.size ≤ gb129)); clear HB; have HB := n0_; have BK129 := n1_; have GW129 := n2_; have GE129 := n3_; clear n0_ n1_ n2_ n3_ hb hbox hg; have hcz11_0 : w10.cell? ⟨gb129, 0, none⟩ = some (.int .i64 a0_0) := (blk_cell BK129.out 0).trans rfl; have hcz11_1 : w10.cell? ⟨gb129, 1, none⟩ = some (.slice A0_1 l0_1.length c0_1) := (blk_cell BK129.out 1).trans rfl; have hfz11_0 := blk_frozen BK129.out 0; have hfz11_1 := blk_frozen BK129.out 1) | ((with_reducible refine gate_callee (f := 31) rfl ?_); refine goesL_ (some 8) rfl rfl Tryd.func31 (by kernel_rfl) rfl #[.agg #[.int .i64 a0_0, .slice A0_1 l0_1.length c0_1]] rfl (by (try simp only [List.map_toArray, List.map_cons, List.map_nil]); first | done | rfl | (simp only [List.length_drop, List.length_take]; rfl)) ?_; (with_reducible refine (bitrow_Right.calls a0_0 _ _ l0_1 true _ ?side1 ?side2 A3.out).mono ?_); (case side1 => repeat (first | exact (Kd.C_below HR0_1.out HB.out) | (with_reducible refine Kd.C_alloc ?_ _) | (with_reducible refine Kd.C_drewN ?_ _) | (with_reducible refine Kd.C_drew ?_))); (case side2 => exact HC0_1.out); rintro e w12 ⟨rfl, hb⟩; refine ⟨_, rfl, ?_⟩; have n0_ := bb BK129 hb; have n1_ := am (below_step (pb HB) hb); clear BK129 HB; have BK129 := n0_; have HB := n1_; clear n0_ n1_; (try clear hb); (try clear hb2); (try clear hk); (try clear hi); have hcz13_0 : w12.cell? ⟨gb129, 0, none⟩ = some (.int .i64 a0_0) := (blk_cell BK129.out 0).trans rfl; have hcz13_1 : w12.cell? ⟨gb129, 1, none⟩ = some (.slice A0_1 l0_1.length c0_1) := (blk_cell BK129.out 1).trans rfl; have hfz13_0 := blk_frozen BK129.out 0; have hfz13_1 := blk_frozen BK129.out 1))
    go_ret2
    exact ⟨by first | rfl | (simp [errW_none, errW_some] <;> rfl) | (simp [*, errW_none, errW_some] <;> rfl), pb HB⟩
   ·
    rw [if_neg c9] at H
    have c9b0 : decide (a0_0 ≤ a1) = false := decide_eq_false c9
    clear c9
    obtain ⟨ji14, hji14⟩ : ∃ j_ : Int, (wrap64 (Int.tdiv a1 64)) = j_ := ⟨_, rfl⟩
    replace H : (if 0 ≤ (ji14) then (if (ji14) < (l0_1.length : Int) then (if 0 ≤ (Int.tmod a1 64) then (some (wrap64 (Go.bits .and .u64 (shr .u64 (rd l0_1 (ji14)) (Int.tmod a1 64)) 1), 0)) else (none)) else (none)) else (none)) = some (r1, r2) := by first | (rw [hji14] at H; exact H) | (simp only [hji14] at H ⊢; exact H)
    (try rw [hji14] at A3)
    have hji14w : (IntKind.i64.wrap (Int.tdiv a1 64)) = ji14 := (i64_w _).trans hji14
    by_cases c15 : 0 ≤ (ji14)
    ·
     rw [if_pos c15] at H
     have c15b0 : decide (0 ≤ (ji14)) = true := decide_eq_true c15
     clear c15
     by_cases c16 : (ji14) < (l0_1.length : Int)
     ·
      rw [if_pos c16] at H
      have c16b0 : decide ((ji14) < (l0_1.length : Int)) = true := decide_eq_true c16
      clear c16
      obtain ⟨ji17, hji17⟩ : ∃ j_ : Int, (Int.tmod a1 64) = j_ := ⟨_, rfl⟩
      replace H : (if 0 ≤ (ji17) then (some (wrap64 (Go.bits .and .u64 (shr .u64 (rd l0_1 (ji14)) (ji17)) 1), 0)) else (none)) = some (r1, r2) := by first | (rw [hji17] at H; exact H) | (simp only [hji17] at H ⊢; exact H)
      (try rw [hji17] at A3)
      by_cases c18 : 0 ≤ (ji17)
      ·
       rw [if_pos c18] at H
       have c18b0 := eq_true c18
       have c18b1 : decide (0 ≤ (ji17)) = true := decide_eq_true c18
       clear c18
       obtain ⟨ji19, hji19⟩ : ∃ j_ : Int, (shr .u64 (rd l0_1 (ji14)) (ji17)) = j_ := ⟨_, rfl⟩
       replace H : (some (wrap64 (Go.bits .and .u64 (ji19) 1), 0)) = some (r1, r2) := by first | (rw [hji19] at H; exact H) | (simp only [hji19] at H ⊢; exact H)
       (try rw [hji19] at A3)
       have hji19_ : ((rd l0_1 (ji14)) / 2 ^ min (ji17).toNat 64) = ji19 := hji19
       have hji19z : (ji17) ≤ 64 → ((rd l0_1 (ji14)) / 2 ^ (ji17).toNat) = ji19 := shr_small hji19
       simp only [Option.some.injEq, Prod.mk.injEq] at H
       obtain ⟨rfl, rfl⟩ := H
       go_enter Tryd.func22, Tryd.ntmps22
       go_wp2_with (first | ((with_reducible refine gate_dst (N := 2) rfl ?_); refine box_event ?hg (N := 2) ?hd (cs := #[.int .i64 a0_0, .slice A0_1 l0_1.length c0_1]) (t := 25) ?hr ?_; (case hd => rfl); (case hg => rfl); (case hr => first | (go_simp; done) | (go_simp; rfl)); intro gb129 hg w20 hbox hb; have n0_ := am (below_step (pb HB) hb); have n1_ := am (hbox); have n2_ := am ((by rw [hg]; exact (below_size (pb HB)) : w.heap.size ≤ gb129)); have n3_ := am ((by rw [hg]; exact (below_size (pb HB)) : w.heap.size ≤ gb129)); clear HB; have HB := n0_; have BK129 := n1_; have GW129 := n2_; have GE129 := n3_; clear n0_ n1_ n2_ n3_ hb hbox hg; have hcz21_0 : w20.cell? ⟨gb129, 0, none⟩ = some (.int .i64 a0_0) := (blk_cell BK129.out 0).trans rfl; have hcz21_1 : w20.cell? ⟨gb129, 1, none⟩ = some (.slice A0_1 l0_1.length c0_1) := (blk_cell BK129.out 1).trans rfl; have hfz21_0 := blk_frozen BK129.out 0; have hfz21_1 := blk_frozen BK129.out 1) | ((with_reducible refine gate_callee (f := 31) rfl ?_); refine goesL_ (some 8) rfl rfl Tryd.func31 (by kernel_rfl) rfl #[.agg #[.int .i64 a0_0, .slice A0_1 l0_1.length c0_1]] rfl (by (try simp only [List.map_toArray, List.map_cons, List.map_nil]); first | done | rfl | (simp only [List.length_drop, List.length_take]; rfl)) ?_; (with_reducible refine (bitrow_Right.calls a0_0 _ _ l0_1 true _ ?side1 ?side2 A3.out).mono ?_); (case side1 => repeat (first | exact (Kd.C_below HR0_1.out HB.out) | (with_reducible refine Kd.C_alloc ?_ _) | (with_reducible refine Kd.C_drewN ?_ _) | (with_reducible refine Kd.C_drew ?_))); (case side2 => exact HC0_1.out); rintro e w22 ⟨rfl, hb⟩; refine ⟨_, rfl, ?_⟩; have n0_ := bb BK129 hb; have n1_ := am (below_step (pb HB) hb); clear BK129 HB; have BK129 := n0_; have HB := n1_; clear n0_ n1_; (try clear hb); (try clear hb2); (try clear hk); (try clear hi); have hcz23_0 : w22.cell? ⟨gb129, 0, none⟩ = some (.int .i64 a0_0) := (blk_cell BK129.out 0).trans rfl; have hcz23_1 : w22.cell? ⟨gb129, 1, none⟩ = some (.slice A0_1 l0_1.length c0_1) := (blk_cell BK129.out 1).trans rfl; have hfz23_0 := blk_frozen BK129.out 0; have hfz23_1 := blk_frozen BK129.out 1; have p131 : 0 ≤ ((ji14) : Int) := of_decide_eq_true (by first | (with_reducible assumption) | assumption); have q131 : (ji14) < (l0_1.length : Int) := of_decide_eq_true (by first | (with_reducible assumption) | assumption); obtain ⟨ad131, e131, hx131_0⟩ := Kd.at_int HR0_1.out (ji14) p131 q131; cases e131; replace hx131_0 := (HB.out.cell (World.block_lt_of_cell? w _ hx131_0)).trans hx131_0; replace p131 := eq_true p131; replace q131 := eq_true q131))
       go_ret2
       exact ⟨by first | rfl | (simp [errW_none, errW_some] <;> rfl) | (simp only [← hji14, ← hji17, ← hji19]; first | rfl | (simp [errW_none, errW_some] <;> rfl)) | (simp [*, errW_none, errW_some] <;> rfl), pb HB⟩
      ·
       rw [if_neg c18] at H
       exact absurd H (by simp)
     ·
      rw [if_neg c16] at H
      exact absurd H (by simp)
    ·
     rw [if_neg c15] at H
     exact absurd H (by simp)
 ·
  replace c4 := Bool.eq_false_iff.mpr c4
  subst c4
  have H1 : (some (0, 1)) = some (r1, r2) := by rw [if_neg (show ¬ (false = true) by decide)] at H; exact H
  clear H
  have H := H1
  clear H1
  simp only [Option.some.injEq, Prod.mk.injEq] at H
  obtain ⟨rfl, rfl⟩ := H
  go_enter Tryd.func22, Tryd.ntmps22
  go_wp2_with (first | ((with_reducible refine gate_dst (N := 2) rfl ?_); refine box_event ?hg (N := 2) ?hd (cs := #[.int .i64 a0_0, .slice A0_1 l0_1.length c0_1]) (t := 25) ?hr ?_; (case hd => rfl); (case hg => rfl); (case hr => first | (go_simp; done) | (go_simp; rfl)); intro gb129 hg w24 hbox hb; have n0_ := am (below_step (pb HB) hb); have n1_ := am (hbox); have n2_ := am ((by rw [hg]; exact (below_size (pb HB)) : w.heap.size ≤ gb129)); have n3_ := am ((by rw [hg]; exact (below_size (pb HB)) : w.heap.size ≤ gb129)); clear HB; have HB := n0_; have BK129 := n1_; have GW129 := n2_; have GE129 := n3_; clear n0_ n1_ n2_ n3_ hb hbox hg; have hcz25_0 : w24.cell? ⟨gb129, 0, none⟩ = some (.int .i64 a0_0) := (blk_cell BK129.out 0).trans rfl; have hcz25_1 : w24.cell? ⟨gb129, 1, none⟩ = some (.slice A0_1 l0_1.length c0_1) := (blk_cell BK129.out 1).trans rfl; have hfz25_0 := blk_frozen BK129.out 0; have hfz25_1 := blk_frozen BK129.out 1) | ((with_reducible refine gate_callee (f := 31) rfl ?_); refine goesL_ (some 8) rfl rfl Tryd.func31 (by kernel_rfl) rfl #[.agg #[.int .i64 a0_0, .slice A0_1 l0_1.length c0_1]] rfl (by (try simp only [List.map_toArray, List.map_cons, List.map_nil]); first | done | rfl | (simp only [List.length_drop, List.length_take]; rfl)) ?_; (with_reducible refine (bitrow_Right.calls a0_0 _ _ l0_1 false _ ?side1 ?side2 A3.out).mono ?_); (case side1 => repeat (first | exact (Kd.C_below HR0_1.out HB.out) | (with_reducible refine Kd.C_alloc ?_ _) | (with_reducible refine Kd.C_drewN ?_ _) | (with_reducible refine Kd.C_drew ?_))); (case side2 => exact HC0_1.out); rintro e w26 ⟨rfl, hb⟩; refine ⟨_, rfl, ?_⟩; have n0_ := bb BK129 hb; have n1_ := am (below_step (pb HB) hb); clear BK129 HB; have BK129 := n0_; have HB := n1_; clear n0_ n1_; (try clear hb); (try clear hb2); (try clear hk); (try clear hi)))
  go_ret2
  exact ⟨by first | rfl | (simp [errW_none, errW_some] <;> rfl) | (simp [*, errW_none, errW_some] <;> rfl), pb HB⟩

/-! ### bitrow_fresh: function 67 -/
def bitrow_fresh.f (a0 : Int) : Option (Int × List Int) := if 0 ≤ (wrap64 (Int.tdiv (wrap64 ((wrap64 (a0 + 64)) - 1)) 64)) then (if (wrap64 (Int.tdiv (wrap64 ((wrap64 (a0 + 64)) - 1)) 64) : Int).toNat ≤ 35184372088832 then (some (a0, (List.replicate (wrap64 (Int.tdiv (wrap64 ((wrap64 (a0 + 64)) - 1)) 64) : Int).toNat 0))) else (none)) else (none)
set_option maxHeartbeats 8000000 in
set_option maxRecDepth 100000 in
theorem bitrow_fresh.calls (a0 : Int) (r1 : Int) (r2 : List Int) (w : World) (h : bitrow_fresh.f a0 = some (r1, r2)) :
  Calls Tryd.prog 67 #[.int .i64 a0] w fun e w' => ∃ v1_ : Value, e = .returned (.agg #[.int .i64 r1, v1_]) ∧ Kd.R (Kd.int .u64) 90 w' w.heap.size (fun _ => True) v1_ r2 ∧ Below w.heap.size w w' := by
 have hu25 := Tryd.underlying25
 have HB := am (Below.refl w.heap.size w)
 have H : (if 0 ≤ (wrap64 (Int.tdiv (wrap64 ((wrap64 (a0 + 64)) - 1)) 64)) then (if (wrap64 (Int.tdiv (wrap64 ((wrap64 (a0 + 64)) - 1)) 64) : Int).toNat ≤ 35184372088832 then (some (a0, (List.replicate (wrap64 (Int.tdiv (wrap64 ((wrap64 (a0 + 64)) - 1)) 64) : Int).toNat 0))) else (none)) else (none)) = some (r1, r2) := h
 clear h
 obtain ⟨ji2, hji2⟩ : ∃ j_ : Int, (wrap64 (Int.tdiv (wrap64 ((wrap64 (a0 + 64)) - 1)) 64)) = j_ := ⟨_, rfl⟩
 replace H : (if 0 ≤ (ji2) then (if (ji2 : Int).toNat ≤ 35184372088832 then (some (a0, (List.replicate (ji2 : Int).toNat 0))) else (none)) else (none)) = some (r1, r2) := by first | (rw [hji2] at H; exact H) | (simp only [hji2] at H ⊢; exact H)
 have hji2w : (IntKind.i64.wrap (Int.tdiv (wrap64 ((wrap64 (a0 + 64)) - 1)) 64)) = ji2 := (i64_w _).trans hji2
 by_cases c3 : 0 ≤ (ji2)
 ·
  rw [if_pos c3] at H
  have c3b0 := eq_true c3
  have c3b1 : decide (0 ≤ (ji2)) = true := decide_eq_true c3
  clear c3
  by_cases c4 : (ji2 : Int).toNat ≤ 35184372088832
  ·
   rw [if_pos c4] at H
   have c4b0 := eq_true c4
   have c4b1 : decide ((ji2 : Int).toNat ≤ 35184372088832) = true := decide_eq_true c4
   clear c4
   obtain ⟨y133, hy133⟩ : ∃ y_ : List Int, y_ = (List.replicate (ji2 : Int).toNat 0) := ⟨_, rfl⟩
   replace H : (some (a0, y133)) = some (r1, r2) := by first | (rw [hy133]; with_reducible exact H) | (have H2_ := (Option.bind_some _ _).symm.trans H; rw [hy133]; with_reducible exact H2_) | (have H2_ := (Option.bind_some _ _).symm.trans H; with_reducible exact H2_) | with_reducible exact H | (rw [hy133]; exact H) | exact H
   have Ny133 := Aside0.mk hy133
   clear hy133
   simp only [Option.some.injEq, Prod.mk.injEq] at H
   obtain ⟨rfl, rfl⟩ := H
   go_enter Tryd.func67, Tryd.ntmps67
   go_wp2_with (first | ((with_reducible refine gate_dst (N := 2) rfl ?_); refine box_event ?hg (N := 2) ?hd (cs := #[.int .i64 0, .slice none 0 0]) (t := 25) ?hr ?_; (case hd => rfl); (case hg => rfl); (case hr => first | (go_simp; done) | (go_simp; rfl)); intro gb132 hg w5 hbox hb; have n0_ := am (below_step (pb HB) hb); have n1_ := am (hbox); have n2_ := am ((by rw [hg]; exact (below_size (pb HB)) : w.heap.size ≤ gb132)); have n3_ := am ((by rw [hg]; exact (below_size (pb HB)) : w.heap.size ≤ gb132)); clear HB; have HB := n0_; have BK132 := n1_; have GW132 := n2_; have GE132 := n3_; clear n0_ n1_ n2_ n3_ hb hbox hg) | ((with_reducible refine gate_dst (N := 8) rfl ?_); refine Kd.R_make (Kd.int .u64) _ 90 rfl (N := 8) rfl 23 _ _ rfl ji2 rfl rfl Tryd.underlying23 (.int .u64 0) 8 info90 rfl (by decide) (by omega) 0 (ok := fun _ => True) (okp := fun _ => True) rfl (fun _ hk => hk) trivial (of_decide_eq_true (by first | (with_reducible assumption) | assumption)) (Nat.le_trans (Nat.mul_le_mul_right _ (of_decide_eq_true (by first | (with_reducible assumption) | assumption) : ji2.toNat ≤ 35184372088832)) (by omega)) (Below.refl _ _) (Nat.le_refl _) ?_; intro v134 w6 ho7 hb hg_ hnew_; clear hg_ hnew_; (first | rw [← Ny133.out] at ho7 | (simp only [Int.reduceToNat] at ho7; rw [← Ny133.out] at ho7)); have n0_ := am (Kd.R_lower ho7 (below_size (pb HB))); have n1_ := bb BK132 hb; have n2_ := am (below_step (pb HB) hb); clear BK132 HB; have HO135 := n0_; have BK132 := n1_; have HB := n2_; clear n0_ n1_ n2_ hb ho7; obtain ⟨Ao8, co8, eo8⟩ := Kd.R_slice HO135.out; subst eo8; have hcz9_0 : w6.cell? ⟨gb132, 0, none⟩ = some (.int .i64 0) := (blk_cell BK132.out 0).trans rfl; have hcz9_1 : w6.cell? ⟨gb132, 1, none⟩ = some (.slice none 0 0) := (blk_cell BK132.out 1).trans rfl; have hfz9_0 := blk_frozen BK132.out 0; have hfz9_1 := blk_frozen BK132.out 1))
   refine bodyPost_ret (results_cell_row rfl _ _ gb132 25 #[.int .i64 a0, .slice Ao8 y133.length co8] (0, 0) _ rfl (by (with_reducible repeat (first | refine blk_drewN ?_ _ | refine blk_drew ?_ | refine blk_alloc ?_ _)); refine blk_put (cs := #[.int .i64 a0, .slice none 0 0]) ?_ 1 _ rfl; (with_reducible repeat (first | refine blk_drewN ?_ _ | refine blk_drew ?_ | refine blk_alloc ?_ _)); refine blk_put (cs := #[.int .i64 0, .slice none 0 0]) ?_ 0 _ rfl; (with_reducible repeat (first | refine blk_drewN ?_ _ | refine blk_drew ?_ | refine blk_alloc ?_ _)); exact BK132.out) Tryd.underlying25 rfl (by kernel_rfl)) rfl ?_
   exact ⟨_, by first | rfl | (simp [errW_none, errW_some] <;> rfl) | (simp only [← hji2]; first | rfl | (simp [errW_none, errW_some] <;> rfl)) | (simp [*, errW_none, errW_some] <;> rfl), by (with_reducible repeat (first | apply Kd.R_alloc | apply Kd.R_drewN | apply Kd.R_drew)); exact Kd.R_mono (Kd.R_far (p := ⟨gb132, 1, none⟩) (Kd.R_far (p := ⟨gb132, 0, none⟩) (Kd.R_types HO135.out BK132.out (by decide)) (fun _ hk => hk.2) (.int .i64 a0)) (fun _ hk => hk.2) (.slice Ao8 y133.length co8)) (fun _ hk => trivial), pb HB⟩
  ·
   rw [if_neg c4] at H
   exact absurd H (by simp)
 ·
  rw [if_neg c3] at H
  exact absurd H (by simp)

/-! ### bitrow_Of: function 27 -/
def bitrow_Of.l0 : Nat → Int → List Int → Int → Int → Int → List Int → Option (Int × List Int × Int)
 | 0, _, _, _, _, _, _ => none
 | k + 1, x0, x15, x16, x17, x143000, x143001 => if x17 < x16 then (if 0 ≤ x17 then (if x17 < (x15.length : Int) then (if (rd x15 x17) < 0 then (some (0, ([] : List Int), 3)) else (if (rd x15 x17) ≥ x0 then (some (0, ([] : List Int), 3)) else (if 0 ≤ (wrap64 (Int.tdiv (rd x15 x17) 64)) then (if (wrap64 (Int.tdiv (rd x15 x17) 64)) < (x143001.length : Int) then (if 0 ≤ (Int.tmod (rd x15 x17) 64) then (bitrow_Of.l0 k x0 x15 x16 (wrap64 (x17 + 1)) x143000 (x143001.set ((wrap64 (Int.tdiv (rd x15 x17) 64)) : Int).toNat (Go.bits .or .u64 (rd x143001 (wrap64 (Int.tdiv (rd x15 x17) 64))) (shl .u64 1 (Int.tmod (rd x15 x17) 64))))) else (none)) else (none)) else (none)))) else (none)) else (none)) else (some (x143000, x143001, 0))
def bitrow_Of.f (k : Nat) (a0 : Int) (l1 : List Int) : Option (Int × List Int × Int) := (bitrow_sized.f a0).bind fun t137 => (if t137 = true then ((bitrow_fresh.f a0).bind fun bt138 => (bitrow_Of.l0 k a0 l1 (l1.length : Int) 0 bt138.1 bt138.2)) else (some (0, ([] : List Int), 2)))
theorem bitrow_Of.mono_l : ∀ k, (∀ y0 y1 y2 y3 y4 y5, LeO (bitrow_Of.l0 k y0 y1 y2 y3 y4 y5) (bitrow_Of.l0 (k + 1) y0 y1 y2 y3 y4 y5))
 | 0 => fun _ _ _ _ _ _ r h => by simp [bitrow_Of.l0] at h
 | k + 1 => by
  have ih0 := bitrow_Of.mono_l k
  ·
   intro y0 y1 y2 y3 y4 y5
   unfold bitrow_Of.l0
   repeat' first
   | (with_reducible exact ih0 _ _ _ _ _ _)
   | (with_reducible exact LeO.refl _)
   | (with_reducible exact LeO.none _)
   | (with_reducible refine LeO.ite ?_ ?_)
   | (with_reducible refine LeO.bind ?_ (fun _ => ?_))
   | exact ih0 _ _ _ _ _ _
   | exact LeO.none _
   | refine LeO.ite ?_ ?_
   | refine LeO.bind ?_ (fun _ => ?_)
theorem bitrow_Of.mono : ∀ a0 a1 k, LeO (bitrow_Of.f k a0 a1) (bitrow_Of.f (k + 1) a0 a1) := by
 intro a0 a1 k
 have ih0 := bitrow_Of.mono_l k
 unfold bitrow_Of.f
 repeat' first
   | (with_reducible exact ih0 _ _ _ _ _ _)
   | (with_reducible exact LeO.refl _)
   | (with_reducible exact LeO.none _)
   | (with_reducible refine LeO.ite ?_ ?_)
   | (with_reducible refine LeO.bind ?_ (fun _ => ?_))
   | exact ih0 _ _ _ _ _ _
   | exact LeO.none _
   | refine LeO.ite ?_ ?_
   | refine LeO.bind ?_ (fun _ => ?_)
def bitrow_Of.T9 : Bool × List (List Nat × List Nat) := (true, [([], []), ([0], [0]), ([], []), ([2], [2]), ([1, 3], [1, 3]), ([4], [4]), ([], []), ([6], [6]), ([7], [7]), ([5, 8], [5, 8]), ([1, 3, 0, 1, 2, 3, 4, 5, 6, 7, 8, 9], [1, 3]), ([10, 9, 0, 1, 2, 3, 4, 5, 6, 7, 8, 9], [9, 10])])
def bitrow_Of.B9 : List Nat := [0, 1, 0, 4, 15, 31, 0, 64, 192, 511, 1023, 2047]
theorem bitrow_Of.tab9 : rtab .any (opsOf Tryd.f27 9) = bitrow_Of.T9 := by kernel_rfl
theorem bitrow_Of.bits9 : waitsOk bitrow_Of.T9.2 bitrow_Of.B9 = true := by kernel_rfl
set_option maxHeartbeats 8000000 in
set_option maxRecDepth 100000 in
theorem bitrow_Of.calls (k : Nat) (a0 : Int) (A1 : Option Addr) (c1 : Nat) (l1 : List Int) (r1 : Int) (r2 : List Int) (r3 : Int) (w : World) (hr1 : Kd.C (Kd.int .i64) w A1 l1.length l1) (hc1 : l1.length ≤ c1) (h : bitrow_Of.f k a0 l1 = some (r1, r2, r3)) :
  Calls Tryd.prog 27 #[.int .i64 a0, .slice A1 l1.length c1] w fun e w' => ∃ v1_ : Value, e = .returned (.tuple #[.agg #[.int .i64 r1, v1_], .int .i64 r3]) ∧ Kd.R (Kd.int .u64) 90 w' w.heap.size (fun _ => True) v1_ r2 ∧ Below w.heap.size w w' := by
 have hu25 := Tryd.underlying25
 have HR1 := Aside0.mk hr1
 have HC1 := Aside0.mk hc1
 clear hr1 hc1
 have HB := am (Below.refl w.heap.size w)
 have H : ((bitrow_sized.f a0).bind fun t137 => (if t137 = true then ((bitrow_fresh.f a0).bind fun bt138 => (bitrow_Of.l0 k a0 l1 (l1.length : Int) 0 bt138.1 bt138.2)) else (some (0, ([] : List Int), 2)))) = some (r1, r2, r3) := h
 clear h
 replace H := Option.bind_eq_some_iff.mp H
 obtain ⟨t137, A30, H⟩ := H
 replace H : (if t137 = true then ((bitrow_fresh.f a0).bind fun bt138 => (bitrow_Of.l0 k a0 l1 (l1.length : Int) 0 bt138.1 bt138.2)) else (some (0, ([] : List Int), 2))) = some (r1, r2, r3) := H
 have A3 := Aside0.mk A30
 clear A30
 by_cases c4 : t137 = true
 ·
  subst c4
  have H1 : ((bitrow_fresh.f a0).bind fun bt138 => (bitrow_Of.l0 k a0 l1 (l1.length : Int) 0 bt138.1 bt138.2)) = some (r1, r2, r3) := by rw [if_pos rfl] at H; exact H
  clear H
  have H := H1
  clear H1
  replace H := Option.bind_eq_some_iff.mp H
  obtain ⟨⟨t138, t139⟩, A50, H⟩ := H
  replace H : (bitrow_Of.l0 k a0 l1 (l1.length : Int) 0 t138 t139) = some (r1, r2, r3) := H
  have A5 := Aside0.mk A50
  clear A50
  have H' := Aside0.mk H
  clear H
  go_enter Tryd.func27, Tryd.ntmps27
  go_wp2_with (first | ((with_reducible refine gate_dst (N := 4) rfl ?_); refine box_event ?hg (N := 4) ?hd (cs := #[.int .i64 0, .slice none 0 0]) (t := 25) ?hr ?_; (case hd => rfl); (case hg => rfl); (case hr => first | (go_simp; done) | (go_simp; rfl)); intro gb136 hg w6 hbox hb; have n0_ := am (below_step (pb HB) hb); have n1_ := am (hbox); have n2_ := am ((by rw [hg]; exact (below_size (pb HB)) : w.heap.size ≤ gb136)); have n3_ := am ((by rw [hg]; exact (below_size (pb HB)) : w.heap.size ≤ gb136)); clear HB; have HB := n0_; have BK136 := n1_; have GW136 := n2_; have GE136 := n3_; clear n0_ n1_ n2_ n3_ hb hbox hg) | ((with_reducible refine gate_callee (f := 66) rfl ?_); refine goesL_ (some 10) rfl rfl Tryd.func66 (by kernel_rfl) rfl #[.int .i64 a0] rfl (by (try simp only [List.map_toArray, List.map_cons, List.map_nil]); first | done | rfl | (simp only [List.length_drop, List.length_take]; rfl)) ?_; (with_reducible refine (bitrow_sized.calls a0 true _ A3.out).mono ?_); rintro e w' ⟨rfl, ⟨nd, rfl⟩⟩; refine ⟨_, rfl, ?_⟩; (try (rw [drewN_self w6]; generalize hq_ : World.drewN w6 _ = w6; have n0_ : Aside0 (w6.heap[gb136]? = some (.cells #[.int .i64 0, .slice none 0 0] 25 (0, 0))) := ⟨by rw [← hq_]; exact (pk BK136)⟩; have n1_ : Aside0 (Below w.heap.size w w6) := ⟨by rw [← hq_]; exact (pb HB)⟩; clear BK136 HB hq_; have BK136 := n0_; have HB := n1_; clear n0_ n1_))) | ((with_reducible refine gate_callee (f := 67) rfl ?_); refine goesL_ (some 14) rfl rfl Tryd.func67 (by kernel_rfl) rfl #[.int .i64 a0] rfl (by (try simp only [List.map_toArray, List.map_cons, List.map_nil]); first | done | rfl | (simp only [List.length_drop, List.length_take]; rfl)) ?_; (with_reducible refine (bitrow_fresh.calls a0 t138 t139 _ A5.out).mono ?_); rintro e w7 ⟨v140, rfl, ho0, hb⟩; refine ⟨_, rfl, ?_⟩; have n0_ := am (Kd.R_lower ho0 (below_size (pb HB))); have n1_ := bb BK136 hb; have n2_ := am (below_step (pb HB) hb); clear BK136 HB; have HO141 := n0_; have BK136 := n1_; have HB := n2_; clear n0_ n1_ n2_; (try clear hb); (try clear hb2); (try clear hk); (try clear hi); (try clear ho0)) | ((with_reducible refine gate_dst (N := 6) rfl ?_); refine box_event ?hg (N := 6) ?hd (cs := #[.int .i64 0, .slice none 0 0]) (t := 25) ?hr ?_; (case hd => rfl); (case hg => rfl); (case hr => first | (go_simp; done) | (go_simp; rfl)); intro gb142 hg w8 hbox hb; have n0_ := am (Kd.R_below (pr HO141) hb); have n1_ := bb BK136 hb; have n2_ := am (below_step (pb HB) hb); have n3_ := am (hbox); have n4_ := am ((by rw [hg]; exact (below_size (pb HB)) : w.heap.size ≤ gb142)); have n5_ := am ((by rw [hg]; exact (below_size (pb HB)) : w.heap.size ≤ gb142)); have n6_ := am ((by rw [hg]; exact Nat.ne_of_lt (bl BK136) : gb136 ≠ gb142)); have n7_ := am ((by rw [hg]; exact Nat.ne_of_gt (bl BK136) : gb142 ≠ gb136)); clear HO141 BK136 HB; have HO141 := n0_; have BK136 := n1_; have HB := n2_; have BK142 := n3_; have GW142 := n4_; have GE142 := n5_; have NB136_142 := n6_; have NB142_136 := n7_; clear n0_ n1_ n2_ n3_ n4_ n5_ n6_ n7_ hb hbox hg; have hnb9 := NB142_136.out; have hnc9 := NB136_142.out; have hcz10_0 : w8.cell? ⟨gb142, 0, none⟩ = some (.int .i64 0) := (blk_cell BK142.out 0).trans rfl; have hcz10_1 : w8.cell? ⟨gb142, 1, none⟩ = some (.slice none 0 0) := (blk_cell BK142.out 1).trans rfl; have hfz10_0 := blk_frozen BK142.out 0; have hfz10_1 := blk_frozen BK142.out 1; obtain ⟨Ao11, co11, eo11⟩ := Kd.R_slice HO141.out; subst eo11))
  go_loopg [17] k (fun kq v17 w' => ∃ (x17_1 : Int) (x137000_1 : Int) (x143001_1 : List Int) (u143001 : Value), v17 = .int .i64 x17_1 ∧ Aside0 (bitrow_Of.l0 kq a0 l1 (l1.length : Int) x17_1 t138 x143001_1 = some (r1, r2, r3)) ∧ Aside0 (kq ≤ k) ∧ Aside0 (Kd.R (Kd.int .u64) 90 w' w.heap.size (fun _ => True) u143001 x143001_1) ∧ Aside0 (w'.heap[gb136]? = some (.cells #[.int .i64 x137000_1, (.slice none 0 0)] 25 (0, 0))) ∧ Aside0 (w'.heap[gb142]? = some (.cells #[.int .i64 t138, u143001] 25 (0, 0))) ∧ Aside0 (Below w.heap.size w w'))
  case atStart => exact ⟨(0), (0), (t139), (.slice Ao11 t139.length co11), (by first | rfl | (simp; done) | (simp [*]; done)), H', ⟨Nat.le_refl _⟩, ⟨by (with_reducible repeat (first | apply Kd.R_alloc | apply Kd.R_drewN | apply Kd.R_drew)); exact Kd.R_mono (Kd.R_far (p := ⟨gb142, 1, none⟩) (Kd.R_far (p := ⟨gb142, 0, none⟩) (Kd.R_types HO141.out BK142.out (by decide)) (fun _ hk => hk.2) (.int .i64 t138)) (fun _ hk => hk.2) (.slice Ao11 t139.length co11)) (fun _ hk => trivial)⟩, ⟨by (with_reducible repeat (first | refine blk_drewN ?_ _ | refine blk_drew ?_ | refine blk_alloc ?_ _)); refine blk_far ?_ NB136_142.out _; (with_reducible repeat (first | refine blk_drewN ?_ _ | refine blk_drew ?_ | refine blk_alloc ?_ _)); refine blk_far ?_ NB136_142.out _; (with_reducible repeat (first | refine blk_drewN ?_ _ | refine blk_drew ?_ | refine blk_alloc ?_ _)); exact BK136.out⟩, ⟨by (with_reducible repeat (first | refine blk_drewN ?_ _ | refine blk_drew ?_ | refine blk_alloc ?_ _)); refine blk_put (cs := #[.int .i64 t138, .slice none 0 0]) ?_ 1 _ rfl; (with_reducible repeat (first | refine blk_drewN ?_ _ | refine blk_drew ?_ | refine blk_alloc ?_ _)); refine blk_put (cs := #[.int .i64 0, .slice none 0 0]) ?_ 0 _ rfl; (with_reducible repeat (first | refine blk_drewN ?_ _ | refine blk_drew ?_ | refine blk_alloc ?_ _)); exact BK142.out⟩, ⟨pb HB⟩⟩
  case round =>
   clear H'
   try clear c1
   try clear c2
   try clear p2
   try clear c4
   try clear c6
   try clear c9
   try clear hcz10_0
   try clear hcz10_1
   try clear hfz10_0
   try clear hfz10_1
   obtain ⟨x17_1, x137000_1, x143001_1, u143001, rfl, HA, HK1, HO_143001, BK136, BK142, HB⟩ := hrel
   cases gk with
   | zero => exact absurd HA.out (by simp [bitrow_Of.l0])
   | succ k1 =>
    have H := HA.out
    clear HA
    simp only [bitrow_Of.l0] at H
    by_cases c12 : x17_1 < (l1.length : Int)
    ·
     rw [if_pos c12] at H
     have c12b0 : decide (x17_1 < (l1.length : Int)) = true := decide_eq_true c12
     clear c12
     by_cases c13 : 0 ≤ x17_1
     ·
      rw [if_pos c13] at H
      have c13b0 : decide (0 ≤ x17_1) = true := decide_eq_true c13
      clear c13
      by_cases c14 : x17_1 < (l1.length : Int)
      ·
       rw [if_pos c14] at H
       have c14b0 : decide (x17_1 < (l1.length : Int)) = true := decide_eq_true c14
       clear c14
       by_cases c15 : (rd l1 x17_1) < 0
       ·
        rw [if_pos c15] at H
        have c15b0 : decide ((rd l1 x17_1) < 0) = true := decide_eq_true c15
        clear c15
        simp only [Option.some.injEq, Prod.mk.injEq] at H
        obtain ⟨rfl, rfl, rfl⟩ := H
        have p143 : 0 ≤ (x17_1 : Int) := of_decide_eq_true (by first | (with_reducible assumption) | assumption)
        have q143 : x17_1 < (l1.length : Int) := of_decide_eq_true (by first | (with_reducible assumption) | assumption)
        obtain ⟨ad143, e143, hx143_0⟩ := Kd.at_int HR1.out x17_1 p143 q143
        cases e143
        replace hx143_0 := (HB.out.cell (World.block_lt_of_cell? w _ hx143_0)).trans hx143_0
        replace p143 := eq_true p143
        replace q143 := eq_true q143
        have hnb16 := NB136_142.out
        have hnc16 := NB142_136.out
        have hcz17_0 : wr.cell? ⟨gb136, 0, none⟩ = some (.int .i64 x137000_1) := (blk_cell BK136.out 0).trans rfl
        have hcz17_1 : wr.cell? ⟨gb136, 1, none⟩ = some (.slice none 0 0) := (blk_cell BK136.out 1).trans rfl
        have hfz17_0 := blk_frozen BK136.out 0
        have hfz17_1 := blk_frozen BK136.out 1
        go_wp2
        refine bodyPost_ret (results_ct rfl _ _ gb136 25 #[.int .i64 0, .slice none 0 0] (0, 0) _ rfl (by (with_reducible repeat (first | refine blk_drewN ?_ _ | refine blk_drew ?_ | refine blk_alloc ?_ _)); refine blk_put (cs := #[.int .i64 0, .slice none 0 0]) ?_ 1 _ rfl; (with_reducible repeat (first | refine blk_drewN ?_ _ | refine blk_drew ?_ | refine blk_alloc ?_ _)); refine blk_put (cs := #[.int .i64 x137000_1, .slice none 0 0]) ?_ 0 _ rfl; (with_reducible repeat (first | refine blk_drewN ?_ _ | refine blk_drew ?_ | refine blk_alloc ?_ _)); exact BK136.out) Tryd.underlying25 rfl (by kernel_rfl)) rfl ?_
        exact ⟨_, by first | rfl | (simp [errW_none, errW_some] <;> rfl) | (simp [*, errW_none, errW_some] <;> rfl), by first | exact Kd.R_nil _ _ _ _ _ | exact Kd.N_nil _ _ _ _ _ | exact Kd.V_nil _ _ _ _ _ | exact Kd.Q_nil _ _ _ _ _ | exact Kd.S_nil _ _ _ _ _, pb HB⟩
       ·
        rw [if_neg c15] at H
        have c15b0 : decide ((rd l1 x17_1) < 0) = false := decide_eq_false c15
        clear c15
        by_cases c18 : (rd l1 x17_1) ≥ a0
        ·
         rw [if_pos c18] at H
         have c18b0 : decide (a0 ≤ (rd l1 x17_1)) = true := decide_eq_true c18
         clear c18
         simp only [Option.some.injEq, Prod.mk.injEq] at H
         obtain ⟨rfl, rfl, rfl⟩ := H
         have p143 : 0 ≤ (x17_1 : Int) := of_decide_eq_true (by first | (with_reducible assumption) | assumption)
         have q143 : x17_1 < (l1.length : Int) := of_decide_eq_true (by first | (with_reducible assumption) | assumption)
         obtain ⟨ad143, e143, hx143_0⟩ := Kd.at_int HR1.out x17_1 p143 q143
         cases e143
         replace hx143_0 := (HB.out.cell (World.block_lt_of_cell? w _ hx143_0)).trans hx143_0
         replace p143 := eq_true p143
         replace q143 := eq_true q143
         have hnb19 := NB136_142.out
         have hnc19 := NB142_136.out
         have hcz20_0 : wr.cell? ⟨gb136, 0, none⟩ = some (.int .i64 x137000_1) := (blk_cell BK136.out 0).trans rfl
         have hcz20_1 : wr.cell? ⟨gb136, 1, none⟩ = some (.slice none 0 0) := (blk_cell BK136.out 1).trans rfl
         have hfz20_0 := blk_frozen BK136.out 0
         have hfz20_1 := blk_frozen BK136.out 1
         go_wp2
         refine bodyPost_ret (results_ct rfl _ _ gb136 25 #[.int .i64 0, .slice none 0 0] (0, 0) _ rfl (by (with_reducible repeat (first | refine blk_drewN ?_ _ | refine blk_drew ?_ | refine blk_alloc ?_ _)); refine blk_put (cs := #[.int .i64 0, .slice none 0 0]) ?_ 1 _ rfl; (with_reducible repeat (first | refine blk_drewN ?_ _ | refine blk_drew ?_ | refine blk_alloc ?_ _)); refine blk_put (cs := #[.int .i64 x137000_1, .slice none 0 0]) ?_ 0 _ rfl; (with_reducible repeat (first | refine blk_drewN ?_ _ | refine blk_drew ?_ | refine blk_alloc ?_ _)); exact BK136.out) Tryd.underlying25 rfl (by kernel_rfl)) rfl ?_
         exact ⟨_, by first | rfl | (simp [errW_none, errW_some] <;> rfl) | (simp [*, errW_none, errW_some] <;> rfl), by first | exact Kd.R_nil _ _ _ _ _ | exact Kd.N_nil _ _ _ _ _ | exact Kd.V_nil _ _ _ _ _ | exact Kd.Q_nil _ _ _ _ _ | exact Kd.S_nil _ _ _ _ _, pb HB⟩
        ·
         rw [if_neg c18] at H
         have c18b0 : decide (a0 ≤ (rd l1 x17_1)) = false := decide_eq_false c18
         clear c18
         obtain ⟨ji21, hji21⟩ : ∃ j_ : Int, (wrap64 (Int.tdiv (rd l1 x17_1) 64)) = j_ := ⟨_, rfl⟩
         replace H : (if 0 ≤ (ji21) then (if (ji21) < (x143001_1.length : Int) then (if 0 ≤ (Int.tmod (rd l1 x17_1) 64) then (bitrow_Of.l0 k1 a0 l1 (l1.length : Int) (wrap64 (x17_1 + 1)) t138 (x143001_1.set ((ji21) : Int).toNat (Go.bits .or .u64 (rd x143001_1 (ji21)) (shl .u64 1 (Int.tmod (rd l1 x17_1) 64))))) else (none)) else (none)) else (none)) = some (r1, r2, r3) := by first | (rw [hji21] at H; exact H) | (simp only [hji21] at H ⊢; exact H)
         have hji21w : (IntKind.i64.wrap (Int.tdiv (rd l1 x17_1) 64)) = ji21 := (i64_w _).trans hji21
         by_cases c22 : 0 ≤ (ji21)
         ·
          rw [if_pos c22] at H
          have c22b0 : decide (0 ≤ (ji21)) = true := decide_eq_true c22
          clear c22
          by_cases c23 : (ji21) < (x143001_1.length : Int)
          ·
           rw [if_pos c23] at H
           have c23b0 : decide ((ji21) < (x143001_1.length : Int)) = true := decide_eq_true c23
           clear c23
           obtain ⟨ji24, hji24⟩ : ∃ j_ : Int, (Int.tmod (rd l1 x17_1) 64) = j_ := ⟨_, rfl⟩
           replace H : (if 0 ≤ (ji24) then (bitrow_Of.l0 k1 a0 l1 (l1.length : Int) (wrap64 (x17_1 + 1)) t138 (x143001_1.set ((ji21) : Int).toNat (Go.bits .or .u64 (rd x143001_1 (ji21)) (shl .u64 1 (ji24))))) else (none)) = some (r1, r2, r3) := by first | (rw [hji24] at H; exact H) | (simp only [hji24] at H ⊢; exact H)
           by_cases c25 : 0 ≤ (ji24)
           ·
            rw [if_pos c25] at H
            have c25b0 := eq_true c25
            have c25b1 : decide (0 ≤ (ji24)) = true := decide_eq_true c25
            clear c25
            obtain ⟨ji26, hji26⟩ : ∃ j_ : Int, (shl .u64 1 (ji24)) = j_ := ⟨_, rfl⟩
            replace H : (bitrow_Of.l0 k1 a0 l1 (l1.length : Int) (wrap64 (x17_1 + 1)) t138 (x143001_1.set ((ji21) : Int).toNat (Go.bits .or .u64 (rd x143001_1 (ji21)) (ji26)))) = some (r1, r2, r3) := by first | (rw [hji26] at H; exact H) | (simp only [hji26] at H ⊢; exact H)
            have hji26_ : (IntKind.u64.wrap (1 * 2 ^ min (ji24).toNat 64)) = ji26 := hji26
            have hji26z : (ji24) ≤ 64 → (IntKind.u64.wrap (1 * 2 ^ (ji24).toNat)) = ji26 := shl_small hji26
            have hji26u : (IntKind.u64.wrap (2 ^ min (ji24).toNat 64)) = ji26 := by have h_ := hji26_; rw [Int.one_mul] at h_; exact h_
            have hji26v : (ji24) ≤ 64 → (IntKind.u64.wrap (2 ^ (ji24).toNat)) = ji26 := fun hle_ => by have h_ := hji26z hle_; rw [Int.one_mul] at h_; exact h_
            obtain ⟨y145, hy145⟩ : ∃ y_ : List Int, y_ = (x143001_1.set ((ji21) : Int).toNat (Go.bits .or .u64 (rd x143001_1 (ji21)) (ji26))) := ⟨_, rfl⟩
            replace H : (bitrow_Of.l0 k1 a0 l1 (l1.length : Int) (wrap64 (x17_1 + 1)) t138 y145) = some (r1, r2, r3) := by first | (rw [hy145]; with_reducible exact H) | (have H2_ := (Option.bind_some _ _).symm.trans H; rw [hy145]; with_reducible exact H2_) | (have H2_ := (Option.bind_some _ _).symm.trans H; with_reducible exact H2_) | with_reducible exact H | (rw [hy145]; exact H) | exact H
            have Ny145 := Aside0.mk hy145
            clear hy145
            have H' := Aside0.mk H
            clear H
            have p143 : 0 ≤ (x17_1 : Int) := of_decide_eq_true (by first | (with_reducible assumption) | assumption)
            have q143 : x17_1 < (l1.length : Int) := of_decide_eq_true (by first | (with_reducible assumption) | assumption)
            obtain ⟨ad143, e143, hx143_0⟩ := Kd.at_int HR1.out x17_1 p143 q143
            cases e143
            replace hx143_0 := (HB.out.cell (World.block_lt_of_cell? w _ hx143_0)).trans hx143_0
            replace p143 := eq_true p143
            replace q143 := eq_true q143
            try go_wp2
            have n0_ := am (Kd.R_drew HO_143001.out)
            have n1_ := am (blk_drew BK136.out)
            have n2_ := am (blk_drew BK142.out)
            have n3_ := am (below_drew1 HB.out)
            clear HO_143001
            clear BK136
            clear BK142
            clear HB
            have HO_143001 := n0_
            have BK136 := n1_
            have BK142 := n2_
            have HB := n3_
            clear n0_ n1_ n2_ n3_
            obtain ⟨Ao29, co29, eo29⟩ := Kd.R_slice HO_143001.out
            (first | subst eo29 | (injection eo29 with f1_ f2_ f3_; have f4_ := f1_.symm; have f5_ := f3_.symm; clear f1_ f2_ f3_; subst f4_; subst f5_))
            have p144 : 0 ≤ ((ji21) : Int) := of_decide_eq_true (by first | (with_reducible assumption) | assumption)
            have q144 : (ji21) < (x143001_1.length : Int) := of_decide_eq_true (by first | (with_reducible assumption) | assumption)
            obtain ⟨ad144, e144, hx144_0⟩ := Kd.at_int (Kd.R_reads' HO_143001.out).2.2 (ji21) p144 q144
            cases e144
            replace p144 := eq_true p144
            replace q144 := eq_true q144
            have p27 : 0 ≤ ((ji21) : Int) := of_decide_eq_true (by first | (with_reducible assumption) | assumption)
            have q27 : ((ji21) : Int) < ((x143001_1.length : Int) : Int) := of_decide_eq_true (by first | (with_reducible assumption) | assumption)
            obtain ⟨go27, co27, eo27, gb27, gl27, cl27, HG27⟩ := Kd.R_form HO_143001.out (by omega)
            (first | cases eo27 | (injection eo27 with ea_ en_ ec_; (first | subst ea_ | (injection ea_ with ea_; subst ea_)); subst ec_; clear en_))
            have GB27 := Aside0.mk gb27
            have GG27 := Aside0.mk HG27
            clear gb27 gl27 HG27
            (first | simp only [add_plain] at hx144_0 | skip)
            obtain ⟨hx27_0, hf27_0⟩ := Kd.R_celln 0 HO_143001.out ((ji21) : Int) p27 q27
            replace p27 := eq_true p27
            replace q27 := eq_true q27
            have HP30 := Kd.R_putn HO_143001.out ((ji21) : Int) (Go.bits .or .u64 (rd x143001_1 (ji21)) (ji26))
            rw [← Ny145.out] at HP30
            have HQ30 := Aside0.mk HP30
            clear HP30
            refine start_ (n := 12) (S := fun w' => w'.cell? ⟨gb142, 0, none⟩ = some (.int .i64 t138) ∧ w'.cell? ⟨gb142, 1, none⟩ = some (.slice (some ⟨go27, 0, none⟩) x143001_1.length co29) ∧ w'.cell? ⟨go27, ((ji21)).toNat, none⟩ = some (.int .u64 (rd x143001_1 (ji21)))) (ds := [11]) #[F, F, F, F, F, F, F, F, F, F, F, F] (by kernel_rfl) rfl rfl ⟨(blk_cell BK142.out 0).trans rfl, (blk_cell BK142.out 1).trans rfl, hx144_0⟩ (fun hHeld => ?_); refine with_tabW bitrow_Of.tab9 bitrow_Of.bits9 (fun HT_ HW_ => ?_)
            generalize wr.drew = w28 at HO_143001 BK136 BK142 HB GG27 HQ30 hf27_0 hx144_0 hx27_0 hHeld ⊢
            refine pure_ (i := 0) (N := some 29) (v := ?_) (a' := ?_) #[T, F, F, F, F, F, F, F, F, F, F, F] rfl rfl (any_of HT_.out (by kernel_rfl)) (fun _ _ _ h => h) (Or.inl ⟨by rfl, ?_⟩) ?_ ?_
            rotate_left
            ·
             intro w'
             go_simp
             with_reducible rfl
            rotate_left
            ·
             simp only [Act.put, q1, q2, q3, i64_w, i32_w]
             rfl
            refine pure_ (i := 2) (N := some 31) (v := ?_) (a' := ?_) #[T, F, T, F, F, F, F, F, F, F, F, F] rfl rfl (any_of HT_.out (by kernel_rfl)) (fun _ _ _ h => h) (Or.inl ⟨by rfl, ?_⟩) ?_ ?_
            rotate_left
            ·
             intro w'
             go_simp
             with_reducible rfl
            rotate_left
            ·
             simp only [Act.put, q1, q2, q3, i64_w, i32_w]
             rfl
            refine pure_ (i := 3) (N := some 32) (v := ?_) (a' := ?_) #[T, F, T, T, F, F, F, F, F, F, F, F] rfl rfl (any_of HT_.out (by kernel_rfl)) (fun _ _ _ h => h) (Or.inl ⟨by rfl, ?_⟩) ?_ ?_
            rotate_left
            ·
             intro w'
             go_simp
             with_reducible rfl
            rotate_left
            ·
             simp only [Act.put, q1, q2, q3, i64_w, i32_w]
             rfl
            refine pure_ (i := 6) (N := some 35) (v := ?_) (a' := ?_) #[T, F, T, T, F, F, T, F, F, F, F, F] rfl rfl (any_of HT_.out (by kernel_rfl)) (fun _ _ _ h => h) (Or.inl ⟨by rfl, ?_⟩) ?_ ?_
            rotate_left
            ·
             intro w'
             go_simp
             with_reducible rfl
            rotate_left
            ·
             simp only [Act.put, q1, q2, q3, i64_w, i32_w]
             rfl
            refine pure_ (i := 7) (N := some 36) (v := ?_) (a' := ?_) #[T, F, T, T, F, F, T, T, F, F, F, F] rfl rfl (any_of HT_.out (by kernel_rfl)) (fun _ _ _ h => h) (Or.inl ⟨by rfl, ?_⟩) ?_ ?_
            rotate_left
            ·
             intro w'
             go_simp
             with_reducible rfl
            rotate_left
            ·
             simp only [Act.put, q1, q2, q3, i64_w, i32_w]
             rfl
            refine pure_ (i := 8) (N := some 37) (v := ?_) (a' := ?_) #[T, F, T, T, F, F, T, T, T, F, F, F] rfl rfl (any_of HT_.out (by kernel_rfl)) (fun _ _ _ h => h) (Or.inl ⟨by rfl, ?_⟩) ?_ ?_
            rotate_left
            ·
             intro w'
             go_simp
             with_reducible rfl
            rotate_left
            ·
             simp only [Act.put, q1, q2, q3, i64_w, i32_w]
             rfl
            refine take_ (i := 1) (N := some 30) (v := ?_) (a' := ?_) #[T, T, T, T, F, F, T, T, T, F, F, F] rfl rfl (take_ofW HT_.out HW_.out (by kernel_rfl)) (fun _ _ _ h => h) (Or.inl ⟨by rfl, ?_⟩) hHeld ?_ ?_
            rotate_left
            ·
             rintro w' ⟨s0, s1, s2⟩
             go_simp
             with_reducible rfl
            rotate_left
            ·
             simp only [Act.put, q1, q2, q3, i64_w, i32_w]
             rfl
            refine pure_ (i := 4) (N := some 33) (v := ?_) (a' := ?_) #[T, T, T, T, T, F, T, T, T, F, F, F] rfl rfl (any_of HT_.out (by kernel_rfl)) (fun _ _ _ h => h) (Or.inl ⟨by rfl, ?_⟩) ?_ ?_
            rotate_left
            ·
             intro w'
             go_simp
             with_reducible rfl
            rotate_left
            ·
             simp only [Act.put, q1, q2, q3, i64_w, i32_w]
             rfl
            refine take_ (i := 5) (N := some 34) (v := ?_) (a' := ?_) #[T, T, T, T, T, T, T, T, T, F, F, F] rfl rfl (take_ofW HT_.out HW_.out (by kernel_rfl)) (fun _ _ _ h => h) (Or.inl ⟨by rfl, ?_⟩) hHeld ?_ ?_
            rotate_left
            ·
             rintro w' ⟨s0, s1, s2⟩
             go_simp
             with_reducible rfl
            rotate_left
            ·
             simp only [Act.put, q1, q2, q3, i64_w, i32_w]
             rfl
            refine pure_ (i := 9) (N := some 38) (v := ?_) (a' := ?_) #[T, T, T, T, T, T, T, T, T, T, F, F] rfl rfl (any_of HT_.out (by kernel_rfl)) (fun _ _ _ h => h) (Or.inl ⟨by rfl, ?_⟩) ?_ ?_
            rotate_left
            ·
             intro w'
             go_simp
             with_reducible rfl
            rotate_left
            ·
             simp only [Act.put, q1, q2, q3, i64_w, i32_w]
             rfl
            refine pure_ (i := 10) (N := some 39) (v := ?_) (a' := ?_) #[T, T, T, T, T, T, T, T, T, T, T, F] rfl rfl (any_of HT_.out (by kernel_rfl)) (fun _ _ _ h => h) (Or.inl ⟨by rfl, ?_⟩) ?_ ?_
            rotate_left
            ·
             intro w'
             go_simp
             with_reducible rfl
            rotate_left
            ·
             simp only [Act.put, q1, q2, q3, i64_w, i32_w]
             rfl
            refine last_ (i := 11) (N := none) #[T, T, T, T, T, T, T, T, T, T, T, T] rfl rfl (one_of HT_.out (by kernel_rfl)) (by decide) (fun K hK => ?_)
            refine skip_ (w1 := ?_) (by rfl) rfl ?_ ?_
            rotate_left
            ·
             go_simp
             rfl
            refine hK.out _ _ ?_
            clear hK K
            refine done_ (done_of HT_.out (by kernel_rfl)) ?_
            try go_wp2
            go_roundg k1
            case measure => have := HK1.out; omega
            case rel => exact ⟨(wrap64 (x17_1 + 1)), (x137000_1), (y145), (.slice (some ⟨go27, 0, none⟩) x143001_1.length co29), (by first | rfl | (simp; done) | (simp [*]; done)), H', ⟨by have := HK1.out; omega⟩, ⟨by (with_reducible repeat (first | apply Kd.R_alloc | apply Kd.R_drewN | apply Kd.R_drew)); exact HQ30.out⟩, ⟨by (with_reducible repeat (first | refine blk_drewN ?_ _ | refine blk_drew ?_ | refine blk_alloc ?_ _)); refine blk_far ?_ (by have h_ := Kd.R_ne HO_143001.out BK136.out (by decide); intro e_; exact h_ (by rw [e_]; rfl)) _; (with_reducible repeat (first | refine blk_drewN ?_ _ | refine blk_drew ?_ | refine blk_alloc ?_ _)); exact BK136.out⟩, ⟨by (with_reducible repeat (first | refine blk_drewN ?_ _ | refine blk_drew ?_ | refine blk_alloc ?_ _)); refine blk_far ?_ (by have h_ := Kd.R_ne HO_143001.out BK142.out (by decide); intro e_; exact h_ (by rw [e_]; rfl)) _; (with_reducible repeat (first | refine blk_drewN ?_ _ | refine blk_drew ?_ | refine blk_alloc ?_ _)); exact BK142.out⟩, ⟨by repeat (first | (with_reducible first | exact HB.out | apply below_alloc | apply pw_below_drewN | apply below_drew1 | refine below_set ?_ GB27.out | refine below_set ?_ GE136.out | refine below_set ?_ GE142.out) | exact HB.out)⟩⟩
           ·
            rw [if_neg c25] at H
            exact absurd H (by simp)
          ·
           rw [if_neg c23] at H
           exact absurd H (by simp)
         ·
          rw [if_neg c22] at H
          exact absurd H (by simp)
      ·
       rw [if_neg c14] at H
       exact absurd H (by simp)
     ·
      rw [if_neg c13] at H
      exact absurd H (by simp)
    ·
     rw [if_neg c12] at H
     have c12b0 : decide (x17_1 < (l1.length : Int)) = false := decide_eq_false c12
     clear c12
     simp only [Option.some.injEq, Prod.mk.injEq] at H
     obtain ⟨rfl, rfl, rfl⟩ := H
     have hnb31 := NB142_136.out
     have hnc31 := NB136_142.out
     have hcz32_0 : wr.cell? ⟨gb142, 0, none⟩ = some (.int .i64 t138) := (blk_cell BK142.out 0).trans rfl
     have hcz32_1 : wr.cell? ⟨gb142, 1, none⟩ = some (u143001) := (blk_cell BK142.out 1).trans rfl
     have hfz32_0 := blk_frozen BK142.out 0
     have hfz32_1 := blk_frozen BK142.out 1
     have hcz33_0 : wr.cell? ⟨gb136, 0, none⟩ = some (.int .i64 x137000_1) := (blk_cell BK136.out 0).trans rfl
     have hcz33_1 : wr.cell? ⟨gb136, 1, none⟩ = some (.slice none 0 0) := (blk_cell BK136.out 1).trans rfl
     have hfz33_0 := blk_frozen BK136.out 0
     have hfz33_1 := blk_frozen BK136.out 1
     obtain ⟨Ao34, co34, eo34⟩ := Kd.R_slice HO_143001.out
     subst eo34
     go_wp2
     refine bodyPost_ret (results_ct rfl _ _ gb136 25 #[.int .i64 t138, .slice Ao34 x143001_1.length co34] (0, 0) _ rfl (by (with_reducible repeat (first | refine blk_drewN ?_ _ | refine blk_drew ?_ | refine blk_alloc ?_ _)); refine blk_put (cs := #[.int .i64 t138, .slice none 0 0]) ?_ 1 _ rfl; (with_reducible repeat (first | refine blk_drewN ?_ _ | refine blk_drew ?_ | refine blk_alloc ?_ _)); refine blk_put (cs := #[.int .i64 x137000_1, .slice none 0 0]) ?_ 0 _ rfl; (with_reducible repeat (first | refine blk_drewN ?_ _ | refine blk_drew ?_ | refine blk_alloc ?_ _)); exact BK136.out) Tryd.underlying25 rfl (by kernel_rfl)) rfl ?_
     exact ⟨_, by first | rfl | (simp [errW_none, errW_some] <;> rfl) | (simp [*, errW_none, errW_some] <;> rfl), by (with_reducible repeat (first | apply Kd.R_alloc | apply Kd.R_drewN | apply Kd.R_drew)); exact Kd.R_mono (Kd.R_far (p := ⟨gb136, 1, none⟩) (Kd.R_far (p := ⟨gb136, 0, none⟩) (Kd.R_types HO_143001.out BK136.out (by decide)) (fun _ hk => hk.2) (.int .i64 t138)) (fun _ hk => hk.2) (.slice Ao34 x143001_1.length co34)) (fun _ hk => trivial), pb HB⟩
 ·
  replace c4 := Bool.eq_false_iff.mpr c4
  subst c4
  have H1 : (some (0, ([] : List Int), 2)) = some (r1, r2, r3) := by rw [if_neg (show ¬ (false = true) by decide)] at H; exact H
  clear H
  have H := H1
  clear H1
  simp only [Option.some.injEq, Prod.mk.injEq] at H
  obtain ⟨rfl, rfl, rfl⟩ := H
  go_enter Tryd.func27, Tryd.ntmps27
  go_wp2_with (first | ((with_reducible refine gate_dst (N := 4) rfl ?_); refine box_event ?hg (N := 4) ?hd (cs := #[.int .i64 0, .slice none 0 0]) (t := 25) ?hr ?_; (case hd => rfl); (case hg => rfl); (case hr => first | (go_simp; done) | (go_simp; rfl)); intro gb136 hg w35 hbox hb; have n0_ := am (below_step (pb HB) hb); have n1_ := am (hbox); have n2_ := am ((by rw [hg]; exact (below_size (pb HB)) : w.heap.size ≤ gb136)); have n3_ := am ((by rw [hg]; exact (below_size (pb HB)) : w.heap.size ≤ gb136)); clear HB; have HB := n0_; have BK136 := n1_; have GW136 := n2_; have GE136 := n3_; clear n0_ n1_ n2_ n3_ hb hbox hg) | ((with_reducible refine gate_callee (f := 66) rfl ?_); refine goesL_ (some 10) rfl rfl Tryd.func66 (by kernel_rfl) rfl #[.int .i64 a0] rfl (by (try simp only [List.map_toArray, List.map_cons, List.map_nil]); first | done | rfl | (simp only [List.length_drop, List.length_take]; rfl)) ?_; (with_reducible refine (bitrow_sized.calls a0 false _ A3.out).mono ?_); rintro e w' ⟨rfl, ⟨nd, rfl⟩⟩; refine ⟨_, rfl, ?_⟩; (try (rw [drewN_self w35]; generalize hq_ : World.drewN w35 _ = w35; have n0_ : Aside0 (w35.heap[gb136]? = some (.cells #[.int .i64 0, .slice none 0 0] 25 (0, 0))) := ⟨by rw [← hq_]; exact (pk BK136)⟩; have n1_ : Aside0 (Below w.heap.size w w35) := ⟨by rw [← hq_]; exact (pb HB)⟩; clear BK136 HB hq_; have BK136 := n0_; have HB := n1_; clear n0_ n1_)); have hcz36_0 : w35.cell? ⟨gb136, 0, none⟩ = some (.int .i64 0) := (blk_cell BK136.out 0).trans rfl; have hcz36_1 : w35.cell? ⟨gb136, 1, none⟩ = some (.slice none 0 0) := (blk_cell BK136.out 1).trans rfl; have hfz36_0 := blk_frozen BK136.out 0; have hfz36_1 := blk_frozen BK136.out 1))
  refine bodyPost_ret (results_ct rfl _ _ gb136 25 #[.int .i64 0, .slice none 0 0] (0, 0) _ rfl (by (with_reducible repeat (first | refine blk_drewN ?_ _ | refine blk_drew ?_ | refine blk_alloc ?_ _)); refine blk_put (cs := #[.int .i64 0, .slice none 0 0]) ?_ 1 _ rfl; (with_reducible repeat (first | refine blk_drewN ?_ _ | refine blk_drew ?_ | refine blk_alloc ?_ _)); refine blk_put (cs := #[.int .i64 0, .slice none 0 0]) ?_ 0 _ rfl; (with_reducible repeat (first | refine blk_drewN ?_ _ | refine blk_drew ?_ | refine blk_alloc ?_ _)); exact BK136.out) Tryd.underlying25 rfl (by kernel_rfl)) rfl ?_
  exact ⟨_, by first | rfl | (simp [errW_none, errW_some] <;> rfl) | (simp [*, errW_none, errW_some] <;> rfl), by first | exact Kd.R_nil _ _ _ _ _ | exact Kd.N_nil _ _ _ _ _ | exact Kd.V_nil _ _ _ _ _ | exact Kd.Q_nil _ _ _ _ _ | exact Kd.S_nil _ _ _ _ _, pb HB⟩

/-! ### matrix_table_column: function 76 -/
def matrix_table_column.l0 : Nat → Int → List Int → List (S25) → Int → Int → Int → List (S25) → Option (Int × List Int)
 | 0, _, _, _, _, _, _, _ => none
 | k + 1, x1, x5, x13, x14, x15, x147000, x147001 => if x15 < x14 then (if 0 ≤ x15 then (if x15 < (x13.length : Int) then ((bitrow_Get.f ((rd_T25 x13 x15).f0) ((rd_T25 x13 x15).f1) x1).bind fun bt150 => (if bt150.1 = 1 then (if x5.length < 17592186044416 then (matrix_table_column.l0 k x1 (x5 ++ [x15]) x13 x14 (wrap64 (x15 + 1)) x147000 x147001) else (none)) else (matrix_table_column.l0 k x1 x5 x13 x14 (wrap64 (x15 + 1)) x147000 x147001))) else (none)) else (none)) else ((bitrow_Of.f k (x147001.length : Int) x5).bind fun bt155 => (some (bt155.1, bt155.2.1)))
def matrix_table_column.f (k : Nat) (a0_0 : Int) (l0_1 : List (S25)) (a1 : Int) : Option (Int × List Int) := matrix_table_column.l0 k a1 ([] : List Int) l0_1 (l0_1.length : Int) 0 a0_0 l0_1
theorem matrix_table_column.mono_l : ∀ k, (∀ y0 y1 y2 y3 y4 y5 y6, LeO (matrix_table_column.l0 k y0 y1 y2 y3 y4 y5 y6) (matrix_table_column.l0 (k + 1) y0 y1 y2 y3 y4 y5 y6))
 | 0 => fun _ _ _ _ _ _ _ r h => by simp [matrix_table_column.l0] at h
 | k + 1 => by
  have ih0 := matrix_table_column.mono_l k
  ·
   intro y0 y1 y2 y3 y4 y5 y6
   unfold matrix_table_column.l0
   repeat' first
   | (with_reducible exact ih0 _ _ _ _ _ _ _)
   | (with_reducible exact bitrow_Of.mono _ _ _)
   | (with_reducible exact LeO.refl _)
   | (with_reducible exact LeO.none _)
   | (with_reducible refine LeO.ite ?_ ?_)
   | (with_reducible refine LeO.bind ?_ (fun _ => ?_))
   | exact ih0 _ _ _ _ _ _ _
   | exact bitrow_Of.mono _ _ _
   | exact LeO.none _
   | refine LeO.ite ?_ ?_
   | refine LeO.bind ?_ (fun _ => ?_)
theorem matrix_table_column.mono : ∀ a0 a1 a2 k, LeO (matrix_table_column.f k a0 a1 a2) (matrix_table_column.f (k + 1) a0 a1 a2) := by
 intro a0 a1 a2 k
 have ih0 := matrix_table_column.mono_l k
 unfold matrix_table_column.f
 repeat' first
   | (with_reducible exact ih0 _ _ _ _ _ _ _)
   | (with_reducible exact bitrow_Of.mono _ _ _)
   | (with_reducible exact LeO.refl _)
   | (with_reducible exact LeO.none _)
   | (with_reducible refine LeO.ite ?_ ?_)
   | (with_reducible refine LeO.bind ?_ (fun _ => ?_))
   | exact ih0 _ _ _ _ _ _ _
   | exact bitrow_Of.mono _ _ _
   | exact LeO.none _
   | refine LeO.ite ?_ ?_
   | refine LeO.bind ?_ (fun _ => ?_)
set_option maxHeartbeats 8000000 in
set_option maxRecDepth 100000 in
theorem matrix_table_column.calls (k : Nat) (a0_0 : Int) (A0_1 : Option Addr) (c0_1 : Nat) (l0_1 : List (S25)) (a1 : Int) (r1 : Int) (r2 : List Int) (w : World) (hr0_1 : Kd.C k25 w A0_1 l0_1.length l0_1) (hc0_1 : l0_1.length ≤ c0_1) (h : matrix_table_column.f k a0_0 l0_1 a1 = some (r1, r2)) :
  Calls Tryd.prog 76 #[.agg #[.int .i64 a0_0, .slice A0_1 l0_1.length c0_1], .int .i64 a1] w fun e w' => ∃ v1_ : Value, e = .returned (.agg #[.int .i64 r1, v1_]) ∧ Kd.R (Kd.int .u64) 90 w' w.heap.size (fun _ => True) v1_ r2 ∧ Below w.heap.size w w' := by
 have hu97 := Tryd.underlying97
 have hu25 := Tryd.underlying25
 have HR0_1 := Aside0.mk hr0_1
 have HC0_1 := Aside0.mk hc0_1
 clear hr0_1 hc0_1
 have HB := am (Below.refl w.heap.size w)
 have H : (matrix_table_column.l0 k a1 ([] : List Int) l0_1 (l0_1.length : Int) 0 a0_0 l0_1) = some (r1, r2) := h
 clear h
 have H' := Aside0.mk H
 clear H
 go_enter Tryd.func76, Tryd.ntmps76
 go_wp2_with (first | ((with_reducible refine gate_dst (N := 2) rfl ?_); refine box_event ?hg (N := 2) ?hd (cs := #[.int .i64 a0_0, .slice A0_1 l0_1.length c0_1]) (t := 97) ?hr ?_; (case hd => rfl); (case hg => rfl); (case hr => first | (go_simp; done) | (go_simp; rfl)); intro gb146 hg w3 hbox hb; have n0_ := am (below_step (pb HB) hb); have n1_ := am (hbox); have n2_ := am ((by rw [hg]; exact (below_size (pb HB)) : w.heap.size ≤ gb146)); have n3_ := am ((by rw [hg]; exact (below_size (pb HB)) : w.heap.size ≤ gb146)); clear HB; have HB := n0_; have BK146 := n1_; have GW146 := n2_; have GE146 := n3_; clear n0_ n1_ n2_ n3_ hb hbox hg) | ((with_reducible refine gate_dst (N := 4) rfl ?_); refine box_event ?hg (N := 4) ?hd (cs := #[.int .i64 0, .slice none 0 0]) (t := 25) ?hr ?_; (case hd => rfl); (case hg => rfl); (case hr => first | (go_simp; done) | (go_simp; rfl)); intro gb147 hg w4 hbox hb; have n0_ := bb BK146 hb; have n1_ := am (below_step (pb HB) hb); have n2_ := am (hbox); have n3_ := am ((by rw [hg]; exact (below_size (pb HB)) : w.heap.size ≤ gb147)); have n4_ := am ((by rw [hg]; exact (below_size (pb HB)) : w.heap.size ≤ gb147)); have n5_ := am ((by rw [hg]; exact Nat.ne_of_lt (bl BK146) : gb146 ≠ gb147)); have n6_ := am ((by rw [hg]; exact Nat.ne_of_gt (bl BK146) : gb147 ≠ gb146)); clear BK146 HB; have BK146 := n0_; have HB := n1_; have BK147 := n2_; have GW147 := n3_; have GE147 := n4_; have NB146_147 := n5_; have NB147_146 := n6_; clear n0_ n1_ n2_ n3_ n4_ n5_ n6_ hb hbox hg; have hnb5 := NB146_147.out; have hnc5 := NB147_146.out; have hcz6_0 : w4.cell? ⟨gb146, 0, none⟩ = some (.int .i64 a0_0) := (blk_cell BK146.out 0).trans rfl; have hcz6_1 : w4.cell? ⟨gb146, 1, none⟩ = some (.slice A0_1 l0_1.length c0_1) := (blk_cell BK146.out 1).trans rfl; have hfz6_0 := blk_frozen BK146.out 0; have hfz6_1 := blk_frozen BK146.out 1))
 go_loopg [5, 15] k (fun kq v5 v15 w' => ∃ (x5_1 : List Int) (x15_1 : Int), v15 = .int .i64 x15_1 ∧ Aside0 (matrix_table_column.l0 kq a1 x5_1 l0_1 (l0_1.length : Int) x15_1 a0_0 l0_1 = some (r1, r2)) ∧ Aside0 (kq ≤ k) ∧ Aside0 (Kd.R (Kd.int .i64) 3 w' w.heap.size (fun _ => True) v5 x5_1) ∧ Aside0 (w'.heap[gb146]? = some (.cells #[.int .i64 a0_0, (.slice A0_1 l0_1.length c0_1)] 97 (0, 0))) ∧ Aside0 (w'.heap[gb147]? = some (.cells #[.int .i64 0, (.slice none 0 0)] 25 (0, 0))) ∧ Aside0 (Below w.heap.size w w'))
 case atStart => exact ⟨(([] : List Int)), (0), (by first | rfl | (simp; done) | (simp [*]; done)), H', ⟨Nat.le_refl _⟩, ⟨by first | exact Kd.R_nil _ _ _ _ _ | exact Kd.N_nil _ _ _ _ _ | exact Kd.V_nil _ _ _ _ _ | exact Kd.Q_nil _ _ _ _ _ | exact Kd.S_nil _ _ _ _ _⟩, ⟨by (with_reducible repeat (first | refine blk_drewN ?_ _ | refine blk_drew ?_ | refine blk_alloc ?_ _)); exact BK146.out⟩, ⟨by (with_reducible repeat (first | refine blk_drewN ?_ _ | refine blk_drew ?_ | refine blk_alloc ?_ _)); exact BK147.out⟩, ⟨pb HB⟩⟩
 case round =>
  clear H'
  try clear p2
  try clear c5
  try clear hcz6_0
  try clear hcz6_1
  try clear hfz6_0
  try clear hfz6_1
  obtain ⟨x5_1, x15_1, rfl, HA, HK1, HO_5, BK146, BK147, HB⟩ := hrel
  cases gk with
  | zero => exact absurd HA.out (by simp [matrix_table_column.l0])
  | succ k1 =>
   have H := HA.out
   clear HA
   simp only [matrix_table_column.l0] at H
   by_cases c7 : x15_1 < (l0_1.length : Int)
   ·
    rw [if_pos c7] at H
    have c7b0 : decide (x15_1 < (l0_1.length : Int)) = true := decide_eq_true c7
    clear c7
    by_cases c8 : 0 ≤ x15_1
    ·
     rw [if_pos c8] at H
     have c8b0 : decide (0 ≤ x15_1) = true := decide_eq_true c8
     clear c8
     by_cases c9 : x15_1 < (l0_1.length : Int)
     ·
      rw [if_pos c9] at H
      have c9b0 : decide (x15_1 < (l0_1.length : Int)) = true := decide_eq_true c9
      clear c9
      replace H := Option.bind_eq_some_iff.mp H
      obtain ⟨⟨t150, t151⟩, A100, H⟩ := H
      replace H : (if t150 = 1 then (if x5_1.length < 17592186044416 then (matrix_table_column.l0 k1 a1 (x5_1 ++ [x15_1]) l0_1 (l0_1.length : Int) (wrap64 (x15_1 + 1)) a0_0 l0_1) else (none)) else (matrix_table_column.l0 k1 a1 x5_1 l0_1 (l0_1.length : Int) (wrap64 (x15_1 + 1)) a0_0 l0_1)) = some (r1, r2) := H
      have A10 := Aside0.mk A100
      clear A100
      by_cases c11 : t150 = 1
      ·
       rw [if_pos c11] at H
       have c11b0 : (t150 == 1) = true := beq_iff_eq.mpr c11
       have c11b1 : (t150 != 1) = false := bne_eq_false_iff_eq.mpr c11
       clear c11
       by_cases c12 : x5_1.length < 17592186044416
       ·
        rw [if_pos c12] at H
        have LMc12 := Aside0.mk c12
        clear c12
        obtain ⟨y152, hy152⟩ : ∃ y_ : List Int, y_ = (x5_1 ++ [x15_1]) := ⟨_, rfl⟩
        replace H : (matrix_table_column.l0 k1 a1 y152 l0_1 (l0_1.length : Int) (wrap64 (x15_1 + 1)) a0_0 l0_1) = some (r1, r2) := by first | (rw [hy152]; with_reducible exact H) | (have H2_ := (Option.bind_some _ _).symm.trans H; rw [hy152]; with_reducible exact H2_) | (have H2_ := (Option.bind_some _ _).symm.trans H; with_reducible exact H2_) | with_reducible exact H | (rw [hy152]; exact H) | exact H
        have Ny152 := Aside0.mk hy152
        clear hy152
        have H' := Aside0.mk H
        clear H
        have p148 : 0 ≤ (x15_1 : Int) := of_decide_eq_true (by first | (with_reducible assumption) | assumption)
        have q148 : x15_1 < (l0_1.length : Int) := of_decide_eq_true (by first | (with_reducible assumption) | assumption)
        obtain ⟨ad148, A148_1, c148_1, e148, hx148_0, hx148_1, hl148_1, hi148_1⟩ := at_T25 HR0_1.out x15_1 p148 q148
        cases e148
        replace hx148_0 := (HB.out.cell (World.block_lt_of_cell? w _ hx148_0)).trans hx148_0
        replace hx148_1 := (HB.out.cell (World.block_lt_of_cell? w _ hx148_1)).trans hx148_1
        have HR148_1 := Aside0.mk hi148_1
        have HC148_1 := Aside0.mk hl148_1
        clear hi148_1 hl148_1
        replace p148 := eq_true p148
        replace q148 := eq_true q148
        go_wp2_with (first | ((with_reducible refine gate_dst (N := 7) rfl ?_); refine box_event ?hg (N := 7) ?hd (cs := #[.int .i64 0, .slice none 0 0]) (t := 25) ?hr ?_; (case hd => rfl); (case hg => rfl); (case hr => first | (go_simp; done) | (go_simp; rfl)); intro gb149 hg w13 hbox hb; have n0_ := am (Kd.R_below (pr HO_5) hb); have n1_ := bb BK146 hb; have n2_ := bb BK147 hb; have n3_ := am (below_step (pb HB) hb); have n4_ := am (hbox); have n5_ := am ((by rw [hg]; exact (below_size (pb HB)) : w.heap.size ≤ gb149)); have n6_ := am ((by rw [hg]; exact (below_size (pb HB)) : w.heap.size ≤ gb149)); have n7_ := am ((by rw [hg]; exact Nat.ne_of_lt (bl BK146) : gb146 ≠ gb149)); have n8_ := am ((by rw [hg]; exact Nat.ne_of_gt (bl BK146) : gb149 ≠ gb146)); have n9_ := am ((by rw [hg]; exact Nat.ne_of_lt (bl BK147) : gb147 ≠ gb149)); have n10_ := am ((by rw [hg]; exact Nat.ne_of_gt (bl BK147) : gb149 ≠ gb147)); clear HO_5 BK146 BK147 HB; have HO_5 := n0_; have BK146 := n1_; have BK147 := n2_; have HB := n3_; have BK149 := n4_; have GW149 := n5_; have GE149 := n6_; have NB146_149 := n7_; have NB149_146 := n8_; have NB147_149 := n9_; have NB149_147 := n10_; clear n0_ n1_ n2_ n3_ n4_ n5_ n6_ n7_ n8_ n9_ n10_ hb hbox hg; have hnb14 := NB149_146.out; have hnc14 := NB146_149.out; have hnb15 := NB149_147.out; have hnc15 := NB147_149.out; have hcz16_0 : w13.cell? ⟨gb149, 0, none⟩ = some (.int .i64 0) := (blk_cell BK149.out 0).trans rfl; have hcz16_1 : w13.cell? ⟨gb149, 1, none⟩ = some (.slice none 0 0) := (blk_cell BK149.out 1).trans rfl; have hfz16_0 := blk_frozen BK149.out 0; have hfz16_1 := blk_frozen BK149.out 1) | ((with_reducible refine gate_callee (f := 22) rfl ?_); refine goesL_ (some 23) rfl rfl Tryd.func22 (by kernel_rfl) rfl #[.agg #[.int .i64 ((rd_T25 l0_1 x15_1).f0), .slice A148_1 ((rd_T25 l0_1 x15_1).f1).length c148_1], .int .i64 a1] rfl (by (try simp only [List.map_toArray, List.map_cons, List.map_nil]); first | done | rfl | (simp only [List.length_drop, List.length_take]; rfl)) ?_; (with_reducible refine (bitrow_Get.calls ((rd_T25 l0_1 x15_1).f0) _ _ ((rd_T25 l0_1 x15_1).f1) a1 t150 t151 _ ?side1 ?side2 A10.out).mono ?_); (case side1 => exact Kd.C_below HR148_1.out (pb HB)); (case side2 => exact HC148_1.out); rintro e w17 ⟨rfl, hb⟩; refine ⟨_, rfl, ?_⟩; have n0_ := am (Kd.R_below (by (with_reducible repeat (first | apply Kd.R_alloc | apply Kd.R_drewN | apply Kd.R_drew)); exact (Kd.R_mono (Kd.R_far (p := ⟨gb149, 1, none⟩) (Kd.R_far (p := ⟨gb149, 0, none⟩) (Kd.R_types HO_5.out BK149.out (by decide)) (fun _ hk => hk.2) (.int .i64 ((rd_T25 l0_1 x15_1).f0))) (fun _ hk => hk.2) (.slice A148_1 ((rd_T25 l0_1 x15_1).f1).length c148_1)) (fun _ h_ => h_.1))) hb); have n1_ := am (blk_below (g := gb146) (o := .cells #[.int .i64 a0_0, .slice (some ad148) l0_1.length c0_1] 97 (0, 0)) (by (with_reducible repeat (first | refine blk_drewN ?_ _ | refine blk_drew ?_ | refine blk_alloc ?_ _)); refine blk_far ?_ NB146_149.out _; (with_reducible repeat (first | refine blk_drewN ?_ _ | refine blk_drew ?_ | refine blk_alloc ?_ _)); refine blk_far ?_ NB146_149.out _; (with_reducible repeat (first | refine blk_drewN ?_ _ | refine blk_drew ?_ | refine blk_alloc ?_ _)); exact BK146.out) hb); have n2_ := am (blk_below (g := gb147) (o := .cells #[.int .i64 0, .slice none 0 0] 25 (0, 0)) (by (with_reducible repeat (first | refine blk_drewN ?_ _ | refine blk_drew ?_ | refine blk_alloc ?_ _)); refine blk_far ?_ NB147_149.out _; (with_reducible repeat (first | refine blk_drewN ?_ _ | refine blk_drew ?_ | refine blk_alloc ?_ _)); refine blk_far ?_ NB147_149.out _; (with_reducible repeat (first | refine blk_drewN ?_ _ | refine blk_drew ?_ | refine blk_alloc ?_ _)); exact BK147.out) hb); have n3_ := am (blk_below (g := gb149) (o := .cells #[.int .i64 ((rd_T25 l0_1 x15_1).f0), .slice A148_1 ((rd_T25 l0_1 x15_1).f1).length c148_1] 25 (0, 0)) (by (with_reducible repeat (first | refine blk_drewN ?_ _ | refine blk_drew ?_ | refine blk_alloc ?_ _)); refine blk_put (cs := #[.int .i64 ((rd_T25 l0_1 x15_1).f0), .slice none 0 0]) ?_ 1 _ rfl; (with_reducible repeat (first | refine blk_drewN ?_ _ | refine blk_drew ?_ | refine blk_alloc ?_ _)); refine blk_put (cs := #[.int .i64 0, .slice none 0 0]) ?_ 0 _ rfl; (with_reducible repeat (first | refine blk_drewN ?_ _ | refine blk_drew ?_ | refine blk_alloc ?_ _)); exact BK149.out) hb); have n4_ := am (below_step (pb HB) hb); clear HO_5 BK146 BK147 BK149 HB; have HO_5 := n0_; have BK146 := n1_; have BK147 := n2_; have BK149 := n3_; have HB := n4_; clear n0_ n1_ n2_ n3_ n4_; (try clear hb); (try clear hb2); (try clear hk); (try clear hi)) | ((with_reducible refine gate_builtin (b := .append) (xs := #[.tmp 28, .tmp 30]) rfl ?_); at_builtin; refine Kd.R_append (Kd.int .i64) (w0 := w) w.heap.size rfl (.tmp 28) (.tmp 30) 34 3 (.int .i64 0) 8 rfl Tryd.underlying34 info3 rfl (by decide) (by omega) u5 x5_1 x15_1 [.int .i64 x15_1] (fun _ => True) (fun _ => False) rfl rfl ?aP (fun _ hk => hk.elim) ?aF ?aO ?aB ?aS ?aL ?_; (case aP => exact rfl); (case aB => exact (pb HB)); (case aF => exact (fun _ _ => trivial)); (case aO => exact (pr HO_5)); (case aS => exact (below_size (pb HB))); (case aL => have := LMc12.out; omega); intro v153 w18 ho hb hg hat; rw [← Ny152.out] at ho; have n0_ := am (blk_grown (g := gb146) (o := .cells #[.int .i64 a0_0, .slice (some ad148) l0_1.length c0_1] 97 (0, 0)) (pk BK146) hg (Kd.R_ne HO_5.out BK146.out (by decide))); have n1_ := am (blk_grown (g := gb147) (o := .cells #[.int .i64 0, .slice none 0 0] 25 (0, 0)) (pk BK147) hg (Kd.R_ne HO_5.out BK147.out (by decide))); have n2_ := am (blk_grown (g := gb149) (o := .cells #[.int .i64 ((rd_T25 l0_1 x15_1).f0), .slice A148_1 ((rd_T25 l0_1 x15_1).f1).length c148_1] 25 (0, 0)) (pk BK149) hg (Kd.R_ne HO_5.out BK149.out (by decide))); have n3_ := am (hb); have n4_ := am (ho); clear BK146 BK147 BK149 HB HO_5; have BK146 := n0_; have BK147 := n1_; have BK149 := n2_; have HB := n3_; have HO154 := n4_; clear n0_ n1_ n2_ n3_ n4_ ho hb hg hat))
        go_roundg k1
        case measure => have := HK1.out; omega
        case rel => exact ⟨(y152), (wrap64 (x15_1 + 1)), (by first | rfl | (simp; done) | (simp [*]; done)), H', ⟨by have := HK1.out; omega⟩, ⟨by (with_reducible repeat (first | apply Kd.R_alloc | apply Kd.R_drewN | apply Kd.R_drew)); exact HO154.out⟩, ⟨by (with_reducible repeat (first | refine blk_drewN ?_ _ | refine blk_drew ?_ | refine blk_alloc ?_ _)); exact BK146.out⟩, ⟨by (with_reducible repeat (first | refine blk_drewN ?_ _ | refine blk_drew ?_ | refine blk_alloc ?_ _)); exact BK147.out⟩, ⟨pb HB⟩⟩
       ·
        rw [if_neg c12] at H
        exact absurd H (by simp)
      ·
       rw [if_neg c11] at H
       have c11b0 : (t150 == 1) = false := beq_eq_false_iff_ne.mpr c11
       have c11b1 : (t150 != 1) = true := bne_iff_ne.mpr c11
       have H' := Aside0.mk H
       clear H
       have p148 : 0 ≤ (x15_1 : Int) := of_decide_eq_true (by first | (with_reducible assumption) | assumption)
       have q148 : x15_1 < (l0_1.length : Int) := of_decide_eq_true (by first | (with_reducible assumption) | assumption)
       obtain ⟨ad148, A148_1, c148_1, e148, hx148_0, hx148_1, hl148_1, hi148_1⟩ := at_T25 HR0_1.out x15_1 p148 q148
       cases e148
       replace hx148_0 := (HB.out.cell (World.block_lt_of_cell? w _ hx148_0)).trans hx148_0
       replace hx148_1 := (HB.out.cell (World.block_lt_of_cell? w _ hx148_1)).trans hx148_1
       have HR148_1 := Aside0.mk hi148_1
       have HC148_1 := Aside0.mk hl148_1
       clear hi148_1 hl148_1
       replace p148 := eq_true p148
       replace q148 := eq_true q148
       go_wp2_with (first | ((with_reducible refine gate_dst (N := 7) rfl ?_); refine box_event ?hg (N := 7) ?hd (cs := #[.int .i64 0, .slice none 0 0]) (t := 25) ?hr ?_; (case hd => rfl); (case hg => rfl); (case hr => first | (go_simp; done) | (go_simp; rfl)); intro gb149 hg w19 hbox hb; have n0_ := am (Kd.R_below (pr HO_5) hb); have n1_ := bb BK146 hb; have n2_ := bb BK147 hb; have n3_ := am (below_step (pb HB) hb); have n4_ := am (hbox); have n5_ := am ((by rw [hg]; exact (below_size (pb HB)) : w.heap.size ≤ gb149)); have n6_ := am ((by rw [hg]; exact (below_size (pb HB)) : w.heap.size ≤ gb149)); have n7_ := am ((by rw [hg]; exact Nat.ne_of_lt (bl BK146) : gb146 ≠ gb149)); have n8_ := am ((by rw [hg]; exact Nat.ne_of_gt (bl BK146) : gb149 ≠ gb146)); have n9_ := am ((by rw [hg]; exact Nat.ne_of_lt (bl BK147) : gb147 ≠ gb149)); have n10_ := am ((by rw [hg]; exact Nat.ne_of_gt (bl BK147) : gb149 ≠ gb147)); clear HO_5 BK146 BK147 HB; have HO_5 := n0_; have BK146 := n1_; have BK147 := n2_; have HB := n3_; have BK149 := n4_; have GW149 := n5_; have GE149 := n6_; have NB146_149 := n7_; have NB149_146 := n8_; have NB147_149 := n9_; have NB149_147 := n10_; clear n0_ n1_ n2_ n3_ n4_ n5_ n6_ n7_ n8_ n9_ n10_ hb hbox hg; have hnb20 := NB149_146.out; have hnc20 := NB146_149.out; have hnb21 := NB149_147.out; have hnc21 := NB147_149.out; have hcz22_0 : w19.cell? ⟨gb149, 0, none⟩ = some (.int .i64 0) := (blk_cell BK149.out 0).trans rfl; have hcz22_1 : w19.cell? ⟨gb149, 1, none⟩ = some (.slice none 0 0) := (blk_cell BK149.out 1).trans rfl; have hfz22_0 := blk_frozen BK149.out 0; have hfz22_1 := blk_frozen BK149.out 1) | ((with_reducible refine gate_callee (f := 22) rfl ?_); refine goesL_ (some 23) rfl rfl Tryd.func22 (by kernel_rfl) rfl #[.agg #[.int .i64 ((rd_T25 l0_1 x15_1).f0), .slice A148_1 ((rd_T25 l0_1 x15_1).f1).length c148_1], .int .i64 a1] rfl (by (try simp only [List.map_toArray, List.map_cons, List.map_nil]); first | done | rfl | (simp only [List.length_drop, List.length_take]; rfl)) ?_; (with_reducible refine (bitrow_Get.calls ((rd_T25 l0_1 x15_1).f0) _ _ ((rd_T25 l0_1 x15_1).f1) a1 t150 t151 _ ?side1 ?side2 A10.out).mono ?_); (case side1 => exact Kd.C_below HR148_1.out (pb HB)); (case side2 => exact HC148_1.out); rintro e w23 ⟨rfl, hb⟩; refine ⟨_, rfl, ?_⟩; have n0_ := am (Kd.R_below (by (with_reducible repeat (first | apply Kd.R_alloc | apply Kd.R_drewN | apply Kd.R_drew)); exact (Kd.R_mono (Kd.R_far (p := ⟨gb149, 1, none⟩) (Kd.R_far (p := ⟨gb149, 0, none⟩) (Kd.R_types HO_5.out BK149.out (by decide)) (fun _ hk => hk.2) (.int .i64 ((rd_T25 l0_1 x15_1).f0))) (fun _ hk => hk.2) (.slice A148_1 ((rd_T25 l0_1 x15_1).f1).length c148_1)) (fun _ h_ => h_.1))) hb); have n1_ := am (blk_below (g := gb146) (o := .cells #[.int .i64 a0_0, .slice (some ad148) l0_1.length c0_1] 97 (0, 0)) (by (with_reducible repeat (first | refine blk_drewN ?_ _ | refine blk_drew ?_ | refine blk_alloc ?_ _)); refine blk_far ?_ NB146_149.out _; (with_reducible repeat (first | refine blk_drewN ?_ _ | refine blk_drew ?_ | refine blk_alloc ?_ _)); refine blk_far ?_ NB146_149.out _; (with_reducible repeat (first | refine blk_drewN ?_ _ | refine blk_drew ?_ | refine blk_alloc ?_ _)); exact BK146.out) hb); have n2_ := am (blk_below (g := gb147) (o := .cells #[.int .i64 0, .slice none 0 0] 25 (0, 0)) (by (with_reducible repeat (first | refine blk_drewN ?_ _ | refine blk_drew ?_ | refine blk_alloc ?_ _)); refine blk_far ?_ NB147_149.out _; (with_reducible repeat (first | refine blk_drewN ?_ _ | refine blk_drew ?_ | refine blk_alloc ?_ _)); refine blk_far ?_ NB147_149.out _; (with_reducible repeat (first | refine blk_drewN ?_ _ | refine blk_drew ?_ | refine blk_alloc ?_ _)); exact BK147.out) hb); have n3_ := am (blk_below (g := gb149) (o := .cells #[.int .i64 ((rd_T25 l0_1 x15_1).f0), .slice A148_1 ((rd_T25 l0_1 x15_1).f1).length c148_1] 25 (0, 0)) (by (with_reducible repeat (first | refine blk_drewN ?_ _ | refine blk_drew ?_ | refine blk_alloc ?_ _)); refine blk_put (cs := #[.int .i64 ((rd_T25 l0_1 x15_1).f0), .slice none 0 0]) ?_ 1 _ rfl; (with_reducible repeat (first | refine blk_drewN ?_ _ | refine blk_drew ?_ | refine blk_alloc ?_ _)); refine blk_put (cs := #[.int .i64 0, .slice none 0 0]) ?_ 0 _ rfl; (with_reducible repeat (first | refine blk_drewN ?_ _ | refine blk_drew ?_ | refine blk_alloc ?_ _)); exact BK149.out) hb); have n4_ := am (below_step (pb HB) hb); clear HO_5 BK146 BK147 BK149 HB; have HO_5 := n0_; have BK146 := n1_; have BK147 := n2_; have BK149 := n3_; have HB := n4_; clear n0_ n1_ n2_ n3_ n4_; (try clear hb); (try clear hb2); (try clear hk); (try clear hi)))
       go_roundg k1
       case measure => have := HK1.out; omega
       case rel => exact ⟨(x5_1), (wrap64 (x15_1 + 1)), (by first | rfl | (simp; done) | (simp [*]; done)), H', ⟨by have := HK1.out; omega⟩, ⟨by (with_reducible repeat (first | apply Kd.R_alloc | apply Kd.R_drewN | apply Kd.R_drew)); exact HO_5.out⟩, ⟨by (with_reducible repeat (first | refine blk_drewN ?_ _ | refine blk_drew ?_ | refine blk_alloc ?_ _)); exact BK146.out⟩, ⟨by (with_reducible repeat (first | refine blk_drewN ?_ _ | refine blk_drew ?_ | refine blk_alloc ?_ _)); exact BK147.out⟩, ⟨pb HB⟩⟩
     ·
      rw [if_neg c9] at H
      exact absurd H (by simp)
    ·
     rw [if_neg c8] at H
     exact absurd H (by simp)
   ·
    rw [if_neg c7] at H
    have c7b0 : decide (x15_1 < (l0_1.length : Int)) = false := decide_eq_false c7
    clear c7
    replace H := Option.bind_eq_some_iff.mp H
    obtain ⟨⟨t155, t156, t159⟩, A240, H⟩ := H
    replace H : (some (t155, t156)) = some (r1, r2) := H
    have A24 := Aside0.mk A240
    clear A240
    simp only [Option.some.injEq, Prod.mk.injEq] at H
    obtain ⟨rfl, rfl⟩ := H
    have hnb25 := NB146_147.out
    have hnc25 := NB147_146.out
    have hcz26_0 : wr.cell? ⟨gb146, 0, none⟩ = some (.int .i64 a0_0) := (blk_cell BK146.out 0).trans rfl
    have hcz26_1 : wr.cell? ⟨gb146, 1, none⟩ = some (.slice A0_1 l0_1.length c0_1) := (blk_cell BK146.out 1).trans rfl
    have hfz26_0 := blk_frozen BK146.out 0
    have hfz26_1 := blk_frozen BK146.out 1
    obtain ⟨Ao27, co27, eo27⟩ := Kd.R_slice HO_5.out
    subst eo27
    go_wp2_with (first | ((with_reducible refine gate_callee (f := 27) rfl ?_); refine goesL_ (some 38) rfl rfl Tryd.func27 (by kernel_rfl) rfl #[.int .i64 (l0_1.length : Int), .slice Ao27 x5_1.length co27] rfl (by (try simp only [List.map_toArray, List.map_cons, List.map_nil]); first | done | rfl | (simp only [List.length_drop, List.length_take]; rfl)) ?_; (with_reducible refine (bitrow_Of.calls k1 (l0_1.length : Int) _ _ x5_1 t155 t156 t159 _ ?side1 ?side2 A24.out).mono ?_); (case side1 => repeat (first | exact (Kd.R_reads' HO_5.out).2.2 | (with_reducible refine Kd.C_alloc ?_ _) | (with_reducible refine Kd.C_drewN ?_ _) | (with_reducible refine Kd.C_drew ?_))); (case side2 => exact (Kd.R_reads' HO_5.out).2.1); rintro e w28 ⟨v157, rfl, ho0, hb⟩; refine ⟨_, rfl, ?_⟩; have n0_ := am (Kd.R_below (pr HO_5) hb); have n1_ := am (Kd.R_lower ho0 (below_size (pb HB))); have n2_ := bb BK146 hb; have n3_ := bb BK147 hb; have n4_ := am (below_step (pb HB) hb); clear HO_5 BK146 BK147 HB; have HO_5 := n0_; have HO158 := n1_; have BK146 := n2_; have BK147 := n3_; have HB := n4_; clear n0_ n1_ n2_ n3_ n4_; (try clear hb); (try clear hb2); (try clear hk); (try clear hi); (try clear ho0)) | ((with_reducible refine gate_dst (N := 10) rfl ?_); refine box_event ?hg (N := 10) ?hd (cs := #[.int .i64 0, .slice none 0 0]) (t := 25) ?hr ?_; (case hd => rfl); (case hg => rfl); (case hr => first | (go_simp; done) | (go_simp; rfl)); intro gb160 hg w29 hbox hb; have n0_ := am (Kd.R_below (pr HO_5) hb); have n1_ := am (Kd.R_below (pr HO158) hb); have n2_ := bb BK146 hb; have n3_ := bb BK147 hb; have n4_ := am (below_step (pb HB) hb); have n5_ := am (hbox); have n6_ := am ((by rw [hg]; exact (below_size (pb HB)) : w.heap.size ≤ gb160)); have n7_ := am ((by rw [hg]; exact (below_size (pb HB)) : w.heap.size ≤ gb160)); have n8_ := am ((by rw [hg]; exact Nat.ne_of_lt (bl BK146) : gb146 ≠ gb160)); have n9_ := am ((by rw [hg]; exact Nat.ne_of_gt (bl BK146) : gb160 ≠ gb146)); have n10_ := am ((by rw [hg]; exact Nat.ne_of_lt (bl BK147) : gb147 ≠ gb160)); have n11_ := am ((by rw [hg]; exact Nat.ne_of_gt (bl BK147) : gb160 ≠ gb147)); clear HO_5 HO158 BK146 BK147 HB; have HO_5 := n0_; have HO158 := n1_; have BK146 := n2_; have BK147 := n3_; have HB := n4_; have BK160 := n5_; have GW160 := n6_; have GE160 := n7_; have NB146_160 := n8_; have NB160_146 := n9_; have NB147_160 := n10_; have NB160_147 := n11_; clear n0_ n1_ n2_ n3_ n4_ n5_ n6_ n7_ n8_ n9_ n10_ n11_ hb hbox hg; have hnb30 := NB160_146.out; have hnc30 := NB146_160.out; have hnb31 := NB160_147.out; have hnc31 := NB147_160.out; have hcz32_0 : w29.cell? ⟨gb160, 0, none⟩ = some (.int .i64 0) := (blk_cell BK160.out 0).trans rfl; have hcz32_1 : w29.cell? ⟨gb160, 1, none⟩ = some (.slice none 0 0) := (blk_cell BK160.out 1).trans rfl; have hfz32_0 := blk_frozen BK160.out 0; have hfz32_1 := blk_frozen BK160.out 1; obtain ⟨Ao33, co33, eo33⟩ := Kd.R_slice HO158.out; subst eo33; have hcz34_0 : w29.cell? ⟨gb147, 0, none⟩ = some (.int .i64 0) := (blk_cell BK147.out 0).trans rfl; have hcz34_1 : w29.cell? ⟨gb147, 1, none⟩ = some (.slice none 0 0) := (blk_cell BK147.out 1).trans rfl; have hfz34_0 := blk_frozen BK147.out 0; have hfz34_1 := blk_frozen BK147.out 1))
    refine bodyPost_ret (results_cell_row rfl _ _ gb147 25 #[.int .i64 t155, .slice Ao33 t156.length co33] (0, 0) _ rfl (by (with_reducible repeat (first | refine blk_drewN ?_ _ | refine blk_drew ?_ | refine blk_alloc ?_ _)); refine blk_put (cs := #[.int .i64 t155, .slice none 0 0]) ?_ 1 _ rfl; (with_reducible repeat (first | refine blk_drewN ?_ _ | refine blk_drew ?_ | refine blk_alloc ?_ _)); refine blk_put (cs := #[.int .i64 0, .slice none 0 0]) ?_ 0 _ rfl; (with_reducible repeat (first | refine blk_drewN ?_ _ | refine blk_drew ?_ | refine blk_alloc ?_ _)); refine blk_far ?_ NB147_160.out _; (with_reducible repeat (first | refine blk_drewN ?_ _ | refine blk_drew ?_ | refine blk_alloc ?_ _)); refine blk_far ?_ NB147_160.out _; (with_reducible repeat (first | refine blk_drewN ?_ _ | refine blk_drew ?_ | refine blk_alloc ?_ _)); exact BK147.out) Tryd.underlying25 rfl (by kernel_rfl)) rfl ?_
    exact ⟨_, by first | rfl | (simp [errW_none, errW_some] <;> rfl) | (simp [*, errW_none, errW_some] <;> rfl), by (with_reducible repeat (first | apply Kd.R_alloc | apply Kd.R_drewN | apply Kd.R_drew)); exact Kd.R_mono (Kd.R_far (p := ⟨gb147, 1, none⟩) (Kd.R_far (p := ⟨gb147, 0, none⟩) (Kd.R_far (p := ⟨gb160, 1, none⟩) (Kd.R_far (p := ⟨gb160, 0, none⟩) (Kd.R_types (Kd.R_types HO158.out BK160.out (by decide)) BK147.out (by decide)) (fun _ hk => hk.1.2) (.int .i64 t155)) (fun _ hk => hk.1.2) (.slice Ao33 t156.length co33)) (fun _ hk => hk.2) (.int .i64 t155)) (fun _ hk => hk.2) (.slice Ao33 t156.length co33)) (fun _ hk => trivial), pb HB⟩

/-! ### matrix_Turn_1: function 79 -/
def matrix_Turn_1.f (k : Nat) (a0 : Int) (a1_0 : Unit) (a2_0 : Int) (l2_1 : List (S25)) : Option (Int × List Int) := (matrix_table_column.f k a2_0 l2_1 a0).bind fun bt164 => (some (bt164.1, bt164.2))
theorem matrix_Turn_1.mono : ∀ a0 a1 a2 a3 k, LeO (matrix_Turn_1.f k a0 a1 a2 a3) (matrix_Turn_1.f (k + 1) a0 a1 a2 a3) := by
 intro a0 a1 a2 a3 k
 unfold matrix_Turn_1.f
 repeat' first
   | (with_reducible exact matrix_table_column.mono _ _ _ _)
   | (with_reducible exact LeO.refl _)
   | (with_reducible exact LeO.none _)
   | (with_reducible refine LeO.ite ?_ ?_)
   | (with_reducible refine LeO.bind ?_ (fun _ => ?_))
   | exact matrix_table_column.mono _ _ _ _
   | exact LeO.none _
   | refine LeO.ite ?_ ?_
   | refine LeO.bind ?_ (fun _ => ?_)
set_option maxHeartbeats 8000000 in
set_option maxRecDepth 100000 in
theorem matrix_Turn_1.calls (k : Nat) (a0 : Int) (gb1_ : Nat) (a1_0 : Unit) (gb2_ : Nat) (a2_0 : Int) (A2_1 : Option Addr) (c2_1 : Nat) (l2_1 : List (S25)) (r1 : Int) (r2 : List Int) (w : World) (hb1_ : w.heap[gb1_]? = some (.cells #[.func (.func 76) #[] #[]] 100 (0, 0))) (hb2_ : w.heap[gb2_]? = some (.cells #[.int .i64 a2_0, .slice A2_1 l2_1.length c2_1] 55 (0, 0))) (hr2_1 : Kd.C k25 w A2_1 l2_1.length l2_1) (hc2_1 : l2_1.length ≤ c2_1) (h : matrix_Turn_1.f k a0 a1_0 a2_0 l2_1 = some (r1, r2)) :
  Calls Tryd.prog 79 #[.int .i64 a0, .pointer (some ⟨gb1_, 0, none⟩), .pointer (some ⟨gb2_, 0, none⟩)] w fun e w' => ∃ v1_ : Value, e = .returned (.agg #[.int .i64 r1, v1_]) ∧ Kd.R (Kd.int .u64) 90 w' w.heap.size (fun _ => True) v1_ r2 ∧ Below w.heap.size w w' := by
 have hu25 := Tryd.underlying25
 have hu55 := Tryd.underlying55
 have HR2_1 := Aside0.mk hr2_1
 have HC2_1 := Aside0.mk hc2_1
 clear hr2_1 hc2_1
 have BK161 := Aside0.mk hb1_
 clear hb1_
 have BK162 := Aside0.mk hb2_
 clear hb2_
 have HB := am (Below.refl w.heap.size w)
 have H : ((matrix_table_column.f k a2_0 l2_1 a0).bind fun bt164 => (some (bt164.1, bt164.2))) = some (r1, r2) := h
 clear h
 replace H := Option.bind_eq_some_iff.mp H
 obtain ⟨⟨t164, t165⟩, A40, H⟩ := H
 replace H : (some (t164, t165)) = some (r1, r2) := H
 have A4 := Aside0.mk A40
 clear A40
 simp only [Option.some.injEq, Prod.mk.injEq] at H
 obtain ⟨rfl, rfl⟩ := H
 go_enter Tryd.func79, Tryd.ntmps79
 go_wp2_with (first | ((with_reducible refine gate_dst (N := 4) rfl ?_); refine box_event ?hg (N := 4) ?hd (cs := #[.int .i64 0, .slice none 0 0]) (t := 25) ?hr ?_; (case hd => rfl); (case hg => rfl); (case hr => first | (go_simp; done) | (go_simp; rfl)); intro gb163 hg w5 hbox hb; have n0_ := am (blk_below (g := gb1_) (o := .cells #[.func (.func 76) #[] #[]] 100 (0, 0)) (pk BK161) hb); have n1_ := am (blk_below (g := gb2_) (o := .cells #[.int .i64 a2_0, .slice A2_1 l2_1.length c2_1] 55 (0, 0)) (pk BK162) hb); have n2_ := am (below_step (pb HB) hb); have n3_ := am (hbox); have n4_ := am ((by rw [hg]; exact (below_size (pb HB)) : w.heap.size ≤ gb163)); have n5_ := am ((by rw [hg]; exact (below_size (pb HB)) : w.heap.size ≤ gb163)); have n6_ := am ((by rw [hg]; exact Nat.ne_of_lt (blk_lt (g := gb1_) (o := .cells #[.func (.func 76) #[] #[]] 100 (0, 0)) (pk BK161)) : gb1_ ≠ gb163)); have n7_ := am ((by rw [hg]; exact Nat.ne_of_gt (blk_lt (g := gb1_) (o := .cells #[.func (.func 76) #[] #[]] 100 (0, 0)) (pk BK161)) : gb163 ≠ gb1_)); have n8_ := am ((by rw [hg]; exact Nat.ne_of_lt (blk_lt (g := gb2_) (o := .cells #[.int .i64 a2_0, .slice A2_1 l2_1.length c2_1] 55 (0, 0)) (pk BK162)) : gb2_ ≠ gb163)); have n9_ := am ((by rw [hg]; exact Nat.ne_of_gt (blk_lt (g := gb2_) (o := .cells #[.int .i64 a2_0, .slice A2_1 l2_1.length c2_1] 55 (0, 0)) (pk BK162)) : gb163 ≠ gb2_)); clear BK161 BK162 HB; have BK161 := n0_; have BK162 := n1_; have HB := n2_; have BK163 := n3_; have GW163 := n4_; have GE163 := n5_; have NB161_163 := n6_; have NB163_161 := n7_; have NB162_163 := n8_; have NB163_162 := n9_; clear n0_ n1_ n2_ n3_ n4_ n5_ n6_ n7_ n8_ n9_ hb hbox hg; have hnb6 := NB161_163.out; have hnc6 := NB163_161.out; have hcz7_0 : w5.cell? ⟨gb1_, 0, none⟩ = some (.func (.func 76) #[] #[]) := (blk_cell BK161.out 0).trans rfl; have hfz7_0 := blk_frozen BK161.out 0; have hnb8 := NB162_163.out; have hnc8 := NB163_162.out; have hcz9_0 : w5.cell? ⟨gb2_, 0, none⟩ = some (.int .i64 a2_0) := (blk_cell BK162.out 0).trans rfl; have hcz9_1 : w5.cell? ⟨gb2_, 1, none⟩ = some (.slice A2_1 l2_1.length c2_1) := (blk_cell BK162.out 1).trans rfl; have hfz9_0 := blk_frozen BK162.out 0; have hfz9_1 := blk_frozen BK162.out 1) | ((with_reducible refine gate_calleeT (t := 5) rfl ?_); refine goesLT_ 5 (some 8) rfl rfl Tryd.func76 (by kernel_rfl) rfl #[.agg #[.int .i64 a2_0, .slice A2_1 l2_1.length c2_1], .int .i64 a0] #[] #[.agg #[.int .i64 a2_0, .slice A2_1 l2_1.length c2_1], .int .i64 a0] rfl (by rfl) (by (try simp only [List.map_toArray, List.map_cons, List.map_nil]); first | done | rfl | (simp only [List.length_drop, List.length_take]; rfl)) (by rfl) ?_; (with_reducible refine (matrix_table_column.calls k a2_0 _ _ l2_1 a0 t164 t165 _ ?side1 ?side2 A4.out).mono ?_); (case side1 => repeat (first | exact (Kd.C_below HR2_1.out HB.out) | (with_reducible refine Kd.C_alloc ?_ _) | (with_reducible refine Kd.C_drewN ?_ _) | (with_reducible refine Kd.C_drew ?_))); (case side2 => exact HC2_1.out); rintro e w10 ⟨v166, rfl, ho0, hb⟩; refine ⟨_, rfl, ?_⟩; have n0_ := am (Kd.R_lower ho0 (below_size (pb HB))); have n1_ := am (blk_below (g := gb1_) (o := .cells #[.func (.func 76) #[] #[]] 100 (0, 0)) (pk BK161) hb); have n2_ := am (blk_below (g := gb2_) (o := .cells #[.int .i64 a2_0, .slice A2_1 l2_1.length c2_1] 55 (0, 0)) (pk BK162) hb); have n3_ := bb BK163 hb; have n4_ := am (below_step (pb HB) hb); clear BK161 BK162 BK163 HB; have HO167 := n0_; have BK161 := n1_; have BK162 := n2_; have BK163 := n3_; have HB := n4_; clear n0_ n1_ n2_ n3_ n4_; (try clear hb); (try clear hb2); (try clear hk); (try clear hi); (try clear ho0); have hcz11_0 : w10.cell? ⟨gb163, 0, none⟩ = some (.int .i64 0) := (blk_cell BK163.out 0).trans rfl; have hcz11_1 : w10.cell? ⟨gb163, 1, none⟩ = some (.slice none 0 0) := (blk_cell BK163.out 1).trans rfl; have hfz11_0 := blk_frozen BK163.out 0; have hfz11_1 := blk_frozen BK163.out 1; obtain ⟨Ao12, co12, eo12⟩ := Kd.R_slice HO167.out; subst eo12))
 refine bodyPost_ret (results_cell_row rfl _ _ gb163 25 #[.int .i64 t164, .slice Ao12 t165.length co12] (0, 0) _ rfl (by (with_reducible repeat (first | refine blk_drewN ?_ _ | refine blk_drew ?_ | refine blk_alloc ?_ _)); refine blk_put (cs := #[.int .i64 t164, .slice none 0 0]) ?_ 1 _ rfl; (with_reducible repeat (first | refine blk_drewN ?_ _ | refine blk_drew ?_ | refine blk_alloc ?_ _)); refine blk_put (cs := #[.int .i64 0, .slice none 0 0]) ?_ 0 _ rfl; (with_reducible repeat (first | refine blk_drewN ?_ _ | refine blk_drew ?_ | refine blk_alloc ?_ _)); exact BK163.out) Tryd.underlying25 rfl (by kernel_rfl)) rfl ?_
 exact ⟨_, by first | rfl | (simp [errW_none, errW_some] <;> rfl) | (simp [*, errW_none, errW_some] <;> rfl), by (with_reducible repeat (first | apply Kd.R_alloc | apply Kd.R_drewN | apply Kd.R_drew)); exact Kd.R_mono (Kd.R_far (p := ⟨gb163, 1, none⟩) (Kd.R_far (p := ⟨gb163, 0, none⟩) (Kd.R_types HO167.out BK163.out (by decide)) (fun _ hk => hk.2) (.int .i64 t164)) (fun _ hk => hk.2) (.slice Ao12 t165.length co12)) (fun _ hk => trivial), pb HB⟩

end Go.Proofs.YtfcedhejbnoinaaDoor.PK
