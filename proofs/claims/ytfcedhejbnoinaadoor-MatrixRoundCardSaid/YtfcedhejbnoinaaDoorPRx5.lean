-- PRINTED by print.py (a twelfth state) out of the translation. Not trusted: Lean checks it.
import Derived.Test.YtfcedhejbnoinaaDoorPRx0
import Derived.Test.YtfcedhejbnoinaaDoorPRx1
import Derived.Test.YtfcedhejbnoinaaDoorPRx4
namespace Go.Proofs.YtfcedhejbnoinaaDoor.PR
open Go.RowKit Go.Proofs.YtfcedhejbnoinaaDoorW.PrintWords Go.Proofs.YtfcedhejbnoinaaDoorW.PrintLast Go.Proofs.YtfcedhejbnoinaaDoorW.PrintMore
open Bool renaming true → T, false → F
open List renaming setIfInBounds_toArray → q1, set_cons_zero → q2, set_cons_succ → q3
attribute [local go_sem] run_store_func max2_int min2_int max_two min_two max_three min_three max_four min_four   -- for this text's walks alone
set_option linter.unusedVariables false
set_option linter.unusedSimpArgs false

/-! ### block_Pick: function 12 -/
mutual
def block_Pick.j0 : Nat → Int → List ByteArray → List Int → Bool → Option (ByteArray × Int)
 | 0, _, _, _, _ => none
 | k + 1, x0, x1, x9, x33 => if x33 = true then (some ((⟨#[]⟩ : ByteArray), 1)) else (if 0 ≤ x0 then (if (x0 : Int).toNat ≤ 281474976710656 then (block_Pick.l0 k x1 (List.replicate (x0 : Int).toNat 0) x9 (x9.length : Int) 0) else (none)) else (none))
def block_Pick.l0 : Nat → List ByteArray → List Int → List Int → Int → Int → Option (ByteArray × Int)
 | 0, _, _, _, _, _ => none
 | k + 1, x1, x11, x36, x37, x38 => if x38 < x37 then (if 0 ≤ x38 then (if x38 < (x36.length : Int) then (if 0 ≤ (rd x36 x38) then (if (rd x36 x38) < (x1.length : Int) then ((block_into.f k x11 (rdOf ByteArray.empty x1 (rd x36 x38))).bind fun t224 => (block_Pick.l0 k x1 t224 x36 x37 (wrap64 (x38 + 1)))) else (none)) else (none)) else (none)) else (none)) else (some (strOfNums x11, 0))
end
def block_Pick.f (k : Nat) (a0 : Int) (l1 : List ByteArray) (a2_0 : Int) (l2_1 : List Int) : Option (ByteArray × Int) := (block_may.f k a0 l1).bind fun t214 => (if t214 = 0 then ((bitrow_Places.f a2_0 l2_1).bind fun bt215 => (if bt215.2 = 0 then (block_Pick.j0 k a0 l1 bt215.1 (a2_0 != (l1.length : Int))) else (block_Pick.j0 k a0 l1 bt215.1 true))) else (some ((⟨#[]⟩ : ByteArray), t214)))
theorem block_Pick.mono_l : ∀ k, (∀ y0 y1 y2 y3, LeO (block_Pick.j0 k y0 y1 y2 y3) (block_Pick.j0 (k + 1) y0 y1 y2 y3)) ∧ (∀ y0 y1 y2 y3 y4, LeO (block_Pick.l0 k y0 y1 y2 y3 y4) (block_Pick.l0 (k + 1) y0 y1 y2 y3 y4))
 | 0 => ⟨fun _ _ _ _ r h => by simp [block_Pick.j0] at h, fun _ _ _ _ _ r h => by simp [block_Pick.l0] at h⟩
 | k + 1 => by
  obtain ⟨ih0, ih1⟩ := block_Pick.mono_l k
  refine ⟨?_, ?_⟩
  ·
   intro y0 y1 y2 y3
   unfold block_Pick.j0
   repeat' first
   | (with_reducible exact ih0 _ _ _ _)
   | (with_reducible exact ih1 _ _ _ _ _)
   | (with_reducible exact block_into.mono _ _ _)
   | (with_reducible exact block_may.mono _ _ _)
   | (with_reducible exact LeO.refl _)
   | (with_reducible exact LeO.none _)
   | (with_reducible refine LeO.ite ?_ ?_)
   | (with_reducible refine LeO.bind ?_ (fun _ => ?_))
   | exact ih0 _ _ _ _
   | exact ih1 _ _ _ _ _
   | exact block_into.mono _ _ _
   | exact block_may.mono _ _ _
   | exact LeO.none _
   | refine LeO.ite ?_ ?_
   | refine LeO.bind ?_ (fun _ => ?_)
  ·
   intro y0 y1 y2 y3 y4
   unfold block_Pick.l0
   repeat' first
   | (with_reducible exact ih0 _ _ _ _)
   | (with_reducible exact ih1 _ _ _ _ _)
   | (with_reducible exact block_into.mono _ _ _)
   | (with_reducible exact block_may.mono _ _ _)
   | (with_reducible exact LeO.refl _)
   | (with_reducible exact LeO.none _)
   | (with_reducible refine LeO.ite ?_ ?_)
   | (with_reducible refine LeO.bind ?_ (fun _ => ?_))
   | exact ih0 _ _ _ _
   | exact ih1 _ _ _ _ _
   | exact block_into.mono _ _ _
   | exact block_may.mono _ _ _
   | exact LeO.none _
   | refine LeO.ite ?_ ?_
   | refine LeO.bind ?_ (fun _ => ?_)
theorem block_Pick.mono : ∀ a0 a1 a2 a3 k, LeO (block_Pick.f k a0 a1 a2 a3) (block_Pick.f (k + 1) a0 a1 a2 a3) := by
 intro a0 a1 a2 a3 k
 obtain ⟨ih0, ih1⟩ := block_Pick.mono_l k
 unfold block_Pick.f
 repeat' first
   | (with_reducible exact ih0 _ _ _ _)
   | (with_reducible exact ih1 _ _ _ _ _)
   | (with_reducible exact block_into.mono _ _ _)
   | (with_reducible exact block_may.mono _ _ _)
   | (with_reducible exact LeO.refl _)
   | (with_reducible exact LeO.none _)
   | (with_reducible refine LeO.ite ?_ ?_)
   | (with_reducible refine LeO.bind ?_ (fun _ => ?_))
   | exact ih0 _ _ _ _
   | exact ih1 _ _ _ _ _
   | exact block_into.mono _ _ _
   | exact block_may.mono _ _ _
   | exact LeO.none _
   | refine LeO.ite ?_ ?_
   | refine LeO.bind ?_ (fun _ => ?_)
set_option maxHeartbeats 8000000 in
set_option maxRecDepth 100000 in
theorem block_Pick.calls (k : Nat) (a0 : Int) (A1 : Option Addr) (c1 : Nat) (l1 : List ByteArray) (a2_0 : Int) (A2_1 : Option Addr) (c2_1 : Nat) (l2_1 : List Int) (r1 : ByteArray) (r2 : Int) (w : World) (hT_ : TabOk w) (hr1 : Kd.C Kd.string w A1 l1.length l1) (hc1 : l1.length ≤ c1) (hr2_1 : Kd.C (Kd.int .u64) w A2_1 l2_1.length l2_1) (hc2_1 : l2_1.length ≤ c2_1) (h : block_Pick.f k a0 l1 a2_0 l2_1 = some (r1, r2)) :
  Calls Tryd.prog 12 #[.int .i64 a0, .slice A1 l1.length c1, .agg #[.int .i64 a2_0, .slice A2_1 l2_1.length c2_1]] w fun e w' => e = .returned (.tuple #[.string r1, .int .i64 r2]) ∧ Below w.heap.size w w' := by
 have hu25 := Tryd.underlying25
 have HR1 := Aside0.mk hr1
 have HC1 := Aside0.mk hc1
 clear hr1 hc1
 have HR2_1 := Aside0.mk hr2_1
 have HC2_1 := Aside0.mk hc2_1
 clear hr2_1 hc2_1
 have HT := Aside0.mk hT_
 clear hT_
 have HB := am (Below.refl w.heap.size w)
 have H : ((block_may.f k a0 l1).bind fun t214 => (if t214 = 0 then ((bitrow_Places.f a2_0 l2_1).bind fun bt215 => (if bt215.2 = 0 then (block_Pick.j0 k a0 l1 bt215.1 (a2_0 != (l1.length : Int))) else (block_Pick.j0 k a0 l1 bt215.1 true))) else (some ((⟨#[]⟩ : ByteArray), t214)))) = some (r1, r2) := h
 clear h
 replace H := Option.bind_eq_some_iff.mp H
 obtain ⟨t214, A40, H⟩ := H
 replace H : (if t214 = 0 then ((bitrow_Places.f a2_0 l2_1).bind fun bt215 => (if bt215.2 = 0 then (block_Pick.j0 k a0 l1 bt215.1 (a2_0 != (l1.length : Int))) else (block_Pick.j0 k a0 l1 bt215.1 true))) else (some ((⟨#[]⟩ : ByteArray), t214))) = some (r1, r2) := H
 have A4 := Aside0.mk A40
 clear A40
 by_cases c5 : t214 = 0
 ·
  rw [if_pos c5] at H
  have c5b0 : (t214 == 0) = true := beq_iff_eq.mpr c5
  have c5b1 : (t214 != 0) = false := bne_eq_false_iff_eq.mpr c5
  clear c5
  replace H := Option.bind_eq_some_iff.mp H
  obtain ⟨⟨t215, t218⟩, A60, H⟩ := H
  replace H : (if t218 = 0 then (block_Pick.j0 k a0 l1 t215 (a2_0 != (l1.length : Int))) else (block_Pick.j0 k a0 l1 t215 true)) = some (r1, r2) := H
  have A6 := Aside0.mk A60
  clear A60
  have HC7 := Aside0.mk H
  clear H
  go_enter Tryd.func12, Tryd.ntmps12
  go_upto_region 5 with (first | ((with_reducible refine gate_dst (N := 5) rfl ?_); (try (refine gate_guard (by rfl) ?_; dsimp only)); refine box_event ?hg (N := 5) ?hd (cs := #[.int .i64 a2_0, .slice A2_1 l2_1.length c2_1]) (t := 25) ?hr ?_; (case hd => rfl); (case hg => rfl); (case hr => first | (go_simp; done) | (go_simp; rfl)); intro gb213 hg w8 hbox hb; have n0_ := am (below_step (pb HB) hb); have n1_ := am (hbox); have n2_ := am ((by rw [hg]; exact (below_size (pb HB)) : w.heap.size ≤ gb213)); have n3_ := am ((by rw [hg]; exact (below_size (pb HB)) : w.heap.size ≤ gb213)); clear HB; have HB := n0_; have BK213 := n1_; have GW213 := n2_; have GE213 := n3_; clear n0_ n1_ n2_ n3_ hb hbox hg) | ((with_reducible refine gate_callee (f := 60) rfl ?_); refine goesL_ (some 16) rfl rfl Tryd.func60 (by kernel_rfl) rfl #[.int .i64 a0, .slice A1 l1.length c1] rfl (by (try simp only [List.map_toArray, List.map_cons, List.map_nil]); first | done | rfl | (simp only [List.length_drop, List.length_take]; rfl)) ?_; (with_reducible refine (block_may.calls k a0 _ _ l1 t214 _ ?side1 ?side2 A4.out).mono ?_); (case side1 => repeat (first | exact (Kd.C_below HR1.out HB.out) | (with_reducible refine Kd.C_alloc ?_ _) | (with_reducible refine Kd.C_drewN ?_ _) | (with_reducible refine Kd.C_drew ?_))); (case side2 => exact HC1.out); rintro e w' ⟨rfl, ⟨nd, rfl⟩⟩; refine ⟨_, rfl, ?_⟩; have hcz9_0 : w8.cell? ⟨gb213, 0, none⟩ = some (.int .i64 a2_0) := (blk_cell BK213.out 0).trans rfl; have hcz9_1 : w8.cell? ⟨gb213, 1, none⟩ = some (.slice A2_1 l2_1.length c2_1) := (blk_cell BK213.out 1).trans rfl; have hfz9_0 := blk_frozen BK213.out 0; have hfz9_1 := blk_frozen BK213.out 1) | ((with_reducible refine gate_callee (f := 19) rfl ?_); refine goesL_ (some 22) rfl rfl Tryd.func19 (by kernel_rfl) rfl #[.agg #[.int .i64 a2_0, .slice A2_1 l2_1.length c2_1]] rfl (by (try simp only [List.map_toArray, List.map_cons, List.map_nil]); first | done | rfl | (simp only [List.length_drop, List.length_take]; rfl)) ?_; (with_reducible refine (bitrow_Places.calls a2_0 _ _ l2_1 t215 t218 _ ?side3 ?side1 ?side2 A6.out).mono ?_); (case side1 => repeat (first | exact (Kd.C_below HR2_1.out (pb HB)) | (with_reducible refine Kd.C_alloc ?_ _) | (with_reducible refine Kd.C_drewN ?_ _) | (with_reducible refine Kd.C_drew ?_))); (case side2 => exact HC2_1.out); (case side3 => exact TabOk.below HT.out (pb HB)); rintro e w10 ⟨v216, rfl, ho0, hb⟩; refine ⟨_, rfl, ?_⟩; have n0_ := am (Kd.R_lower ho0 (below_size (pb HB))); have n1_ := bb BK213 hb; have n2_ := am (below_step (pb HB) hb); clear BK213 HB; have HO217 := n0_; have BK213 := n1_; have HB := n2_; clear n0_ n1_ n2_; (try clear hb); (try clear hb2); (try clear hk); (try clear hi); (try clear ho0)))
  (try simp only [Act.put, q1, q2, q3])
  go_cut [33] (fun v33 wc => ∃ (kq : Nat) (x33_6 : Bool), v33 = .bool x33_6 ∧ Aside0 (block_Pick.j0 kq a0 l1 t215 x33_6 = some (r1, r2)) ∧ Aside0 (kq ≤ k) ∧ Aside0 (Kd.R (Kd.int .i64) 3 wc w.heap.size (fun _ => True) v216 t215) ∧ Aside0 (wc.heap[gb213]? = some (.cells #[.int .i64 a2_0, (.slice A2_1 l2_1.length c2_1)] 25 (0, 0))) ∧ Aside0 (Below w.heap.size w wc))
  case first =>
   have H := HC7.out
   clear HC7
   by_cases c11 : t218 = 0
   ·
    rw [if_pos c11] at H
    have c11b0 : (t218 == 0) = true := beq_iff_eq.mpr c11
    have c11b1 : (t218 != 0) = false := bne_eq_false_iff_eq.mpr c11
    clear c11
    (first | rw [c11b0] | (simp only [i64_w, i32_w]; rw [c11b0]) | skip)
    have H' := Aside0.mk H
    clear H
    have hcz12_0 : w10.cell? ⟨gb213, 0, none⟩ = some (.int .i64 a2_0) := (blk_cell BK213.out 0).trans rfl
    have hcz12_1 : w10.cell? ⟨gb213, 1, none⟩ = some (.slice A2_1 l2_1.length c2_1) := (blk_cell BK213.out 1).trans rfl
    have hfz12_0 := blk_frozen BK213.out 0
    have hfz12_1 := blk_frozen BK213.out 1
    go_wp2
    go_meet
    case rel => exact ⟨_, ((a2_0 != (l1.length : Int))), (by first | rfl | (simp; done) | (simp [*]; done)), H', ⟨by first | omega | exact Nat.le_refl _⟩, ⟨by (with_reducible repeat (first | apply Kd.R_alloc | apply Kd.R_drewN | apply Kd.R_drew)); exact HO217.out⟩, ⟨by (with_reducible repeat (first | refine blk_drewN ?_ _ | refine blk_drew ?_ | refine blk_alloc ?_ _)); exact BK213.out⟩, ⟨pb HB⟩⟩
   ·
    rw [if_neg c11] at H
    have c11b0 : (t218 == 0) = false := beq_eq_false_iff_ne.mpr c11
    have c11b1 : (t218 != 0) = true := bne_iff_ne.mpr c11
    (first | rw [c11b0] | (simp only [i64_w, i32_w]; rw [c11b0]) | skip)
    have H' := Aside0.mk H
    clear H
    go_wp2
    go_meet
    case rel => exact ⟨_, (true), (by first | rfl | (simp; done) | (simp [*]; done)), H', ⟨by first | omega | exact Nat.le_refl _⟩, ⟨by (with_reducible repeat (first | apply Kd.R_alloc | apply Kd.R_drewN | apply Kd.R_drew)); exact HO217.out⟩, ⟨by (with_reducible repeat (first | refine blk_drewN ?_ _ | refine blk_drew ?_ | refine blk_alloc ?_ _)); exact BK213.out⟩, ⟨pb HB⟩⟩
  case rest =>
   clear HC7
   try clear c1
   try clear c2
   try clear p2
   try clear c5
   try clear c5b0
   try clear c5b1
   try clear c6
   try clear c11
   try clear c11b0
   try clear c11b1
   try clear c12
   try clear hcz12_0
   try clear hcz12_1
   try clear hcz9_0
   try clear hcz9_1
   try clear hfz12_0
   try clear hfz12_1
   try clear hfz9_0
   try clear hfz9_1
   obtain ⟨kq, x33_6, rfl, HA, HJ6, HO_9, BK213, HB⟩ := hcut
   cases kq with
   | zero => exact absurd HA.out (by simp [block_Pick.j0])
   | succ kj6 =>
    have H := HA.out
    clear HA
    simp only [block_Pick.j0] at H
    by_cases c13 : x33_6 = true
    ·
     subst c13
     have H1 : (some ((⟨#[]⟩ : ByteArray), 1)) = some (r1, r2) := by rw [if_pos rfl] at H; exact H
     clear H
     have H := H1
     clear H1
     simp only [Option.some.injEq, Prod.mk.injEq] at H
     obtain ⟨rfl, rfl⟩ := H
     go_wp2
     go_ret2
     exact ⟨by first | rfl | (simp [errW_none, errW_some] <;> rfl) | (simp [*, errW_none, errW_some] <;> rfl), pb HB⟩
    ·
     replace c13 := Bool.eq_false_iff.mpr c13
     subst c13
     have H1 : (if 0 ≤ a0 then (if (a0 : Int).toNat ≤ 281474976710656 then (block_Pick.l0 kj6 l1 (List.replicate (a0 : Int).toNat 0) t215 (t215.length : Int) 0) else (none)) else (none)) = some (r1, r2) := by rw [if_neg (show ¬ (false = true) by decide)] at H; exact H
     clear H
     have H := H1
     clear H1
     by_cases c14 : 0 ≤ a0
     ·
      rw [if_pos c14] at H
      have c14b0 := eq_true c14
      have c14b1 : decide (0 ≤ a0) = true := decide_eq_true c14
      clear c14
      by_cases c15 : (a0 : Int).toNat ≤ 281474976710656
      ·
       rw [if_pos c15] at H
       have c15b0 := eq_true c15
       have c15b1 : decide ((a0 : Int).toNat ≤ 281474976710656) = true := decide_eq_true c15
       clear c15
       obtain ⟨y219, hy219⟩ : ∃ y_ : List Int, y_ = (List.replicate (a0 : Int).toNat 0) := ⟨_, rfl⟩
       replace H : (block_Pick.l0 kj6 l1 y219 t215 (t215.length : Int) 0) = some (r1, r2) := by first | (rw [hy219]; with_reducible exact H) | (have H2_ := (Option.bind_some _ _).symm.trans H; rw [hy219]; with_reducible exact H2_) | (have H2_ := (Option.bind_some _ _).symm.trans H; with_reducible exact H2_) | with_reducible exact H | (rw [hy219]; exact H) | exact H
       have Ny219 := Aside0.mk hy219
       clear hy219
       have H' := Aside0.mk H
       clear H
       go_wp2_with (first | ((with_reducible refine gate_dst (N := 35) rfl ?_); (try (refine gate_guard (by rfl) ?_; dsimp only)); refine Kd.R_make (Kd.int .u8) _ 5 rfl (N := 35) rfl 83 _ _ rfl a0 rfl rfl Tryd.underlying83 (.int .u8 0) 1 info5 rfl (by decide) (by omega) 0 (ok := fun _ => True) (okp := fun _ => True) rfl (fun _ hk => hk) trivial (of_decide_eq_true (by first | (with_reducible assumption) | assumption)) (Nat.le_trans (Nat.mul_le_mul_right _ (of_decide_eq_true (by first | (with_reducible assumption) | assumption) : a0.toNat ≤ 281474976710656)) (by omega)) (Below.refl _ _) (Nat.le_refl _) ?_; intro v220 w16 ho17 hb hg_ hnew_; clear hg_ hnew_; (first | rw [← Ny219.out] at ho17 | (simp only [Int.reduceToNat] at ho17; rw [← Ny219.out] at ho17)); have n0_ := am (Kd.R_below (pr HO_9) hb); have n1_ := am (Kd.R_lower ho17 (below_size (pb HB))); have n2_ := bb BK213 hb; have n3_ := am (below_step (pb HB) hb); clear HO_9 BK213 HB; have HO_9 := n0_; have HO221 := n1_; have BK213 := n2_; have HB := n3_; clear n0_ n1_ n2_ n3_ hb ho17; obtain ⟨Ao18, co18, eo18⟩ := Kd.R_slice HO_9.out; subst eo18))
       go_loopg [38] kj6 (fun kq v38 w' => ∃ (x11_2 : List Int) (x38_2 : Int), v38 = .int .i64 x38_2 ∧ Aside0 (block_Pick.l0 kq l1 x11_2 t215 (t215.length : Int) x38_2 = some (r1, r2)) ∧ Aside0 (kq ≤ kj6) ∧ Aside0 (Kd.R (Kd.int .u8) 5 w' w.heap.size (fun _ => True) v220 x11_2) ∧ Aside0 (Kd.R (Kd.int .i64) 3 w' w.heap.size (fun _ => True) (.slice Ao18 t215.length co18) t215) ∧ Aside0 (w'.heap[gb213]? = some (.cells #[.int .i64 a2_0, (.slice A2_1 l2_1.length c2_1)] 25 (0, 0))) ∧ Aside0 (Below w.heap.size w w'))
       case atStart => exact ⟨(y219), (0), (by first | rfl | (simp; done) | (simp [*]; done)), H', ⟨Nat.le_refl _⟩, ⟨by (with_reducible repeat (first | apply Kd.R_alloc | apply Kd.R_drewN | apply Kd.R_drew)); exact HO221.out⟩, ⟨by (with_reducible repeat (first | apply Kd.R_alloc | apply Kd.R_drewN | apply Kd.R_drew)); exact HO_9.out⟩, ⟨by (with_reducible repeat (first | refine blk_drewN ?_ _ | refine blk_drew ?_ | refine blk_alloc ?_ _)); exact BK213.out⟩, ⟨pb HB⟩⟩
       case round =>
        clear H'
        try clear c1
        try clear c2
        try clear p2
        try clear c5
        try clear c5b0
        try clear c5b1
        try clear c6
        try clear c11
        try clear c11b0
        try clear c11b1
        try clear c12
        try clear c13
        try clear c14
        try clear c14b0
        try clear c14b1
        try clear c15
        try clear c15b0
        try clear c15b1
        try clear hcz12_0
        try clear hcz12_1
        try clear hcz9_0
        try clear hcz9_1
        try clear hfz12_0
        try clear hfz12_1
        try clear hfz9_0
        try clear hfz9_1
        try clear p2
        obtain ⟨x11_2, x38_2, rfl, HA, HK2, HO_11, HO_36, BK213, HB⟩ := hrel
        cases gk with
        | zero => exact absurd HA.out (by simp [block_Pick.l0])
        | succ k2 =>
         have H := HA.out
         clear HA
         simp only [block_Pick.l0] at H
         by_cases c19 : x38_2 < (t215.length : Int)
         ·
          rw [if_pos c19] at H
          have c19b0 : decide (x38_2 < (t215.length : Int)) = true := decide_eq_true c19
          clear c19
          by_cases c20 : 0 ≤ x38_2
          ·
           rw [if_pos c20] at H
           have c20b0 : decide (0 ≤ x38_2) = true := decide_eq_true c20
           clear c20
           by_cases c21 : x38_2 < (t215.length : Int)
           ·
            rw [if_pos c21] at H
            have c21b0 : decide (x38_2 < (t215.length : Int)) = true := decide_eq_true c21
            clear c21
            by_cases c22 : 0 ≤ (rd t215 x38_2)
            ·
             rw [if_pos c22] at H
             have c22b0 : decide (0 ≤ (rd t215 x38_2)) = true := decide_eq_true c22
             clear c22
             by_cases c23 : (rd t215 x38_2) < (l1.length : Int)
             ·
              rw [if_pos c23] at H
              have c23b0 : decide ((rd t215 x38_2) < (l1.length : Int)) = true := decide_eq_true c23
              clear c23
              replace H := Option.bind_eq_some_iff.mp H
              obtain ⟨t224, A240, H⟩ := H
              replace H : (block_Pick.l0 k2 l1 t224 t215 (t215.length : Int) (wrap64 (x38_2 + 1))) = some (r1, r2) := H
              have A24 := Aside0.mk A240
              clear A240
              have H' := Aside0.mk H
              clear H
              have p222 : 0 ≤ (x38_2 : Int) := of_decide_eq_true (by first | (with_reducible assumption) | assumption)
              have q222 : x38_2 < (t215.length : Int) := of_decide_eq_true (by first | (with_reducible assumption) | assumption)
              obtain ⟨ad222, e222, hx222_0⟩ := Kd.at_int (Kd.R_reads' HO_36.out).2.2 x38_2 p222 q222
              cases e222
              replace p222 := eq_true p222
              replace q222 := eq_true q222
              have p223 : 0 ≤ ((rd t215 x38_2) : Int) := of_decide_eq_true (by first | (with_reducible assumption) | assumption)
              have q223 : (rd t215 x38_2) < (l1.length : Int) := of_decide_eq_true (by first | (with_reducible assumption) | assumption)
              obtain ⟨ad223, e223, hx223_0⟩ := Kd.at_string HR1.out (rd t215 x38_2) p223 q223
              cases e223
              replace hx223_0 := (HB.out.cell (World.block_lt_of_cell? w _ hx223_0)).trans hx223_0
              replace p223 := eq_true p223
              replace q223 := eq_true q223
              obtain ⟨Ao25, co25, eo25⟩ := Kd.R_slice HO_11.out
              subst eo25
              go_wp2_with (first | ((with_reducible refine gate_callee (f := 61) rfl ?_); refine goesL_ (some 47) rfl rfl Tryd.func61 (by kernel_rfl) rfl #[.slice Ao25 x11_2.length co25, .string (rdOf ByteArray.empty l1 (rd t215 x38_2))] rfl (by (try simp only [List.map_toArray, List.map_cons, List.map_nil]); first | done | rfl | (simp only [List.length_drop, List.length_take]; rfl)) ?_; (with_reducible refine (block_into.calls k2 (fun k_ => some k_ = (.slice Ao25 x11_2.length co25 : Value).ownBlock) (.slice Ao25 x11_2.length co25) x11_2 (rdOf ByteArray.empty l1 (rd t215 x38_2)) t224 w _ ?side1 ?side2 A24.out).mono ?_); (case side1 => repeat (first | (with_reducible first | exact HB.out | apply below_alloc | apply pw_below_drewN | apply below_drew1 | refine below_set ?_ GE213.out) | exact HB.out)); (case side2 => exact Kd.R_tight rfl HO_11.out); rintro e w26 ⟨rfl, hy0, hb, hkp⟩; refine ⟨_, rfl, ?_⟩; have n0_ := am (Kd.R_reok rfl hy0 (fun k_ e_ => HO_11.out.1 k_ e_)); have n1_ := am (Kd.R_mono (ok' := fun k_ => True) (Kd.R_keptB ((Kd.R_apart' HO_36.out (Kd.R_typed HO_11.out) (by decide))) hkp (fun k_ hk_ hs_ => (hk_.2) hs_)) (fun k_ hk_ => trivial)); have n2_ := am (blk_kept (pk BK213) hkp (fun hs_ => (fun e_ => (Kd.R_ne HO_11.out BK213.out (by decide)) e_) hs_)); have n3_ := am (hb); clear HO_11 HO_36 BK213 HB; have HO_11 := n0_; have HO_36 := n1_; have BK213 := n2_; have HB := n3_; clear n0_ n1_ n2_ n3_; (try clear hb); (try clear hkp); (try clear hy0)))
              go_roundg k2
              case measure => have := HJ6.out; have := HK2.out; omega
              case rel => exact ⟨(t224), (wrap64 (x38_2 + 1)), (by first | rfl | (simp; done) | (simp [*]; done)), H', ⟨by have := HJ6.out; have := HK2.out; omega⟩, ⟨by (with_reducible repeat (first | apply Kd.R_alloc | apply Kd.R_drewN | apply Kd.R_drew)); exact HO_11.out⟩, ⟨by (with_reducible repeat (first | apply Kd.R_alloc | apply Kd.R_drewN | apply Kd.R_drew)); exact HO_36.out⟩, ⟨by (with_reducible repeat (first | refine blk_drewN ?_ _ | refine blk_drew ?_ | refine blk_alloc ?_ _)); exact BK213.out⟩, ⟨pb HB⟩⟩
             ·
              rw [if_neg c23] at H
              exact absurd H (by simp)
            ·
             rw [if_neg c22] at H
             exact absurd H (by simp)
           ·
            rw [if_neg c21] at H
            exact absurd H (by simp)
          ·
           rw [if_neg c20] at H
           exact absurd H (by simp)
         ·
          rw [if_neg c19] at H
          have c19b0 : decide (x38_2 < (t215.length : Int)) = false := decide_eq_false c19
          clear c19
          simp only [Option.some.injEq, Prod.mk.injEq] at H
          obtain ⟨rfl, rfl⟩ := H
          have hcv27 := own_string (P := Tryd.prog) Tryd.underlying83 Tryd.underlying5 Tryd.underlying9 (Kd.own_of_R HO_11.out)
          go_wp2
          go_ret2
          exact ⟨by first | rfl | (simp [errW_none, errW_some] <;> rfl) | (simp [*, errW_none, errW_some] <;> rfl), pb HB⟩
      ·
       rw [if_neg c15] at H
       exact absurd H (by simp)
     ·
      rw [if_neg c14] at H
      exact absurd H (by simp)
 ·
  rw [if_neg c5] at H
  have c5b0 : (t214 == 0) = false := beq_eq_false_iff_ne.mpr c5
  have c5b1 : (t214 != 0) = true := bne_iff_ne.mpr c5
  simp only [Option.some.injEq, Prod.mk.injEq] at H
  obtain ⟨rfl, rfl⟩ := H
  go_enter Tryd.func12, Tryd.ntmps12
  go_wp2_with (first | ((with_reducible refine gate_dst (N := 5) rfl ?_); (try (refine gate_guard (by rfl) ?_; dsimp only)); refine box_event ?hg (N := 5) ?hd (cs := #[.int .i64 a2_0, .slice A2_1 l2_1.length c2_1]) (t := 25) ?hr ?_; (case hd => rfl); (case hg => rfl); (case hr => first | (go_simp; done) | (go_simp; rfl)); intro gb213 hg w28 hbox hb; have n0_ := am (below_step (pb HB) hb); have n1_ := am (hbox); have n2_ := am ((by rw [hg]; exact (below_size (pb HB)) : w.heap.size ≤ gb213)); have n3_ := am ((by rw [hg]; exact (below_size (pb HB)) : w.heap.size ≤ gb213)); clear HB; have HB := n0_; have BK213 := n1_; have GW213 := n2_; have GE213 := n3_; clear n0_ n1_ n2_ n3_ hb hbox hg) | ((with_reducible refine gate_callee (f := 60) rfl ?_); refine goesL_ (some 16) rfl rfl Tryd.func60 (by kernel_rfl) rfl #[.int .i64 a0, .slice A1 l1.length c1] rfl (by (try simp only [List.map_toArray, List.map_cons, List.map_nil]); first | done | rfl | (simp only [List.length_drop, List.length_take]; rfl)) ?_; (with_reducible refine (block_may.calls k a0 _ _ l1 t214 _ ?side1 ?side2 A4.out).mono ?_); (case side1 => repeat (first | exact (Kd.C_below HR1.out HB.out) | (with_reducible refine Kd.C_alloc ?_ _) | (with_reducible refine Kd.C_drewN ?_ _) | (with_reducible refine Kd.C_drew ?_))); (case side2 => exact HC1.out); rintro e w' ⟨rfl, ⟨nd, rfl⟩⟩; refine ⟨_, rfl, ?_⟩))
  go_ret2
  exact ⟨by first | rfl | (simp [errW_none, errW_some] <;> rfl) | (simp [*, errW_none, errW_some] <;> rfl), pb HB⟩

/-! ### block_Sum: function 32 -/
def block_Sum.l0 : Nat → List Int → List ByteArray → Int → Int → Option (ByteArray × Int)
 | 0, _, _, _, _ => none
 | k + 1, x7, x18, x19, x20 => if x20 < x19 then (if 0 ≤ x20 then (if x20 < (x18.length : Int) then ((block_into.f k x7 (rdOf ByteArray.empty x18 x20)).bind fun t230 => (block_Sum.l0 k t230 x18 x19 (wrap64 (x20 + 1)))) else (none)) else (none)) else (some (strOfNums x7, 0))
def block_Sum.f (k : Nat) (a0 : Int) (l1 : List ByteArray) : Option (ByteArray × Int) := (block_may.f k a0 l1).bind fun t225 => (if t225 = 0 then (if 0 ≤ a0 then (if (a0 : Int).toNat ≤ 281474976710656 then (block_Sum.l0 k (List.replicate (a0 : Int).toNat 0) l1 (l1.length : Int) 0) else (none)) else (none)) else (some ((⟨#[]⟩ : ByteArray), t225)))
theorem block_Sum.mono_l : ∀ k, (∀ y0 y1 y2 y3, LeO (block_Sum.l0 k y0 y1 y2 y3) (block_Sum.l0 (k + 1) y0 y1 y2 y3))
 | 0 => fun _ _ _ _ r h => by simp [block_Sum.l0] at h
 | k + 1 => by
  have ih0 := block_Sum.mono_l k
  ·
   intro y0 y1 y2 y3
   unfold block_Sum.l0
   repeat' first
   | (with_reducible exact ih0 _ _ _ _)
   | (with_reducible exact block_into.mono _ _ _)
   | (with_reducible exact block_may.mono _ _ _)
   | (with_reducible exact LeO.refl _)
   | (with_reducible exact LeO.none _)
   | (with_reducible refine LeO.ite ?_ ?_)
   | (with_reducible refine LeO.bind ?_ (fun _ => ?_))
   | exact ih0 _ _ _ _
   | exact block_into.mono _ _ _
   | exact block_may.mono _ _ _
   | exact LeO.none _
   | refine LeO.ite ?_ ?_
   | refine LeO.bind ?_ (fun _ => ?_)
theorem block_Sum.mono : ∀ a0 a1 k, LeO (block_Sum.f k a0 a1) (block_Sum.f (k + 1) a0 a1) := by
 intro a0 a1 k
 have ih0 := block_Sum.mono_l k
 unfold block_Sum.f
 repeat' first
   | (with_reducible exact ih0 _ _ _ _)
   | (with_reducible exact block_into.mono _ _ _)
   | (with_reducible exact block_may.mono _ _ _)
   | (with_reducible exact LeO.refl _)
   | (with_reducible exact LeO.none _)
   | (with_reducible refine LeO.ite ?_ ?_)
   | (with_reducible refine LeO.bind ?_ (fun _ => ?_))
   | exact ih0 _ _ _ _
   | exact block_into.mono _ _ _
   | exact block_may.mono _ _ _
   | exact LeO.none _
   | refine LeO.ite ?_ ?_
   | refine LeO.bind ?_ (fun _ => ?_)
set_option maxHeartbeats 8000000 in
set_option maxRecDepth 100000 in
theorem block_Sum.calls (k : Nat) (a0 : Int) (A1 : Option Addr) (c1 : Nat) (l1 : List ByteArray) (r1 : ByteArray) (r2 : Int) (w : World) (hr1 : Kd.C Kd.string w A1 l1.length l1) (hc1 : l1.length ≤ c1) (h : block_Sum.f k a0 l1 = some (r1, r2)) :
  Calls Tryd.prog 32 #[.int .i64 a0, .slice A1 l1.length c1] w fun e w' => e = .returned (.tuple #[.string r1, .int .i64 r2]) ∧ Below w.heap.size w w' := by
 have HR1 := Aside0.mk hr1
 have HC1 := Aside0.mk hc1
 clear hr1 hc1
 have HB := am (Below.refl w.heap.size w)
 have H : ((block_may.f k a0 l1).bind fun t225 => (if t225 = 0 then (if 0 ≤ a0 then (if (a0 : Int).toNat ≤ 281474976710656 then (block_Sum.l0 k (List.replicate (a0 : Int).toNat 0) l1 (l1.length : Int) 0) else (none)) else (none)) else (some ((⟨#[]⟩ : ByteArray), t225)))) = some (r1, r2) := h
 clear h
 replace H := Option.bind_eq_some_iff.mp H
 obtain ⟨t225, A30, H⟩ := H
 replace H : (if t225 = 0 then (if 0 ≤ a0 then (if (a0 : Int).toNat ≤ 281474976710656 then (block_Sum.l0 k (List.replicate (a0 : Int).toNat 0) l1 (l1.length : Int) 0) else (none)) else (none)) else (some ((⟨#[]⟩ : ByteArray), t225))) = some (r1, r2) := H
 have A3 := Aside0.mk A30
 clear A30
 by_cases c4 : t225 = 0
 ·
  rw [if_pos c4] at H
  have c4b0 : (t225 == 0) = true := beq_iff_eq.mpr c4
  have c4b1 : (t225 != 0) = false := bne_eq_false_iff_eq.mpr c4
  clear c4
  by_cases c5 : 0 ≤ a0
  ·
   rw [if_pos c5] at H
   have c5b0 := eq_true c5
   have c5b1 : decide (0 ≤ a0) = true := decide_eq_true c5
   clear c5
   by_cases c6 : (a0 : Int).toNat ≤ 281474976710656
   ·
    rw [if_pos c6] at H
    have c6b0 := eq_true c6
    have c6b1 : decide ((a0 : Int).toNat ≤ 281474976710656) = true := decide_eq_true c6
    clear c6
    obtain ⟨y226, hy226⟩ : ∃ y_ : List Int, y_ = (List.replicate (a0 : Int).toNat 0) := ⟨_, rfl⟩
    replace H : (block_Sum.l0 k y226 l1 (l1.length : Int) 0) = some (r1, r2) := by first | (rw [hy226]; with_reducible exact H) | (have H2_ := (Option.bind_some _ _).symm.trans H; rw [hy226]; with_reducible exact H2_) | (have H2_ := (Option.bind_some _ _).symm.trans H; with_reducible exact H2_) | with_reducible exact H | (rw [hy226]; exact H) | exact H
    have Ny226 := Aside0.mk hy226
    clear hy226
    have H' := Aside0.mk H
    clear H
    go_enter Tryd.func32, Tryd.ntmps32
    go_wp2_with (first | ((with_reducible refine gate_callee (f := 60) rfl ?_); refine goesL_ (some 12) rfl rfl Tryd.func60 (by kernel_rfl) rfl #[.int .i64 a0, .slice A1 l1.length c1] rfl (by (try simp only [List.map_toArray, List.map_cons, List.map_nil]); first | done | rfl | (simp only [List.length_drop, List.length_take]; rfl)) ?_; (with_reducible refine (block_may.calls k a0 _ _ l1 t225 _ ?side1 ?side2 A3.out).mono ?_); (case side1 => repeat (first | exact HR1.out | (with_reducible refine Kd.C_alloc ?_ _) | (with_reducible refine Kd.C_drewN ?_ _) | (with_reducible refine Kd.C_drew ?_))); (case side2 => exact HC1.out); rintro e w' ⟨rfl, ⟨nd, rfl⟩⟩; refine ⟨_, rfl, ?_⟩) | ((with_reducible refine gate_dst (N := 17) rfl ?_); refine Kd.R_make (Kd.int .u8) _ 5 rfl (N := 17) rfl 83 _ _ rfl a0 rfl rfl Tryd.underlying83 (.int .u8 0) 1 info5 rfl (by decide) (by omega) 0 (ok := fun _ => True) (okp := fun _ => True) rfl (fun _ hk => hk) trivial (of_decide_eq_true (by first | (with_reducible assumption) | assumption)) (Nat.le_trans (Nat.mul_le_mul_right _ (of_decide_eq_true (by first | (with_reducible assumption) | assumption) : a0.toNat ≤ 281474976710656)) (by omega)) (Below.refl _ _) (Nat.le_refl _) ?_; intro v227 w7 ho8 hb hg_ hnew_; clear hg_ hnew_; (first | rw [← Ny226.out] at ho8 | (simp only [Int.reduceToNat] at ho8; rw [← Ny226.out] at ho8)); have n0_ := am (Kd.R_lower ho8 (below_size (pb HB))); have n1_ := am (below_step (pb HB) hb); clear HB; have HO228 := n0_; have HB := n1_; clear n0_ n1_ hb ho8))
    go_loopg [20] k (fun kq v20 w' => ∃ (x7_1 : List Int) (x20_1 : Int), v20 = .int .i64 x20_1 ∧ Aside0 (block_Sum.l0 kq x7_1 l1 (l1.length : Int) x20_1 = some (r1, r2)) ∧ Aside0 (kq ≤ k) ∧ Aside0 (Kd.R (Kd.int .u8) 5 w' w.heap.size (fun _ => True) v227 x7_1) ∧ Aside0 (Below w.heap.size w w'))
    case atStart => exact ⟨(y226), (0), (by first | rfl | (simp; done) | (simp [*]; done)), H', ⟨Nat.le_refl _⟩, ⟨by (with_reducible repeat (first | apply Kd.R_alloc | apply Kd.R_drewN | apply Kd.R_drew)); exact HO228.out⟩, ⟨pb HB⟩⟩
    case round =>
     clear H'
     try clear c1
     try clear p2
     try clear c3
     try clear c4
     try clear c4b0
     try clear c4b1
     try clear c5
     try clear c5b0
     try clear c5b1
     try clear c6
     try clear c6b0
     try clear c6b1
     obtain ⟨x7_1, x20_1, rfl, HA, HK1, HO_7, HB⟩ := hrel
     cases gk with
     | zero => exact absurd HA.out (by simp [block_Sum.l0])
     | succ k1 =>
      have H := HA.out
      clear HA
      simp only [block_Sum.l0] at H
      by_cases c9 : x20_1 < (l1.length : Int)
      ·
       rw [if_pos c9] at H
       have c9b0 : decide (x20_1 < (l1.length : Int)) = true := decide_eq_true c9
       clear c9
       by_cases c10 : 0 ≤ x20_1
       ·
        rw [if_pos c10] at H
        have c10b0 : decide (0 ≤ x20_1) = true := decide_eq_true c10
        clear c10
        by_cases c11 : x20_1 < (l1.length : Int)
        ·
         rw [if_pos c11] at H
         have c11b0 : decide (x20_1 < (l1.length : Int)) = true := decide_eq_true c11
         clear c11
         replace H := Option.bind_eq_some_iff.mp H
         obtain ⟨t230, A120, H⟩ := H
         replace H : (block_Sum.l0 k1 t230 l1 (l1.length : Int) (wrap64 (x20_1 + 1))) = some (r1, r2) := H
         have A12 := Aside0.mk A120
         clear A120
         have H' := Aside0.mk H
         clear H
         have p229 : 0 ≤ (x20_1 : Int) := of_decide_eq_true (by first | (with_reducible assumption) | assumption)
         have q229 : x20_1 < (l1.length : Int) := of_decide_eq_true (by first | (with_reducible assumption) | assumption)
         obtain ⟨ad229, e229, hx229_0⟩ := Kd.at_string HR1.out x20_1 p229 q229
         cases e229
         replace hx229_0 := (HB.out.cell (World.block_lt_of_cell? w _ hx229_0)).trans hx229_0
         replace p229 := eq_true p229
         replace q229 := eq_true q229
         obtain ⟨Ao13, co13, eo13⟩ := Kd.R_slice HO_7.out
         subst eo13
         go_wp2_with (first | ((with_reducible refine gate_callee (f := 61) rfl ?_); refine goesL_ (some 26) rfl rfl Tryd.func61 (by kernel_rfl) rfl #[.slice Ao13 x7_1.length co13, .string (rdOf ByteArray.empty l1 x20_1)] rfl (by (try simp only [List.map_toArray, List.map_cons, List.map_nil]); first | done | rfl | (simp only [List.length_drop, List.length_take]; rfl)) ?_; (with_reducible refine (block_into.calls k1 (fun k_ => some k_ = (.slice Ao13 x7_1.length co13 : Value).ownBlock) (.slice Ao13 x7_1.length co13) x7_1 (rdOf ByteArray.empty l1 x20_1) t230 w _ ?side1 ?side2 A12.out).mono ?_); (case side1 => repeat (first | (with_reducible first | exact HB.out | apply below_alloc | apply pw_below_drewN | apply below_drew1) | exact HB.out)); (case side2 => exact Kd.R_tight rfl HO_7.out); rintro e w14 ⟨rfl, hy0, hb, hkp⟩; refine ⟨_, rfl, ?_⟩; have n0_ := am (Kd.R_reok rfl hy0 (fun k_ e_ => HO_7.out.1 k_ e_)); have n1_ := am (hb); clear HO_7 HB; have HO_7 := n0_; have HB := n1_; clear n0_ n1_; (try clear hb); (try clear hkp); (try clear hy0)))
         go_roundg k1
         case measure => have := HK1.out; omega
         case rel => exact ⟨(t230), (wrap64 (x20_1 + 1)), (by first | rfl | (simp; done) | (simp [*]; done)), H', ⟨by have := HK1.out; omega⟩, ⟨by (with_reducible repeat (first | apply Kd.R_alloc | apply Kd.R_drewN | apply Kd.R_drew)); exact HO_7.out⟩, ⟨pb HB⟩⟩
        ·
         rw [if_neg c11] at H
         exact absurd H (by simp)
       ·
        rw [if_neg c10] at H
        exact absurd H (by simp)
      ·
       rw [if_neg c9] at H
       have c9b0 : decide (x20_1 < (l1.length : Int)) = false := decide_eq_false c9
       clear c9
       simp only [Option.some.injEq, Prod.mk.injEq] at H
       obtain ⟨rfl, rfl⟩ := H
       have hcv15 := own_string (P := Tryd.prog) Tryd.underlying83 Tryd.underlying5 Tryd.underlying9 (Kd.own_of_R HO_7.out)
       go_wp2
       go_ret2
       exact ⟨by first | rfl | (simp [errW_none, errW_some] <;> rfl) | (simp [*, errW_none, errW_some] <;> rfl), pb HB⟩
   ·
    rw [if_neg c6] at H
    exact absurd H (by simp)
  ·
   rw [if_neg c5] at H
   exact absurd H (by simp)
 ·
  rw [if_neg c4] at H
  have c4b0 : (t225 == 0) = false := beq_eq_false_iff_ne.mpr c4
  have c4b1 : (t225 != 0) = true := bne_iff_ne.mpr c4
  simp only [Option.some.injEq, Prod.mk.injEq] at H
  obtain ⟨rfl, rfl⟩ := H
  go_enter Tryd.func32, Tryd.ntmps32
  go_wp2_with (first | ((with_reducible refine gate_callee (f := 60) rfl ?_); refine goesL_ (some 12) rfl rfl Tryd.func60 (by kernel_rfl) rfl #[.int .i64 a0, .slice A1 l1.length c1] rfl (by (try simp only [List.map_toArray, List.map_cons, List.map_nil]); first | done | rfl | (simp only [List.length_drop, List.length_take]; rfl)) ?_; (with_reducible refine (block_may.calls k a0 _ _ l1 t225 _ ?side1 ?side2 A3.out).mono ?_); (case side1 => repeat (first | exact HR1.out | (with_reducible refine Kd.C_alloc ?_ _) | (with_reducible refine Kd.C_drewN ?_ _) | (with_reducible refine Kd.C_drew ?_))); (case side2 => exact HC1.out); rintro e w' ⟨rfl, ⟨nd, rfl⟩⟩; refine ⟨_, rfl, ?_⟩))
  go_ret2
  exact ⟨by first | rfl | (simp [errW_none, errW_some] <;> rfl) | (simp [*, errW_none, errW_some] <;> rfl), pb HB⟩

/-! ### matrix_Apply: function 37 -/
def matrix_Apply.l0 : Nat → Int → List ByteArray → List ByteArray → List (S25) → Int → Int → Option (List ByteArray × Int)
 | 0, _, _, _, _, _, _ => none
 | k + 1, x1, x2, x10, x33, x34, x35 => if x35 < x34 then (if 0 ≤ x35 then (if x35 < (x33.length : Int) then ((block_Pick.f k x1 x2 ((rd_T25 x33 x35).f0) ((rd_T25 x33 x35).f1)).bind fun bt237 => (if x10.length < 8796093022208 then (matrix_Apply.l0 k x1 x2 (x10 ++ [bt237.1]) x33 x34 (wrap64 (x35 + 1))) else (none))) else (none)) else (none)) else (some (x10, 0))
def matrix_Apply.f (k : Nat) (a0_0 : Int) (l0_1 : List (S25)) (a1 : Int) (l2 : List ByteArray) : Option (List ByteArray × Int) := (matrix_Right.f k a0_0 l0_1).bind fun t232 => (if t232 = true then ((block_Sum.f k a1 l2).bind fun bt233 => (if bt233.2 = 0 then (if (l2.length : Int) = a0_0 then (matrix_Apply.l0 k a1 l2 ([] : List ByteArray) l0_1 (l0_1.length : Int) 0) else (some (([] : List ByteArray), 2))) else (some (([] : List ByteArray), bt233.2)))) else (some (([] : List ByteArray), 1)))
theorem matrix_Apply.mono_l : ∀ k, (∀ y0 y1 y2 y3 y4 y5, LeO (matrix_Apply.l0 k y0 y1 y2 y3 y4 y5) (matrix_Apply.l0 (k + 1) y0 y1 y2 y3 y4 y5))
 | 0 => fun _ _ _ _ _ _ r h => by simp [matrix_Apply.l0] at h
 | k + 1 => by
  have ih0 := matrix_Apply.mono_l k
  ·
   intro y0 y1 y2 y3 y4 y5
   unfold matrix_Apply.l0
   repeat' first
   | (with_reducible exact ih0 _ _ _ _ _ _)
   | (with_reducible exact block_Pick.mono _ _ _ _ _)
   | (with_reducible exact block_Sum.mono _ _ _)
   | (with_reducible exact matrix_Right.mono _ _ _)
   | (with_reducible exact LeO.refl _)
   | (with_reducible exact LeO.none _)
   | (with_reducible refine LeO.ite ?_ ?_)
   | (with_reducible refine LeO.bind ?_ (fun _ => ?_))
   | exact ih0 _ _ _ _ _ _
   | exact block_Pick.mono _ _ _ _ _
   | exact block_Sum.mono _ _ _
   | exact matrix_Right.mono _ _ _
   | exact LeO.none _
   | refine LeO.ite ?_ ?_
   | refine LeO.bind ?_ (fun _ => ?_)
theorem matrix_Apply.mono : ∀ a0 a1 a2 a3 k, LeO (matrix_Apply.f k a0 a1 a2 a3) (matrix_Apply.f (k + 1) a0 a1 a2 a3) := by
 intro a0 a1 a2 a3 k
 have ih0 := matrix_Apply.mono_l k
 unfold matrix_Apply.f
 repeat' first
   | (with_reducible exact ih0 _ _ _ _ _ _)
   | (with_reducible exact block_Pick.mono _ _ _ _ _)
   | (with_reducible exact block_Sum.mono _ _ _)
   | (with_reducible exact matrix_Right.mono _ _ _)
   | (with_reducible exact LeO.refl _)
   | (with_reducible exact LeO.none _)
   | (with_reducible refine LeO.ite ?_ ?_)
   | (with_reducible refine LeO.bind ?_ (fun _ => ?_))
   | exact ih0 _ _ _ _ _ _
   | exact block_Pick.mono _ _ _ _ _
   | exact block_Sum.mono _ _ _
   | exact matrix_Right.mono _ _ _
   | exact LeO.none _
   | refine LeO.ite ?_ ?_
   | refine LeO.bind ?_ (fun _ => ?_)
set_option maxHeartbeats 8000000 in
set_option maxRecDepth 100000 in
theorem matrix_Apply.calls (k : Nat) (a0_0 : Int) (A0_1 : Option Addr) (c0_1 : Nat) (l0_1 : List (S25)) (a1 : Int) (A2 : Option Addr) (c2 : Nat) (l2 : List ByteArray) (r1 : List ByteArray) (r2 : Int) (w : World) (hT_ : TabOk w) (hr0_1 : Kd.C k25 w A0_1 l0_1.length l0_1) (hc0_1 : l0_1.length ≤ c0_1) (hr2 : Kd.C Kd.string w A2 l2.length l2) (hc2 : l2.length ≤ c2) (h : matrix_Apply.f k a0_0 l0_1 a1 l2 = some (r1, r2)) :
  Calls Tryd.prog 37 #[.agg #[.int .i64 a0_0, .slice A0_1 l0_1.length c0_1], .int .i64 a1, .slice A2 l2.length c2] w fun e w' => ∃ v0_ : Value, e = .returned (.tuple #[v0_, .int .i64 r2]) ∧ Kd.R Kd.string 9 w' w.heap.size (fun _ => True) v0_ r1 ∧ Below w.heap.size w w' := by
 have hu55 := Tryd.underlying55
 have hu25 := Tryd.underlying25
 have HR0_1 := Aside0.mk hr0_1
 have HC0_1 := Aside0.mk hc0_1
 clear hr0_1 hc0_1
 have HR2 := Aside0.mk hr2
 have HC2 := Aside0.mk hc2
 clear hr2 hc2
 have HT := Aside0.mk hT_
 clear hT_
 have HB := am (Below.refl w.heap.size w)
 have H : ((matrix_Right.f k a0_0 l0_1).bind fun t232 => (if t232 = true then ((block_Sum.f k a1 l2).bind fun bt233 => (if bt233.2 = 0 then (if (l2.length : Int) = a0_0 then (matrix_Apply.l0 k a1 l2 ([] : List ByteArray) l0_1 (l0_1.length : Int) 0) else (some (([] : List ByteArray), 2))) else (some (([] : List ByteArray), bt233.2)))) else (some (([] : List ByteArray), 1)))) = some (r1, r2) := h
 clear h
 replace H := Option.bind_eq_some_iff.mp H
 obtain ⟨t232, A40, H⟩ := H
 replace H : (if t232 = true then ((block_Sum.f k a1 l2).bind fun bt233 => (if bt233.2 = 0 then (if (l2.length : Int) = a0_0 then (matrix_Apply.l0 k a1 l2 ([] : List ByteArray) l0_1 (l0_1.length : Int) 0) else (some (([] : List ByteArray), 2))) else (some (([] : List ByteArray), bt233.2)))) else (some (([] : List ByteArray), 1))) = some (r1, r2) := H
 have A4 := Aside0.mk A40
 clear A40
 by_cases c5 : t232 = true
 ·
  subst c5
  have H1 : ((block_Sum.f k a1 l2).bind fun bt233 => (if bt233.2 = 0 then (if (l2.length : Int) = a0_0 then (matrix_Apply.l0 k a1 l2 ([] : List ByteArray) l0_1 (l0_1.length : Int) 0) else (some (([] : List ByteArray), 2))) else (some (([] : List ByteArray), bt233.2)))) = some (r1, r2) := by rw [if_pos rfl] at H; exact H
  clear H
  have H := H1
  clear H1
  replace H := Option.bind_eq_some_iff.mp H
  obtain ⟨⟨t233, t234⟩, A60, H⟩ := H
  replace H : (if t234 = 0 then (if (l2.length : Int) = a0_0 then (matrix_Apply.l0 k a1 l2 ([] : List ByteArray) l0_1 (l0_1.length : Int) 0) else (some (([] : List ByteArray), 2))) else (some (([] : List ByteArray), t234))) = some (r1, r2) := H
  have A6 := Aside0.mk A60
  clear A60
  by_cases c7 : t234 = 0
  ·
   rw [if_pos c7] at H
   have c7b0 : (t234 == 0) = true := beq_iff_eq.mpr c7
   have c7b1 : (t234 != 0) = false := bne_eq_false_iff_eq.mpr c7
   clear c7
   by_cases c8 : (l2.length : Int) = a0_0
   ·
    rw [if_pos c8] at H
    have c8b0 : ((l2.length : Int) == a0_0) = true := beq_iff_eq.mpr c8
    have c8b1 : ((l2.length : Int) != a0_0) = false := bne_eq_false_iff_eq.mpr c8
    clear c8
    have H' := Aside0.mk H
    clear H
    go_enter Tryd.func37, Tryd.ntmps37
    go_wp2_with (first | ((with_reducible refine gate_dst (N := 3) rfl ?_); refine box_event ?hg (N := 3) ?hd (cs := #[.int .i64 a0_0, .slice A0_1 l0_1.length c0_1]) (t := 55) ?hr ?_; (case hd => rfl); (case hg => rfl); (case hr => first | (go_simp; done) | (go_simp; rfl)); intro gb231 hg w9 hbox hb; have n0_ := am (below_step (pb HB) hb); have n1_ := am (hbox); have n2_ := am ((by rw [hg]; exact (below_size (pb HB)) : w.heap.size ≤ gb231)); have n3_ := am ((by rw [hg]; exact (below_size (pb HB)) : w.heap.size ≤ gb231)); clear HB; have HB := n0_; have BK231 := n1_; have GW231 := n2_; have GE231 := n3_; clear n0_ n1_ n2_ n3_ hb hbox hg; have hcz10_0 : w9.cell? ⟨gb231, 0, none⟩ = some (.int .i64 a0_0) := (blk_cell BK231.out 0).trans rfl; have hcz10_1 : w9.cell? ⟨gb231, 1, none⟩ = some (.slice A0_1 l0_1.length c0_1) := (blk_cell BK231.out 1).trans rfl; have hfz10_0 := blk_frozen BK231.out 0; have hfz10_1 := blk_frozen BK231.out 1) | ((with_reducible refine gate_callee (f := 71) rfl ?_); refine goesL_ (some 16) rfl rfl Tryd.func71 (by kernel_rfl) rfl #[.agg #[.int .i64 a0_0, .slice A0_1 l0_1.length c0_1]] rfl (by (try simp only [List.map_toArray, List.map_cons, List.map_nil]); first | done | rfl | (simp only [List.length_drop, List.length_take]; rfl)) ?_; (with_reducible refine (matrix_Right.calls k a0_0 _ _ l0_1 true _ ?side1 ?side2 A4.out).mono ?_); (case side1 => repeat (first | exact (Kd.C_below HR0_1.out HB.out) | (with_reducible refine Kd.C_alloc ?_ _) | (with_reducible refine Kd.C_drewN ?_ _) | (with_reducible refine Kd.C_drew ?_))); (case side2 => exact HC0_1.out); rintro e w11 ⟨rfl, hb⟩; refine ⟨_, rfl, ?_⟩; have n0_ := bb BK231 hb; have n1_ := am (below_step (pb HB) hb); clear BK231 HB; have BK231 := n0_; have HB := n1_; clear n0_ n1_; (try clear hb); (try clear hb2); (try clear hk); (try clear hi)) | ((with_reducible refine gate_callee (f := 32) rfl ?_); refine goesL_ (some 21) rfl rfl Tryd.func32 (by kernel_rfl) rfl #[.int .i64 a1, .slice A2 l2.length c2] rfl (by (try simp only [List.map_toArray, List.map_cons, List.map_nil]); first | done | rfl | (simp only [List.length_drop, List.length_take]; rfl)) ?_; (with_reducible refine (block_Sum.calls k a1 _ _ l2 t233 t234 _ ?side1 ?side2 A6.out).mono ?_); (case side1 => repeat (first | exact (Kd.C_below HR2.out HB.out) | (with_reducible refine Kd.C_alloc ?_ _) | (with_reducible refine Kd.C_drewN ?_ _) | (with_reducible refine Kd.C_drew ?_))); (case side2 => exact HC2.out); rintro e w12 ⟨rfl, hb⟩; refine ⟨_, rfl, ?_⟩; have n0_ := bb BK231 hb; have n1_ := am (below_step (pb HB) hb); clear BK231 HB; have BK231 := n0_; have HB := n1_; clear n0_ n1_; (try clear hb); (try clear hb2); (try clear hk); (try clear hi); have hcz13_0 : w12.cell? ⟨gb231, 0, none⟩ = some (.int .i64 a0_0) := (blk_cell BK231.out 0).trans rfl; have hcz13_1 : w12.cell? ⟨gb231, 1, none⟩ = some (.slice A0_1 l0_1.length c0_1) := (blk_cell BK231.out 1).trans rfl; have hfz13_0 := blk_frozen BK231.out 0; have hfz13_1 := blk_frozen BK231.out 1))
    go_loopg [10, 35] k (fun kq v10 v35 w' => ∃ (x10_1 : List ByteArray) (x35_1 : Int), v35 = .int .i64 x35_1 ∧ Aside0 (matrix_Apply.l0 kq a1 l2 x10_1 l0_1 (l0_1.length : Int) x35_1 = some (r1, r2)) ∧ Aside0 (kq ≤ k) ∧ Aside0 (Kd.R Kd.string 9 w' w.heap.size (fun _ => True) v10 x10_1) ∧ Aside0 (w'.heap[gb231]? = some (.cells #[.int .i64 a0_0, (.slice A0_1 l0_1.length c0_1)] 55 (0, 0))) ∧ Aside0 (Below w.heap.size w w'))
    case atStart => exact ⟨(([] : List ByteArray)), (0), (by first | rfl | (simp; done) | (simp [*]; done)), H', ⟨Nat.le_refl _⟩, ⟨by first | exact Kd.R_nil _ _ _ _ _ | exact Kd.N_nil _ _ _ _ _ | exact Kd.V_nil _ _ _ _ _ | exact Kd.Q_nil _ _ _ _ _ | exact Kd.S_nil _ _ _ _ _⟩, ⟨by (with_reducible repeat (first | refine blk_drewN ?_ _ | refine blk_drew ?_ | refine blk_alloc ?_ _)); exact BK231.out⟩, ⟨pb HB⟩⟩
    case round =>
     clear H'
     try clear c2
     try clear p2
     try clear c3
     try clear c5
     try clear c7
     try clear c7b0
     try clear c7b1
     try clear c8
     try clear c8b0
     try clear c8b1
     try clear hcz10_0
     try clear hcz10_1
     try clear hcz13_0
     try clear hcz13_1
     try clear hfz10_0
     try clear hfz10_1
     try clear hfz13_0
     try clear hfz13_1
     obtain ⟨x10_1, x35_1, rfl, HA, HK1, HO_10, BK231, HB⟩ := hrel
     cases gk with
     | zero => exact absurd HA.out (by simp [matrix_Apply.l0])
     | succ k1 =>
      have H := HA.out
      clear HA
      simp only [matrix_Apply.l0] at H
      by_cases c14 : x35_1 < (l0_1.length : Int)
      ·
       rw [if_pos c14] at H
       have c14b0 : decide (x35_1 < (l0_1.length : Int)) = true := decide_eq_true c14
       clear c14
       by_cases c15 : 0 ≤ x35_1
       ·
        rw [if_pos c15] at H
        have c15b0 : decide (0 ≤ x35_1) = true := decide_eq_true c15
        clear c15
        by_cases c16 : x35_1 < (l0_1.length : Int)
        ·
         rw [if_pos c16] at H
         have c16b0 : decide (x35_1 < (l0_1.length : Int)) = true := decide_eq_true c16
         clear c16
         replace H := Option.bind_eq_some_iff.mp H
         obtain ⟨⟨t237, t238⟩, A170, H⟩ := H
         replace H : (if x10_1.length < 8796093022208 then (matrix_Apply.l0 k1 a1 l2 (x10_1 ++ [t237]) l0_1 (l0_1.length : Int) (wrap64 (x35_1 + 1))) else (none)) = some (r1, r2) := H
         have A17 := Aside0.mk A170
         clear A170
         by_cases c18 : x10_1.length < 8796093022208
         ·
          rw [if_pos c18] at H
          have LMc18 := Aside0.mk c18
          clear c18
          obtain ⟨y239, hy239⟩ : ∃ y_ : List ByteArray, y_ = (x10_1 ++ [t237]) := ⟨_, rfl⟩
          replace H : (matrix_Apply.l0 k1 a1 l2 y239 l0_1 (l0_1.length : Int) (wrap64 (x35_1 + 1))) = some (r1, r2) := by first | (rw [hy239]; with_reducible exact H) | (have H2_ := (Option.bind_some _ _).symm.trans H; rw [hy239]; with_reducible exact H2_) | (have H2_ := (Option.bind_some _ _).symm.trans H; with_reducible exact H2_) | with_reducible exact H | (rw [hy239]; exact H) | exact H
          have Ny239 := Aside0.mk hy239
          clear hy239
          have H' := Aside0.mk H
          clear H
          have p235 : 0 ≤ (x35_1 : Int) := of_decide_eq_true (by first | (with_reducible assumption) | assumption)
          have q235 : x35_1 < (l0_1.length : Int) := of_decide_eq_true (by first | (with_reducible assumption) | assumption)
          obtain ⟨ad235, A235_1, c235_1, e235, hx235_0, hx235_1, hl235_1, hi235_1⟩ := at_T25 HR0_1.out x35_1 p235 q235
          cases e235
          replace hx235_0 := (HB.out.cell (World.block_lt_of_cell? w _ hx235_0)).trans hx235_0
          replace hx235_1 := (HB.out.cell (World.block_lt_of_cell? w _ hx235_1)).trans hx235_1
          have HR235_1 := Aside0.mk hi235_1
          have HC235_1 := Aside0.mk hl235_1
          clear hi235_1 hl235_1
          replace p235 := eq_true p235
          replace q235 := eq_true q235
          go_wp2_with (first | ((with_reducible refine gate_dst (N := 12) rfl ?_); refine box_event ?hg (N := 12) ?hd (cs := #[.int .i64 0, .slice none 0 0]) (t := 25) ?hr ?_; (case hd => rfl); (case hg => rfl); (case hr => first | (go_simp; done) | (go_simp; rfl)); intro gb236 hg w19 hbox hb; have n0_ := am (Kd.R_below (pr HO_10) hb); have n1_ := bb BK231 hb; have n2_ := am (below_step (pb HB) hb); have n3_ := am (hbox); have n4_ := am ((by rw [hg]; exact (below_size (pb HB)) : w.heap.size ≤ gb236)); have n5_ := am ((by rw [hg]; exact (below_size (pb HB)) : w.heap.size ≤ gb236)); have n6_ := am ((by rw [hg]; exact Nat.ne_of_lt (bl BK231) : gb231 ≠ gb236)); have n7_ := am ((by rw [hg]; exact Nat.ne_of_gt (bl BK231) : gb236 ≠ gb231)); clear HO_10 BK231 HB; have HO_10 := n0_; have BK231 := n1_; have HB := n2_; have BK236 := n3_; have GW236 := n4_; have GE236 := n5_; have NB231_236 := n6_; have NB236_231 := n7_; clear n0_ n1_ n2_ n3_ n4_ n5_ n6_ n7_ hb hbox hg; have hnb20 := NB236_231.out; have hnc20 := NB231_236.out; have hcz21_0 : w19.cell? ⟨gb236, 0, none⟩ = some (.int .i64 0) := (blk_cell BK236.out 0).trans rfl; have hcz21_1 : w19.cell? ⟨gb236, 1, none⟩ = some (.slice none 0 0) := (blk_cell BK236.out 1).trans rfl; have hfz21_0 := blk_frozen BK236.out 0; have hfz21_1 := blk_frozen BK236.out 1) | ((with_reducible refine gate_callee (f := 12) rfl ?_); refine goesL_ (some 43) rfl rfl Tryd.func12 (by kernel_rfl) rfl #[.int .i64 a1, .slice A2 l2.length c2, .agg #[.int .i64 ((rd_T25 l0_1 x35_1).f0), .slice A235_1 ((rd_T25 l0_1 x35_1).f1).length c235_1]] rfl (by (try simp only [List.map_toArray, List.map_cons, List.map_nil]); first | done | rfl | (simp only [List.length_drop, List.length_take]; rfl)) ?_; (with_reducible refine (block_Pick.calls k1 a1 _ _ l2 ((rd_T25 l0_1 x35_1).f0) _ _ ((rd_T25 l0_1 x35_1).f1) t237 t238 _ ?side5 ?side1 ?side2 ?side3 ?side4 A17.out).mono ?_); (case side1 => exact Kd.C_below HR2.out (pb HB)); (case side2 => exact HC2.out); (case side3 => exact Kd.C_below HR235_1.out (pb HB)); (case side4 => exact HC235_1.out); (case side5 => exact TabOk.below HT.out (pb HB)); rintro e w22 ⟨rfl, hb⟩; refine ⟨_, rfl, ?_⟩; have n0_ := am (Kd.R_below (by (with_reducible repeat (first | apply Kd.R_alloc | apply Kd.R_drewN | apply Kd.R_drew)); exact (Kd.R_mono (Kd.R_far (p := ⟨gb236, 1, none⟩) (Kd.R_far (p := ⟨gb236, 0, none⟩) (Kd.R_types HO_10.out BK236.out (by decide)) (fun _ hk => hk.2) (.int .i64 ((rd_T25 l0_1 x35_1).f0))) (fun _ hk => hk.2) (.slice A235_1 ((rd_T25 l0_1 x35_1).f1).length c235_1)) (fun _ h_ => h_.1))) hb); have n1_ := am (blk_below (g := gb231) (o := .cells #[.int .i64 a0_0, .slice (some ad235) l0_1.length c0_1] 55 (0, 0)) (by (with_reducible repeat (first | refine blk_drewN ?_ _ | refine blk_drew ?_ | refine blk_alloc ?_ _)); refine blk_far ?_ NB231_236.out _; (with_reducible repeat (first | refine blk_drewN ?_ _ | refine blk_drew ?_ | refine blk_alloc ?_ _)); refine blk_far ?_ NB231_236.out _; (with_reducible repeat (first | refine blk_drewN ?_ _ | refine blk_drew ?_ | refine blk_alloc ?_ _)); exact BK231.out) hb); have n2_ := am (blk_below (g := gb236) (o := .cells #[.int .i64 ((rd_T25 l0_1 x35_1).f0), .slice A235_1 ((rd_T25 l0_1 x35_1).f1).length c235_1] 25 (0, 0)) (by (with_reducible repeat (first | refine blk_drewN ?_ _ | refine blk_drew ?_ | refine blk_alloc ?_ _)); refine blk_put (cs := #[.int .i64 ((rd_T25 l0_1 x35_1).f0), .slice none 0 0]) ?_ 1 _ rfl; (with_reducible repeat (first | refine blk_drewN ?_ _ | refine blk_drew ?_ | refine blk_alloc ?_ _)); refine blk_put (cs := #[.int .i64 0, .slice none 0 0]) ?_ 0 _ rfl; (with_reducible repeat (first | refine blk_drewN ?_ _ | refine blk_drew ?_ | refine blk_alloc ?_ _)); exact BK236.out) hb); have n3_ := am (below_step (pb HB) hb); clear HO_10 BK231 BK236 HB; have HO_10 := n0_; have BK231 := n1_; have BK236 := n2_; have HB := n3_; clear n0_ n1_ n2_ n3_; (try clear hb); (try clear hb2); (try clear hk); (try clear hi)) | ((with_reducible refine gate_builtin (b := .append) (xs := #[.tmp 46, .tmp 48]) rfl ?_); at_builtin; refine Kd.R_append Kd.string (w0 := w) w.heap.size rfl (.tmp 46) (.tmp 48) 22 9 (.string ⟨#[]⟩) 16 rfl Tryd.underlying22 info9 rfl (by decide) (by omega) u10 x10_1 t237 [.string t237] (fun _ => True) (fun _ => False) rfl rfl ?aP (fun _ hk => hk.elim) ?aF ?aO ?aB ?aS ?aL ?_; (case aP => exact rfl); (case aB => exact (pb HB)); (case aF => exact (fun _ _ => trivial)); (case aO => exact (pr HO_10)); (case aS => exact (below_size (pb HB))); (case aL => have := LMc18.out; omega); intro v240 w23 ho hb hg hat; rw [← Ny239.out] at ho; have n0_ := am (blk_grown (g := gb231) (o := .cells #[.int .i64 a0_0, .slice (some ad235) l0_1.length c0_1] 55 (0, 0)) (pk BK231) hg (Kd.R_ne HO_10.out BK231.out (by decide))); have n1_ := am (blk_grown (g := gb236) (o := .cells #[.int .i64 ((rd_T25 l0_1 x35_1).f0), .slice A235_1 ((rd_T25 l0_1 x35_1).f1).length c235_1] 25 (0, 0)) (pk BK236) hg (Kd.R_ne HO_10.out BK236.out (by decide))); have n2_ := am (hb); have n3_ := am (ho); clear BK231 BK236 HB HO_10; have BK231 := n0_; have BK236 := n1_; have HB := n2_; have HO241 := n3_; clear n0_ n1_ n2_ n3_ ho hb hg hat))
          go_roundg k1
          case measure => have := HK1.out; omega
          case rel => exact ⟨(y239), (wrap64 (x35_1 + 1)), (by first | rfl | (simp; done) | (simp [*]; done)), H', ⟨by have := HK1.out; omega⟩, ⟨by (with_reducible repeat (first | apply Kd.R_alloc | apply Kd.R_drewN | apply Kd.R_drew)); exact HO241.out⟩, ⟨by (with_reducible repeat (first | refine blk_drewN ?_ _ | refine blk_drew ?_ | refine blk_alloc ?_ _)); exact BK231.out⟩, ⟨pb HB⟩⟩
         ·
          rw [if_neg c18] at H
          exact absurd H (by simp)
        ·
         rw [if_neg c16] at H
         exact absurd H (by simp)
       ·
        rw [if_neg c15] at H
        exact absurd H (by simp)
      ·
       rw [if_neg c14] at H
       have c14b0 : decide (x35_1 < (l0_1.length : Int)) = false := decide_eq_false c14
       clear c14
       simp only [Option.some.injEq, Prod.mk.injEq] at H
       obtain ⟨rfl, rfl⟩ := H
       go_wp2
       go_ret2
       exact ⟨_, by first | rfl | (simp [errW_none, errW_some] <;> rfl) | (simp [*, errW_none, errW_some] <;> rfl), by (with_reducible repeat (first | apply Kd.R_alloc | apply Kd.R_drewN | apply Kd.R_drew)); exact HO_10.out, pb HB⟩
   ·
    rw [if_neg c8] at H
    have c8b0 : ((l2.length : Int) == a0_0) = false := beq_eq_false_iff_ne.mpr c8
    have c8b1 : ((l2.length : Int) != a0_0) = true := bne_iff_ne.mpr c8
    simp only [Option.some.injEq, Prod.mk.injEq] at H
    obtain ⟨rfl, rfl⟩ := H
    go_enter Tryd.func37, Tryd.ntmps37
    go_wp2_with (first | ((with_reducible refine gate_dst (N := 3) rfl ?_); refine box_event ?hg (N := 3) ?hd (cs := #[.int .i64 a0_0, .slice A0_1 l0_1.length c0_1]) (t := 55) ?hr ?_; (case hd => rfl); (case hg => rfl); (case hr => first | (go_simp; done) | (go_simp; rfl)); intro gb231 hg w24 hbox hb; have n0_ := am (below_step (pb HB) hb); have n1_ := am (hbox); have n2_ := am ((by rw [hg]; exact (below_size (pb HB)) : w.heap.size ≤ gb231)); have n3_ := am ((by rw [hg]; exact (below_size (pb HB)) : w.heap.size ≤ gb231)); clear HB; have HB := n0_; have BK231 := n1_; have GW231 := n2_; have GE231 := n3_; clear n0_ n1_ n2_ n3_ hb hbox hg; have hcz25_0 : w24.cell? ⟨gb231, 0, none⟩ = some (.int .i64 a0_0) := (blk_cell BK231.out 0).trans rfl; have hcz25_1 : w24.cell? ⟨gb231, 1, none⟩ = some (.slice A0_1 l0_1.length c0_1) := (blk_cell BK231.out 1).trans rfl; have hfz25_0 := blk_frozen BK231.out 0; have hfz25_1 := blk_frozen BK231.out 1) | ((with_reducible refine gate_callee (f := 71) rfl ?_); refine goesL_ (some 16) rfl rfl Tryd.func71 (by kernel_rfl) rfl #[.agg #[.int .i64 a0_0, .slice A0_1 l0_1.length c0_1]] rfl (by (try simp only [List.map_toArray, List.map_cons, List.map_nil]); first | done | rfl | (simp only [List.length_drop, List.length_take]; rfl)) ?_; (with_reducible refine (matrix_Right.calls k a0_0 _ _ l0_1 true _ ?side1 ?side2 A4.out).mono ?_); (case side1 => repeat (first | exact (Kd.C_below HR0_1.out HB.out) | (with_reducible refine Kd.C_alloc ?_ _) | (with_reducible refine Kd.C_drewN ?_ _) | (with_reducible refine Kd.C_drew ?_))); (case side2 => exact HC0_1.out); rintro e w26 ⟨rfl, hb⟩; refine ⟨_, rfl, ?_⟩; have n0_ := bb BK231 hb; have n1_ := am (below_step (pb HB) hb); clear BK231 HB; have BK231 := n0_; have HB := n1_; clear n0_ n1_; (try clear hb); (try clear hb2); (try clear hk); (try clear hi)) | ((with_reducible refine gate_callee (f := 32) rfl ?_); refine goesL_ (some 21) rfl rfl Tryd.func32 (by kernel_rfl) rfl #[.int .i64 a1, .slice A2 l2.length c2] rfl (by (try simp only [List.map_toArray, List.map_cons, List.map_nil]); first | done | rfl | (simp only [List.length_drop, List.length_take]; rfl)) ?_; (with_reducible refine (block_Sum.calls k a1 _ _ l2 t233 t234 _ ?side1 ?side2 A6.out).mono ?_); (case side1 => repeat (first | exact (Kd.C_below HR2.out HB.out) | (with_reducible refine Kd.C_alloc ?_ _) | (with_reducible refine Kd.C_drewN ?_ _) | (with_reducible refine Kd.C_drew ?_))); (case side2 => exact HC2.out); rintro e w27 ⟨rfl, hb⟩; refine ⟨_, rfl, ?_⟩; have n0_ := bb BK231 hb; have n1_ := am (below_step (pb HB) hb); clear BK231 HB; have BK231 := n0_; have HB := n1_; clear n0_ n1_; (try clear hb); (try clear hb2); (try clear hk); (try clear hi); have hcz28_0 : w27.cell? ⟨gb231, 0, none⟩ = some (.int .i64 a0_0) := (blk_cell BK231.out 0).trans rfl; have hcz28_1 : w27.cell? ⟨gb231, 1, none⟩ = some (.slice A0_1 l0_1.length c0_1) := (blk_cell BK231.out 1).trans rfl; have hfz28_0 := blk_frozen BK231.out 0; have hfz28_1 := blk_frozen BK231.out 1))
    go_ret2
    exact ⟨_, by first | rfl | (simp [errW_none, errW_some] <;> rfl) | (simp [*, errW_none, errW_some] <;> rfl), by first | exact Kd.R_nil _ _ _ _ _ | exact Kd.N_nil _ _ _ _ _ | exact Kd.V_nil _ _ _ _ _ | exact Kd.Q_nil _ _ _ _ _ | exact Kd.S_nil _ _ _ _ _, pb HB⟩
  ·
   rw [if_neg c7] at H
   have c7b0 : (t234 == 0) = false := beq_eq_false_iff_ne.mpr c7
   have c7b1 : (t234 != 0) = true := bne_iff_ne.mpr c7
   simp only [Option.some.injEq, Prod.mk.injEq] at H
   obtain ⟨rfl, rfl⟩ := H
   go_enter Tryd.func37, Tryd.ntmps37
   go_wp2_with (first | ((with_reducible refine gate_dst (N := 3) rfl ?_); refine box_event ?hg (N := 3) ?hd (cs := #[.int .i64 a0_0, .slice A0_1 l0_1.length c0_1]) (t := 55) ?hr ?_; (case hd => rfl); (case hg => rfl); (case hr => first | (go_simp; done) | (go_simp; rfl)); intro gb231 hg w29 hbox hb; have n0_ := am (below_step (pb HB) hb); have n1_ := am (hbox); have n2_ := am ((by rw [hg]; exact (below_size (pb HB)) : w.heap.size ≤ gb231)); have n3_ := am ((by rw [hg]; exact (below_size (pb HB)) : w.heap.size ≤ gb231)); clear HB; have HB := n0_; have BK231 := n1_; have GW231 := n2_; have GE231 := n3_; clear n0_ n1_ n2_ n3_ hb hbox hg; have hcz30_0 : w29.cell? ⟨gb231, 0, none⟩ = some (.int .i64 a0_0) := (blk_cell BK231.out 0).trans rfl; have hcz30_1 : w29.cell? ⟨gb231, 1, none⟩ = some (.slice A0_1 l0_1.length c0_1) := (blk_cell BK231.out 1).trans rfl; have hfz30_0 := blk_frozen BK231.out 0; have hfz30_1 := blk_frozen BK231.out 1) | ((with_reducible refine gate_callee (f := 71) rfl ?_); refine goesL_ (some 16) rfl rfl Tryd.func71 (by kernel_rfl) rfl #[.agg #[.int .i64 a0_0, .slice A0_1 l0_1.length c0_1]] rfl (by (try simp only [List.map_toArray, List.map_cons, List.map_nil]); first | done | rfl | (simp only [List.length_drop, List.length_take]; rfl)) ?_; (with_reducible refine (matrix_Right.calls k a0_0 _ _ l0_1 true _ ?side1 ?side2 A4.out).mono ?_); (case side1 => repeat (first | exact (Kd.C_below HR0_1.out HB.out) | (with_reducible refine Kd.C_alloc ?_ _) | (with_reducible refine Kd.C_drewN ?_ _) | (with_reducible refine Kd.C_drew ?_))); (case side2 => exact HC0_1.out); rintro e w31 ⟨rfl, hb⟩; refine ⟨_, rfl, ?_⟩; have n0_ := bb BK231 hb; have n1_ := am (below_step (pb HB) hb); clear BK231 HB; have BK231 := n0_; have HB := n1_; clear n0_ n1_; (try clear hb); (try clear hb2); (try clear hk); (try clear hi)) | ((with_reducible refine gate_callee (f := 32) rfl ?_); refine goesL_ (some 21) rfl rfl Tryd.func32 (by kernel_rfl) rfl #[.int .i64 a1, .slice A2 l2.length c2] rfl (by (try simp only [List.map_toArray, List.map_cons, List.map_nil]); first | done | rfl | (simp only [List.length_drop, List.length_take]; rfl)) ?_; (with_reducible refine (block_Sum.calls k a1 _ _ l2 t233 t234 _ ?side1 ?side2 A6.out).mono ?_); (case side1 => repeat (first | exact (Kd.C_below HR2.out HB.out) | (with_reducible refine Kd.C_alloc ?_ _) | (with_reducible refine Kd.C_drewN ?_ _) | (with_reducible refine Kd.C_drew ?_))); (case side2 => exact HC2.out); rintro e w32 ⟨rfl, hb⟩; refine ⟨_, rfl, ?_⟩; have n0_ := bb BK231 hb; have n1_ := am (below_step (pb HB) hb); clear BK231 HB; have BK231 := n0_; have HB := n1_; clear n0_ n1_; (try clear hb); (try clear hb2); (try clear hk); (try clear hi)))
   go_ret2
   exact ⟨_, by first | rfl | (simp [errW_none, errW_some] <;> rfl) | (simp [*, errW_none, errW_some] <;> rfl), by first | exact Kd.R_nil _ _ _ _ _ | exact Kd.N_nil _ _ _ _ _ | exact Kd.V_nil _ _ _ _ _ | exact Kd.Q_nil _ _ _ _ _ | exact Kd.S_nil _ _ _ _ _, pb HB⟩
 ·
  replace c5 := Bool.eq_false_iff.mpr c5
  subst c5
  have H1 : (some (([] : List ByteArray), 1)) = some (r1, r2) := by rw [if_neg (show ¬ (false = true) by decide)] at H; exact H
  clear H
  have H := H1
  clear H1
  simp only [Option.some.injEq, Prod.mk.injEq] at H
  obtain ⟨rfl, rfl⟩ := H
  go_enter Tryd.func37, Tryd.ntmps37
  go_wp2_with (first | ((with_reducible refine gate_dst (N := 3) rfl ?_); refine box_event ?hg (N := 3) ?hd (cs := #[.int .i64 a0_0, .slice A0_1 l0_1.length c0_1]) (t := 55) ?hr ?_; (case hd => rfl); (case hg => rfl); (case hr => first | (go_simp; done) | (go_simp; rfl)); intro gb231 hg w33 hbox hb; have n0_ := am (below_step (pb HB) hb); have n1_ := am (hbox); have n2_ := am ((by rw [hg]; exact (below_size (pb HB)) : w.heap.size ≤ gb231)); have n3_ := am ((by rw [hg]; exact (below_size (pb HB)) : w.heap.size ≤ gb231)); clear HB; have HB := n0_; have BK231 := n1_; have GW231 := n2_; have GE231 := n3_; clear n0_ n1_ n2_ n3_ hb hbox hg; have hcz34_0 : w33.cell? ⟨gb231, 0, none⟩ = some (.int .i64 a0_0) := (blk_cell BK231.out 0).trans rfl; have hcz34_1 : w33.cell? ⟨gb231, 1, none⟩ = some (.slice A0_1 l0_1.length c0_1) := (blk_cell BK231.out 1).trans rfl; have hfz34_0 := blk_frozen BK231.out 0; have hfz34_1 := blk_frozen BK231.out 1) | ((with_reducible refine gate_callee (f := 71) rfl ?_); refine goesL_ (some 16) rfl rfl Tryd.func71 (by kernel_rfl) rfl #[.agg #[.int .i64 a0_0, .slice A0_1 l0_1.length c0_1]] rfl (by (try simp only [List.map_toArray, List.map_cons, List.map_nil]); first | done | rfl | (simp only [List.length_drop, List.length_take]; rfl)) ?_; (with_reducible refine (matrix_Right.calls k a0_0 _ _ l0_1 false _ ?side1 ?side2 A4.out).mono ?_); (case side1 => repeat (first | exact (Kd.C_below HR0_1.out HB.out) | (with_reducible refine Kd.C_alloc ?_ _) | (with_reducible refine Kd.C_drewN ?_ _) | (with_reducible refine Kd.C_drew ?_))); (case side2 => exact HC0_1.out); rintro e w35 ⟨rfl, hb⟩; refine ⟨_, rfl, ?_⟩; have n0_ := bb BK231 hb; have n1_ := am (below_step (pb HB) hb); clear BK231 HB; have BK231 := n0_; have HB := n1_; clear n0_ n1_; (try clear hb); (try clear hb2); (try clear hk); (try clear hi)))
  go_ret2
  exact ⟨_, by first | rfl | (simp [errW_none, errW_some] <;> rfl) | (simp [*, errW_none, errW_some] <;> rfl), by first | exact Kd.R_nil _ _ _ _ _ | exact Kd.N_nil _ _ _ _ _ | exact Kd.V_nil _ _ _ _ _ | exact Kd.Q_nil _ _ _ _ _ | exact Kd.S_nil _ _ _ _ _, pb HB⟩

/-! ### matrix_numbers: function 78 -/
def matrix_numbers.l0 : Nat → List Int → Int → Int → Option (List Int)
 | 0, _, _, _ => none
 | k + 1, x3, x5, x6 => if x6 < x5 then (if x3.length < 17592186044416 then (matrix_numbers.l0 k (x3 ++ [x6]) x5 (wrap64 (x6 + 1))) else (none)) else (some x3)
def matrix_numbers.f (k : Nat) (a0 : Int) : Option (List Int) := matrix_numbers.l0 k ([] : List Int) a0 0
theorem matrix_numbers.mono_l : ∀ k, (∀ y0 y1 y2, LeO (matrix_numbers.l0 k y0 y1 y2) (matrix_numbers.l0 (k + 1) y0 y1 y2))
 | 0 => fun _ _ _ r h => by simp [matrix_numbers.l0] at h
 | k + 1 => by
  have ih0 := matrix_numbers.mono_l k
  ·
   intro y0 y1 y2
   unfold matrix_numbers.l0
   repeat' first
   | (with_reducible exact ih0 _ _ _)
   | (with_reducible exact LeO.refl _)
   | (with_reducible exact LeO.none _)
   | (with_reducible refine LeO.ite ?_ ?_)
   | (with_reducible refine LeO.bind ?_ (fun _ => ?_))
   | exact ih0 _ _ _
   | exact LeO.none _
   | refine LeO.ite ?_ ?_
   | refine LeO.bind ?_ (fun _ => ?_)
theorem matrix_numbers.mono : ∀ a0 k, LeO (matrix_numbers.f k a0) (matrix_numbers.f (k + 1) a0) := by
 intro a0 k
 have ih0 := matrix_numbers.mono_l k
 unfold matrix_numbers.f
 repeat' first
   | (with_reducible exact ih0 _ _ _)
   | (with_reducible exact LeO.refl _)
   | (with_reducible exact LeO.none _)
   | (with_reducible refine LeO.ite ?_ ?_)
   | (with_reducible refine LeO.bind ?_ (fun _ => ?_))
   | exact ih0 _ _ _
   | exact LeO.none _
   | refine LeO.ite ?_ ?_
   | refine LeO.bind ?_ (fun _ => ?_)
set_option maxHeartbeats 8000000 in
set_option maxRecDepth 100000 in
theorem matrix_numbers.calls (k : Nat) (a0 : Int) (r : List Int) (w : World) (h : matrix_numbers.f k a0 = some r) :
  Calls Tryd.prog 78 #[.int .i64 a0] w fun e w' => ∃ v0_ : Value, e = .returned (v0_) ∧ Kd.R (Kd.int .i64) 3 w' w.heap.size (fun _ => True) v0_ r ∧ Below w.heap.size w w' := by
 have HB := am (Below.refl w.heap.size w)
 have H : (matrix_numbers.l0 k ([] : List Int) a0 0) = some r := h
 clear h
 have H' := Aside0.mk H
 clear H
 go_enter Tryd.func78, Tryd.ntmps78
 go_wp2
 go_loopg [3, 6] k (fun kq v3 v6 w' => ∃ (x3_1 : List Int) (x6_1 : Int), v6 = .int .i64 x6_1 ∧ Aside0 (matrix_numbers.l0 kq x3_1 a0 x6_1 = some r) ∧ Aside0 (kq ≤ k) ∧ Aside0 (Kd.R (Kd.int .i64) 3 w' w.heap.size (fun _ => True) v3 x3_1) ∧ Aside0 (Below w.heap.size w w'))
 case atStart => exact ⟨(([] : List Int)), (0), (by first | rfl | (simp; done) | (simp [*]; done)), H', ⟨Nat.le_refl _⟩, ⟨by first | exact Kd.R_nil _ _ _ _ _ | exact Kd.N_nil _ _ _ _ _ | exact Kd.V_nil _ _ _ _ _ | exact Kd.Q_nil _ _ _ _ _ | exact Kd.S_nil _ _ _ _ _⟩, ⟨pb HB⟩⟩
 case round =>
  clear H'
  obtain ⟨x3_1, x6_1, rfl, HA, HK1, HO_3, HB⟩ := hrel
  cases gk with
  | zero => exact absurd HA.out (by simp [matrix_numbers.l0])
  | succ k1 =>
   have H := HA.out
   clear HA
   simp only [matrix_numbers.l0] at H
   by_cases c2 : x6_1 < a0
   ·
    rw [if_pos c2] at H
    have c2b0 : decide (x6_1 < a0) = true := decide_eq_true c2
    clear c2
    by_cases c3 : x3_1.length < 17592186044416
    ·
     rw [if_pos c3] at H
     have LMc3 := Aside0.mk c3
     clear c3
     obtain ⟨y242, hy242⟩ : ∃ y_ : List Int, y_ = (x3_1 ++ [x6_1]) := ⟨_, rfl⟩
     replace H : (matrix_numbers.l0 k1 y242 a0 (wrap64 (x6_1 + 1))) = some r := by first | (rw [hy242]; with_reducible exact H) | (have H2_ := (Option.bind_some _ _).symm.trans H; rw [hy242]; with_reducible exact H2_) | (have H2_ := (Option.bind_some _ _).symm.trans H; with_reducible exact H2_) | with_reducible exact H | (rw [hy242]; exact H) | exact H
     have Ny242 := Aside0.mk hy242
     clear hy242
     have H' := Aside0.mk H
     clear H
     go_wp2_with (first | ((with_reducible refine gate_builtin (b := .append) (xs := #[.tmp 9, .tmp 11]) rfl ?_); at_builtin; refine Kd.R_append (Kd.int .i64) (w0 := w) w.heap.size rfl (.tmp 9) (.tmp 11) 34 3 (.int .i64 0) 8 rfl Tryd.underlying34 info3 rfl (by decide) (by omega) u3 x3_1 x6_1 [.int .i64 x6_1] (fun _ => True) (fun _ => False) rfl rfl ?aP (fun _ hk => hk.elim) ?aF ?aO ?aB ?aS ?aL ?_; (case aP => exact rfl); (case aB => exact (pb HB)); (case aF => exact (fun _ _ => trivial)); (case aO => exact (pr HO_3)); (case aS => exact (below_size (pb HB))); (case aL => have := LMc3.out; omega); intro v243 w4 ho hb hg hat; rw [← Ny242.out] at ho; have n0_ := am (hb); have n1_ := am (ho); clear HB HO_3; have HB := n0_; have HO244 := n1_; clear n0_ n1_ ho hb hg hat))
     go_roundg k1
     case measure => have := HK1.out; omega
     case rel => exact ⟨(y242), (wrap64 (x6_1 + 1)), (by first | rfl | (simp; done) | (simp [*]; done)), H', ⟨by have := HK1.out; omega⟩, ⟨by (with_reducible repeat (first | apply Kd.R_alloc | apply Kd.R_drewN | apply Kd.R_drew)); exact HO244.out⟩, ⟨pb HB⟩⟩
    ·
     rw [if_neg c3] at H
     exact absurd H (by simp)
   ·
    rw [if_neg c2] at H
    have c2b0 : decide (x6_1 < a0) = false := decide_eq_false c2
    clear c2
    obtain rfl := Option.some.inj H
    go_wp2
    go_ret
    exact ⟨_, by first | rfl | (simp [errW_none, errW_some] <;> rfl) | (simp [*, errW_none, errW_some] <;> rfl), by (with_reducible repeat (first | apply Kd.R_alloc | apply Kd.R_drewN | apply Kd.R_drew)); exact HO_3.out, pb HB⟩

end Go.Proofs.YtfcedhejbnoinaaDoor.PR
