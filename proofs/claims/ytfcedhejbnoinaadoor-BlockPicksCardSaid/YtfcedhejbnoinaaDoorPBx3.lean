-- PRINTED by print.py (a twelfth state) out of the translation. Not trusted: Lean checks it.
import Derived.Test.YtfcedhejbnoinaaDoorPBx0
import Derived.Test.YtfcedhejbnoinaaDoorPBx2
namespace Go.Proofs.YtfcedhejbnoinaaDoor.PB
open Go.RowKit Go.Proofs.YtfcedhejbnoinaaDoorW.PrintWords Go.Proofs.YtfcedhejbnoinaaDoorW.PrintLast Go.Proofs.YtfcedhejbnoinaaDoorW.PrintMore
open Bool renaming true → T, false → F
open List renaming setIfInBounds_toArray → q1, set_cons_zero → q2, set_cons_succ → q3
attribute [local go_sem] run_store_func max2_int min2_int max_two min_two max_three min_three max_four min_four   -- for this text's walks alone
set_option linter.unusedVariables false
set_option linter.unusedSimpArgs false

/-! ### downpourref01_Right: function 15 -/
mutual
def downpourref01_Right.j0 : Nat → Bool → Int → List Int → Option (Bool)
 | 0, _, _, _ => none
 | k + 1, x20, x141000, x141001 => if x20 = true then (some false) else (downpourref01_Right.l0 k x141000 x141000 x141001)
def downpourref01_Right.l0 : Nat → Int → Int → List Int → Option (Bool)
 | 0, _, _, _ => none
 | k + 1, x3, x141000, x141001 => if x3 < (wrap64 (64 * (x141001.length : Int))) then ((downpourref01_Bit.f x141000 x141001 x3).bind fun t142 => (if t142 = 1 then (some false) else (downpourref01_Right.l0 k (wrap64 (x3 + 1)) x141000 x141001))) else (some true)
end
def downpourref01_Right.f (k : Nat) (a0_0 : Int) (l0_1 : List Int) : Option (Bool) := if a0_0 < 0 then (downpourref01_Right.j0 k true a0_0 l0_1) else (if a0_0 > 512 then (downpourref01_Right.j0 k true a0_0 l0_1) else ((downpourref01_words.f a0_0).bind fun t141 => (downpourref01_Right.j0 k ((l0_1.length : Int) != t141) a0_0 l0_1)))
theorem downpourref01_Right.mono_l : ∀ k, (∀ y0 y1 y2, LeO (downpourref01_Right.j0 k y0 y1 y2) (downpourref01_Right.j0 (k + 1) y0 y1 y2)) ∧ (∀ y0 y1 y2, LeO (downpourref01_Right.l0 k y0 y1 y2) (downpourref01_Right.l0 (k + 1) y0 y1 y2))
 | 0 => ⟨fun _ _ _ r h => by simp [downpourref01_Right.j0] at h, fun _ _ _ r h => by simp [downpourref01_Right.l0] at h⟩
 | k + 1 => by
  obtain ⟨ih0, ih1⟩ := downpourref01_Right.mono_l k
  refine ⟨?_, ?_⟩
  ·
   intro y0 y1 y2
   unfold downpourref01_Right.j0
   repeat' first
   | (with_reducible exact ih0 _ _ _)
   | (with_reducible exact ih1 _ _ _)
   | (with_reducible exact LeO.refl _)
   | (with_reducible exact LeO.none _)
   | (with_reducible refine LeO.ite ?_ ?_)
   | (with_reducible refine LeO.bind ?_ (fun _ => ?_))
   | exact ih0 _ _ _
   | exact ih1 _ _ _
   | exact LeO.none _
   | refine LeO.ite ?_ ?_
   | refine LeO.bind ?_ (fun _ => ?_)
  ·
   intro y0 y1 y2
   unfold downpourref01_Right.l0
   repeat' first
   | (with_reducible exact ih0 _ _ _)
   | (with_reducible exact ih1 _ _ _)
   | (with_reducible exact LeO.refl _)
   | (with_reducible exact LeO.none _)
   | (with_reducible refine LeO.ite ?_ ?_)
   | (with_reducible refine LeO.bind ?_ (fun _ => ?_))
   | exact ih0 _ _ _
   | exact ih1 _ _ _
   | exact LeO.none _
   | refine LeO.ite ?_ ?_
   | refine LeO.bind ?_ (fun _ => ?_)
theorem downpourref01_Right.mono : ∀ a0 a1 k, LeO (downpourref01_Right.f k a0 a1) (downpourref01_Right.f (k + 1) a0 a1) := by
 intro a0 a1 k
 obtain ⟨ih0, ih1⟩ := downpourref01_Right.mono_l k
 unfold downpourref01_Right.f
 repeat' first
   | (with_reducible exact ih0 _ _ _)
   | (with_reducible exact ih1 _ _ _)
   | (with_reducible exact LeO.refl _)
   | (with_reducible exact LeO.none _)
   | (with_reducible refine LeO.ite ?_ ?_)
   | (with_reducible refine LeO.bind ?_ (fun _ => ?_))
   | exact ih0 _ _ _
   | exact ih1 _ _ _
   | exact LeO.none _
   | refine LeO.ite ?_ ?_
   | refine LeO.bind ?_ (fun _ => ?_)
set_option maxHeartbeats 8000000 in
set_option maxRecDepth 100000 in
theorem downpourref01_Right.calls (k : Nat) (a0_0 : Int) (A0_1 : Option Addr) (c0_1 : Nat) (l0_1 : List Int) (r : Bool) (w : World) (hr0_1 : Kd.C (Kd.int .u64) w A0_1 l0_1.length l0_1) (hc0_1 : l0_1.length ≤ c0_1) (h : downpourref01_Right.f k a0_0 l0_1 = some r) :
  Calls Tryd.prog 15 #[.agg #[.int .i64 a0_0, .slice A0_1 l0_1.length c0_1]] w fun e w' => e = .returned (.bool r) ∧ Below w.heap.size w w' := by
 have hu25 := Tryd.underlying25
 have HR0_1 := Aside0.mk hr0_1
 have HC0_1 := Aside0.mk hc0_1
 clear hr0_1 hc0_1
 have HB := am (Below.refl w.heap.size w)
 have H : (if a0_0 < 0 then (downpourref01_Right.j0 k true a0_0 l0_1) else (if a0_0 > 512 then (downpourref01_Right.j0 k true a0_0 l0_1) else ((downpourref01_words.f a0_0).bind fun t141 => (downpourref01_Right.j0 k ((l0_1.length : Int) != t141) a0_0 l0_1)))) = some r := h
 clear h
 have HC2 := Aside0.mk H
 clear H
 go_enter Tryd.func15, Tryd.ntmps15
 go_upto_region 1 with (first | ((with_reducible refine gate_dst (N := 1) rfl ?_); (try (refine gate_guard (by rfl) ?_; dsimp only)); refine box_event ?hg (N := 1) ?hd (cs := #[.int .i64 a0_0, .slice A0_1 l0_1.length c0_1]) (t := 25) ?hr ?_; (case hd => rfl); (case hg => rfl); (case hr => first | (go_simp; done) | (go_simp; rfl)); intro gb140 hg w3 hbox hb; have n0_ := am (below_step (pb HB) hb); have n1_ := am (hbox); have n2_ := am ((by rw [hg]; exact (below_size (pb HB)) : w.heap.size ≤ gb140)); have n3_ := am ((by rw [hg]; exact (below_size (pb HB)) : w.heap.size ≤ gb140)); clear HB; have HB := n0_; have BK140 := n1_; have GW140 := n2_; have GE140 := n3_; clear n0_ n1_ n2_ n3_ hb hbox hg))
 repeat (go_quiet (first | ((with_reducible refine gate_dst (N := 1) rfl ?_); (try (refine gate_guard (by rfl) ?_; dsimp only)); refine box_event ?hg (N := 1) ?hd (cs := #[.int .i64 a0_0, .slice A0_1 l0_1.length c0_1]) (t := 25) ?hr ?_; (case hd => rfl); (case hg => rfl); (case hr => first | (go_simp; done) | (go_simp; rfl)); intro gb140 hg w3 hbox hb; have n0_ := am (below_step (pb HB) hb); have n1_ := am (hbox); have n2_ := am ((by rw [hg]; exact (below_size (pb HB)) : w.heap.size ≤ gb140)); have n3_ := am ((by rw [hg]; exact (below_size (pb HB)) : w.heap.size ≤ gb140)); clear HB; have HB := n0_; have BK140 := n1_; have GW140 := n2_; have GE140 := n3_; clear n0_ n1_ n2_ n3_ hb hbox hg)); go_upto_region 1 with (first | ((with_reducible refine gate_dst (N := 1) rfl ?_); (try (refine gate_guard (by rfl) ?_; dsimp only)); refine box_event ?hg (N := 1) ?hd (cs := #[.int .i64 a0_0, .slice A0_1 l0_1.length c0_1]) (t := 25) ?hr ?_; (case hd => rfl); (case hg => rfl); (case hr => first | (go_simp; done) | (go_simp; rfl)); intro gb140 hg w3 hbox hb; have n0_ := am (below_step (pb HB) hb); have n1_ := am (hbox); have n2_ := am ((by rw [hg]; exact (below_size (pb HB)) : w.heap.size ≤ gb140)); have n3_ := am ((by rw [hg]; exact (below_size (pb HB)) : w.heap.size ≤ gb140)); clear HB; have HB := n0_; have BK140 := n1_; have GW140 := n2_; have GE140 := n3_; clear n0_ n1_ n2_ n3_ hb hbox hg)))
 (try simp only [Act.put, q1, q2, q3])
 go_cut [20] (fun v20 wc => ∃ (kq : Nat) (x20_1 : Bool), v20 = .bool x20_1 ∧ Aside0 (downpourref01_Right.j0 kq x20_1 a0_0 l0_1 = some r) ∧ Aside0 (kq ≤ k) ∧ Aside0 (wc.heap[gb140]? = some (.cells #[.int .i64 a0_0, (.slice A0_1 l0_1.length c0_1)] 25 (0, 0))) ∧ Aside0 (Below w.heap.size w wc))
 case first =>
  have H := HC2.out
  clear HC2
  by_cases c4 : a0_0 < 0
  ·
   rw [if_pos c4] at H
   have c4b0 : decide (a0_0 < 0) = true := decide_eq_true c4
   clear c4
   (first | rw [c4b0] | (simp only [i64_w, i32_w]; rw [c4b0]) | skip)
   have H' := Aside0.mk H
   clear H
   have hcz5_0 : w3.cell? ⟨gb140, 0, none⟩ = some (.int .i64 a0_0) := (blk_cell BK140.out 0).trans rfl
   have hcz5_1 : w3.cell? ⟨gb140, 1, none⟩ = some (.slice A0_1 l0_1.length c0_1) := (blk_cell BK140.out 1).trans rfl
   have hfz5_0 := blk_frozen BK140.out 0
   have hfz5_1 := blk_frozen BK140.out 1
   go_wp2
   repeat (go_quiet (fail); try go_wp2)
   go_meet
   case rel => exact ⟨_, (true), (by first | rfl | (simp; done) | (simp [*]; done)), H', ⟨by first | omega | exact Nat.le_refl _⟩, ⟨by (with_reducible repeat (first | refine blk_drewN ?_ _ | refine blk_drew ?_ | refine blk_alloc ?_ _)); exact BK140.out⟩, ⟨pb HB⟩⟩
  ·
   rw [if_neg c4] at H
   have c4b0 : decide (a0_0 < 0) = false := decide_eq_false c4
   clear c4
   (first | rw [c4b0] | (simp only [i64_w, i32_w]; rw [c4b0]) | skip)
   by_cases c6 : a0_0 > 512
   ·
    rw [if_pos c6] at H
    have c6b0 : decide (512 < a0_0) = true := decide_eq_true c6
    clear c6
    have H' := Aside0.mk H
    clear H
    have hcz7_0 : w3.cell? ⟨gb140, 0, none⟩ = some (.int .i64 a0_0) := (blk_cell BK140.out 0).trans rfl
    have hcz7_1 : w3.cell? ⟨gb140, 1, none⟩ = some (.slice A0_1 l0_1.length c0_1) := (blk_cell BK140.out 1).trans rfl
    have hfz7_0 := blk_frozen BK140.out 0
    have hfz7_1 := blk_frozen BK140.out 1
    go_wp2
    repeat (go_quiet (fail); try go_wp2)
    go_meet
    case rel => exact ⟨_, (true), (by first | rfl | (simp; done) | (simp [*]; done)), H', ⟨by first | omega | exact Nat.le_refl _⟩, ⟨by (with_reducible repeat (first | refine blk_drewN ?_ _ | refine blk_drew ?_ | refine blk_alloc ?_ _)); exact BK140.out⟩, ⟨pb HB⟩⟩
   ·
    rw [if_neg c6] at H
    have c6b0 : decide (512 < a0_0) = false := decide_eq_false c6
    clear c6
    replace H := Option.bind_eq_some_iff.mp H
    obtain ⟨t141, A80, H⟩ := H
    replace H : (downpourref01_Right.j0 k ((l0_1.length : Int) != t141) a0_0 l0_1) = some r := H
    have A8 := Aside0.mk A80
    clear A80
    have H' := Aside0.mk H
    clear H
    have hcz9_0 : w3.cell? ⟨gb140, 0, none⟩ = some (.int .i64 a0_0) := (blk_cell BK140.out 0).trans rfl
    have hcz9_1 : w3.cell? ⟨gb140, 1, none⟩ = some (.slice A0_1 l0_1.length c0_1) := (blk_cell BK140.out 1).trans rfl
    have hfz9_0 := blk_frozen BK140.out 0
    have hfz9_1 := blk_frozen BK140.out 1
    go_wp2_with (first | (go_at_call 62; (with_reducible refine (downpourref01_words.calls a0_0 t141 _ A8.out).mono ?_); rintro e w' ⟨rfl, ⟨nd, rfl⟩⟩; (try first | exact ⟨rfl, _, World.drewN_drewN _ _ _⟩ | exact ⟨rfl, _, Eq.trans (World.drewN_drewN _ _ _) (congrArg (World.drewN _) (Nat.add_assoc _ _ _))⟩)))
    repeat (go_quiet (first | (go_at_call 62; (with_reducible refine (downpourref01_words.calls a0_0 t141 _ A8.out).mono ?_); rintro e w' ⟨rfl, ⟨nd, rfl⟩⟩; (try first | exact ⟨rfl, _, World.drewN_drewN _ _ _⟩ | exact ⟨rfl, _, Eq.trans (World.drewN_drewN _ _ _) (congrArg (World.drewN _) (Nat.add_assoc _ _ _))⟩))); try go_wp2_with (first | (go_at_call 62; (with_reducible refine (downpourref01_words.calls a0_0 t141 _ A8.out).mono ?_); rintro e w' ⟨rfl, ⟨nd, rfl⟩⟩; (try first | exact ⟨rfl, _, World.drewN_drewN _ _ _⟩ | exact ⟨rfl, _, Eq.trans (World.drewN_drewN _ _ _) (congrArg (World.drewN _) (Nat.add_assoc _ _ _))⟩))))
    go_meet
    case rel => exact ⟨_, (((l0_1.length : Int) != t141)), (by first | rfl | (simp; done) | (simp [*]; done)), H', ⟨by first | omega | exact Nat.le_refl _⟩, ⟨by (with_reducible repeat (first | refine blk_drewN ?_ _ | refine blk_drew ?_ | refine blk_alloc ?_ _)); exact BK140.out⟩, ⟨pb HB⟩⟩
 case rest =>
  clear HC2
  try clear c1
  try clear p2
  try clear c4
  try clear c4b0
  try clear c6
  try clear c6b0
  try clear hcz5_0
  try clear hcz5_1
  try clear hcz7_0
  try clear hcz7_1
  try clear hcz9_0
  try clear hcz9_1
  try clear hfz5_0
  try clear hfz5_1
  try clear hfz7_0
  try clear hfz7_1
  try clear hfz9_0
  try clear hfz9_1
  obtain ⟨kq, x20_1, rfl, HA, HJ1, BK140, HB⟩ := hcut
  cases kq with
  | zero => exact absurd HA.out (by simp [downpourref01_Right.j0])
  | succ kj1 =>
   have H := HA.out
   clear HA
   simp only [downpourref01_Right.j0] at H
   by_cases c10 : x20_1 = true
   ·
    subst c10
    have H1 : (some false) = some r := by rw [if_pos rfl] at H; exact H
    clear H
    have H := H1
    clear H1
    obtain rfl := Option.some.inj H
    go_wp2
    repeat (go_quiet (fail); try go_wp2)
    go_ret
    exact ⟨by first | rfl | (simp [errW_none, errW_some] <;> rfl) | (simp [*, errW_none, errW_some] <;> rfl), pb HB⟩
   ·
    replace c10 := Bool.eq_false_iff.mpr c10
    subst c10
    have H1 : (downpourref01_Right.l0 kj1 a0_0 a0_0 l0_1) = some r := by rw [if_neg (show ¬ (false = true) by decide)] at H; exact H
    clear H
    have H := H1
    clear H1
    have H' := Aside0.mk H
    clear H
    have hcz11_0 : wc.cell? ⟨gb140, 0, none⟩ = some (.int .i64 a0_0) := (blk_cell BK140.out 0).trans rfl
    have hcz11_1 : wc.cell? ⟨gb140, 1, none⟩ = some (.slice A0_1 l0_1.length c0_1) := (blk_cell BK140.out 1).trans rfl
    have hfz11_0 := blk_frozen BK140.out 0
    have hfz11_1 := blk_frozen BK140.out 1
    go_wp2
    repeat (go_quiet (fail); try go_wp2)
    go_loopg [3] kj1 (fun kq v3 w' => ∃ (x3_2 : Int), v3 = .int .i64 x3_2 ∧ Aside0 (downpourref01_Right.l0 kq x3_2 a0_0 l0_1 = some r) ∧ Aside0 (kq ≤ kj1) ∧ Aside0 (w'.heap[gb140]? = some (.cells #[.int .i64 a0_0, (.slice A0_1 l0_1.length c0_1)] 25 (0, 0))) ∧ Aside0 (Below w.heap.size w w'))
    case atStart => exact ⟨(a0_0), (by first | rfl | (simp; done) | (simp [*]; done)), H', ⟨Nat.le_refl _⟩, ⟨by (with_reducible repeat (first | refine blk_drewN ?_ _ | refine blk_drew ?_ | refine blk_alloc ?_ _)); exact BK140.out⟩, ⟨pb HB⟩⟩
    case round =>
     clear H'
     try clear c1
     try clear p2
     try clear c4
     try clear c4b0
     try clear c6
     try clear c6b0
     try clear c10
     try clear hcz11_0
     try clear hcz11_1
     try clear hcz5_0
     try clear hcz5_1
     try clear hcz7_0
     try clear hcz7_1
     try clear hcz9_0
     try clear hcz9_1
     try clear hfz11_0
     try clear hfz11_1
     try clear hfz5_0
     try clear hfz5_1
     try clear hfz7_0
     try clear hfz7_1
     try clear hfz9_0
     try clear hfz9_1
     try clear p2
     obtain ⟨x3_2, rfl, HA, HK2, BK140, HB⟩ := hrel
     cases gk with
     | zero => exact absurd HA.out (by simp [downpourref01_Right.l0])
     | succ k2 =>
      have H := HA.out
      clear HA
      simp only [downpourref01_Right.l0] at H
      by_cases c12 : x3_2 < (wrap64 (64 * (l0_1.length : Int)))
      ·
       rw [if_pos c12] at H
       have c12b0 : decide (x3_2 < (wrap64 (64 * (l0_1.length : Int)))) = true := decide_eq_true c12
       clear c12
       replace H := Option.bind_eq_some_iff.mp H
       obtain ⟨t142, A130, H⟩ := H
       replace H : (if t142 = 1 then (some false) else (downpourref01_Right.l0 k2 (wrap64 (x3_2 + 1)) a0_0 l0_1)) = some r := H
       have A13 := Aside0.mk A130
       clear A130
       by_cases c14 : t142 = 1
       ·
        rw [if_pos c14] at H
        have c14b0 : (t142 == 1) = true := beq_iff_eq.mpr c14
        have c14b1 : (t142 != 1) = false := bne_eq_false_iff_eq.mpr c14
        clear c14
        obtain rfl := Option.some.inj H
        have hcz15_0 : wr.cell? ⟨gb140, 0, none⟩ = some (.int .i64 a0_0) := (blk_cell BK140.out 0).trans rfl
        have hcz15_1 : wr.cell? ⟨gb140, 1, none⟩ = some (.slice A0_1 l0_1.length c0_1) := (blk_cell BK140.out 1).trans rfl
        have hfz15_0 := blk_frozen BK140.out 0
        have hfz15_1 := blk_frozen BK140.out 1
        go_wp2_with (first | (go_at_call 26; (with_reducible refine (downpourref01_Bit.calls a0_0 _ _ l0_1 x3_2 t142 _ ?side1 ?side2 A13.out).mono ?_); (case side1 => repeat (first | exact (Kd.C_below HR0_1.out HB.out) | (with_reducible refine Kd.C_alloc ?_ _) | (with_reducible refine Kd.C_drewN ?_ _) | (with_reducible refine Kd.C_drew ?_))); (case side2 => exact HC0_1.out); rintro e w16 ⟨rfl, hb⟩; have n0_ := bb BK140 hb; have n1_ := am (below_step (pb HB) hb); clear BK140 HB; have BK140 := n0_; have HB := n1_; clear n0_ n1_; (try clear hb); (try clear hb2); (try clear hk); (try clear hi)))
        repeat (go_quiet (first | (go_at_call 26; (with_reducible refine (downpourref01_Bit.calls a0_0 _ _ l0_1 x3_2 t142 _ ?side1 ?side2 A13.out).mono ?_); (case side1 => repeat (first | exact (Kd.C_below HR0_1.out HB.out) | (with_reducible refine Kd.C_alloc ?_ _) | (with_reducible refine Kd.C_drewN ?_ _) | (with_reducible refine Kd.C_drew ?_))); (case side2 => exact HC0_1.out); rintro e w16 ⟨rfl, hb⟩; have n0_ := bb BK140 hb; have n1_ := am (below_step (pb HB) hb); clear BK140 HB; have BK140 := n0_; have HB := n1_; clear n0_ n1_; (try clear hb); (try clear hb2); (try clear hk); (try clear hi))); try go_wp2_with (first | (go_at_call 26; (with_reducible refine (downpourref01_Bit.calls a0_0 _ _ l0_1 x3_2 t142 _ ?side1 ?side2 A13.out).mono ?_); (case side1 => repeat (first | exact (Kd.C_below HR0_1.out HB.out) | (with_reducible refine Kd.C_alloc ?_ _) | (with_reducible refine Kd.C_drewN ?_ _) | (with_reducible refine Kd.C_drew ?_))); (case side2 => exact HC0_1.out); rintro e w16 ⟨rfl, hb⟩; have n0_ := bb BK140 hb; have n1_ := am (below_step (pb HB) hb); clear BK140 HB; have BK140 := n0_; have HB := n1_; clear n0_ n1_; (try clear hb); (try clear hb2); (try clear hk); (try clear hi))))
        go_ret
        exact ⟨by first | rfl | (simp [errW_none, errW_some] <;> rfl) | (simp [*, errW_none, errW_some] <;> rfl), pb HB⟩
       ·
        rw [if_neg c14] at H
        have c14b0 : (t142 == 1) = false := beq_eq_false_iff_ne.mpr c14
        have c14b1 : (t142 != 1) = true := bne_iff_ne.mpr c14
        have H' := Aside0.mk H
        clear H
        have hcz17_0 : wr.cell? ⟨gb140, 0, none⟩ = some (.int .i64 a0_0) := (blk_cell BK140.out 0).trans rfl
        have hcz17_1 : wr.cell? ⟨gb140, 1, none⟩ = some (.slice A0_1 l0_1.length c0_1) := (blk_cell BK140.out 1).trans rfl
        have hfz17_0 := blk_frozen BK140.out 0
        have hfz17_1 := blk_frozen BK140.out 1
        go_wp2_with (first | (go_at_call 26; (with_reducible refine (downpourref01_Bit.calls a0_0 _ _ l0_1 x3_2 t142 _ ?side1 ?side2 A13.out).mono ?_); (case side1 => repeat (first | exact (Kd.C_below HR0_1.out HB.out) | (with_reducible refine Kd.C_alloc ?_ _) | (with_reducible refine Kd.C_drewN ?_ _) | (with_reducible refine Kd.C_drew ?_))); (case side2 => exact HC0_1.out); rintro e w18 ⟨rfl, hb⟩; have n0_ := bb BK140 hb; have n1_ := am (below_step (pb HB) hb); clear BK140 HB; have BK140 := n0_; have HB := n1_; clear n0_ n1_; (try clear hb); (try clear hb2); (try clear hk); (try clear hi)))
        repeat (go_quiet (first | (go_at_call 26; (with_reducible refine (downpourref01_Bit.calls a0_0 _ _ l0_1 x3_2 t142 _ ?side1 ?side2 A13.out).mono ?_); (case side1 => repeat (first | exact (Kd.C_below HR0_1.out HB.out) | (with_reducible refine Kd.C_alloc ?_ _) | (with_reducible refine Kd.C_drewN ?_ _) | (with_reducible refine Kd.C_drew ?_))); (case side2 => exact HC0_1.out); rintro e w18 ⟨rfl, hb⟩; have n0_ := bb BK140 hb; have n1_ := am (below_step (pb HB) hb); clear BK140 HB; have BK140 := n0_; have HB := n1_; clear n0_ n1_; (try clear hb); (try clear hb2); (try clear hk); (try clear hi))); try go_wp2_with (first | (go_at_call 26; (with_reducible refine (downpourref01_Bit.calls a0_0 _ _ l0_1 x3_2 t142 _ ?side1 ?side2 A13.out).mono ?_); (case side1 => repeat (first | exact (Kd.C_below HR0_1.out HB.out) | (with_reducible refine Kd.C_alloc ?_ _) | (with_reducible refine Kd.C_drewN ?_ _) | (with_reducible refine Kd.C_drew ?_))); (case side2 => exact HC0_1.out); rintro e w18 ⟨rfl, hb⟩; have n0_ := bb BK140 hb; have n1_ := am (below_step (pb HB) hb); clear BK140 HB; have BK140 := n0_; have HB := n1_; clear n0_ n1_; (try clear hb); (try clear hb2); (try clear hk); (try clear hi))))
        go_roundg k2
        case measure => have := HJ1.out; have := HK2.out; omega
        case rel => exact ⟨(wrap64 (x3_2 + 1)), (by first | rfl | (simp; done) | (simp [*]; done)), H', ⟨by have := HJ1.out; have := HK2.out; omega⟩, ⟨by (with_reducible repeat (first | refine blk_drewN ?_ _ | refine blk_drew ?_ | refine blk_alloc ?_ _)); exact BK140.out⟩, ⟨pb HB⟩⟩
      ·
       rw [if_neg c12] at H
       have c12b0 : decide (x3_2 < (wrap64 (64 * (l0_1.length : Int)))) = false := decide_eq_false c12
       clear c12
       obtain rfl := Option.some.inj H
       have hcz19_0 : wr.cell? ⟨gb140, 0, none⟩ = some (.int .i64 a0_0) := (blk_cell BK140.out 0).trans rfl
       have hcz19_1 : wr.cell? ⟨gb140, 1, none⟩ = some (.slice A0_1 l0_1.length c0_1) := (blk_cell BK140.out 1).trans rfl
       have hfz19_0 := blk_frozen BK140.out 0
       have hfz19_1 := blk_frozen BK140.out 1
       go_wp2
       repeat (go_quiet (fail); try go_wp2)
       go_ret
       exact ⟨by first | rfl | (simp [errW_none, errW_some] <;> rfl) | (simp [*, errW_none, errW_some] <;> rfl), pb HB⟩

/-! ### downpourref02_Sum: function 16 -/
mutual
def downpourref02_Sum.l0 : Nat → Int → List ByteArray → List Int → List Int → Int → Option (ByteArray)
 | 0, _, _, _, _, _ => none
 | k + 1, x0, x1, x2, x7, x8 => if x8 < x0 then (downpourref02_Sum.l1 k x0 x1 x2 x7 x8 0 x1 (x1.length : Int) 0) else (some (strOfNums x7))
def downpourref02_Sum.l1 : Nat → Int → List ByteArray → List Int → List Int → Int → Int → List ByteArray → Int → Int → Option (ByteArray)
 | 0, _, _, _, _, _, _, _, _, _ => none
 | k + 1, x0, x1, x2, x7, x8, x9, x18, x19, x20 => if x20 < x19 then (if 0 ≤ x20 then (if x20 < (x18.length : Int) then (if x20 < (x2.length : Int) then (if (rd x2 x20) = 1 then (if 0 ≤ x8 then (if x8 < ((rdOf ByteArray.empty x18 x20).size : Int) then (downpourref02_Sum.l1 k x0 x1 x2 x7 x8 (Go.bits .xor .u8 x9 (bt (rdOf ByteArray.empty x18 x20) x8)) x18 x19 (wrap64 (x20 + 1))) else (none)) else (none)) else (downpourref02_Sum.l1 k x0 x1 x2 x7 x8 x9 x18 x19 (wrap64 (x20 + 1)))) else (none)) else (none)) else (none)) else (if x7.length < 140737488355328 then (downpourref02_Sum.l0 k x0 x1 x2 (x7 ++ [x9]) (wrap64 (x8 + 1))) else (none))
end
def downpourref02_Sum.f (k : Nat) (a0 : Int) (l1 : List ByteArray) (l2 : List Int) : Option (ByteArray) := downpourref02_Sum.l0 k a0 l1 l2 (([] : List Int)) 0
theorem downpourref02_Sum.mono_l : ∀ k, (∀ y0 y1 y2 y3 y4, LeO (downpourref02_Sum.l0 k y0 y1 y2 y3 y4) (downpourref02_Sum.l0 (k + 1) y0 y1 y2 y3 y4)) ∧ (∀ y0 y1 y2 y3 y4 y5 y6 y7 y8, LeO (downpourref02_Sum.l1 k y0 y1 y2 y3 y4 y5 y6 y7 y8) (downpourref02_Sum.l1 (k + 1) y0 y1 y2 y3 y4 y5 y6 y7 y8))
 | 0 => ⟨fun _ _ _ _ _ r h => by simp [downpourref02_Sum.l0] at h, fun _ _ _ _ _ _ _ _ _ r h => by simp [downpourref02_Sum.l1] at h⟩
 | k + 1 => by
  obtain ⟨ih0, ih1⟩ := downpourref02_Sum.mono_l k
  refine ⟨?_, ?_⟩
  ·
   intro y0 y1 y2 y3 y4
   unfold downpourref02_Sum.l0
   repeat' first
   | (with_reducible exact ih0 _ _ _ _ _)
   | (with_reducible exact ih1 _ _ _ _ _ _ _ _ _)
   | (with_reducible exact LeO.refl _)
   | (with_reducible exact LeO.none _)
   | (with_reducible refine LeO.ite ?_ ?_)
   | (with_reducible refine LeO.bind ?_ (fun _ => ?_))
   | exact ih0 _ _ _ _ _
   | exact ih1 _ _ _ _ _ _ _ _ _
   | exact LeO.none _
   | refine LeO.ite ?_ ?_
   | refine LeO.bind ?_ (fun _ => ?_)
  ·
   intro y0 y1 y2 y3 y4 y5 y6 y7 y8
   unfold downpourref02_Sum.l1
   repeat' first
   | (with_reducible exact ih0 _ _ _ _ _)
   | (with_reducible exact ih1 _ _ _ _ _ _ _ _ _)
   | (with_reducible exact LeO.refl _)
   | (with_reducible exact LeO.none _)
   | (with_reducible refine LeO.ite ?_ ?_)
   | (with_reducible refine LeO.bind ?_ (fun _ => ?_))
   | exact ih0 _ _ _ _ _
   | exact ih1 _ _ _ _ _ _ _ _ _
   | exact LeO.none _
   | refine LeO.ite ?_ ?_
   | refine LeO.bind ?_ (fun _ => ?_)
theorem downpourref02_Sum.mono : ∀ a0 a1 a2 k, LeO (downpourref02_Sum.f k a0 a1 a2) (downpourref02_Sum.f (k + 1) a0 a1 a2) := by
 intro a0 a1 a2 k
 obtain ⟨ih0, ih1⟩ := downpourref02_Sum.mono_l k
 unfold downpourref02_Sum.f
 repeat' first
   | (with_reducible exact ih0 _ _ _ _ _)
   | (with_reducible exact ih1 _ _ _ _ _ _ _ _ _)
   | (with_reducible exact LeO.refl _)
   | (with_reducible exact LeO.none _)
   | (with_reducible refine LeO.ite ?_ ?_)
   | (with_reducible refine LeO.bind ?_ (fun _ => ?_))
   | exact ih0 _ _ _ _ _
   | exact ih1 _ _ _ _ _ _ _ _ _
   | exact LeO.none _
   | refine LeO.ite ?_ ?_
   | refine LeO.bind ?_ (fun _ => ?_)
set_option maxHeartbeats 8000000 in
set_option maxRecDepth 100000 in
theorem downpourref02_Sum.calls (k : Nat) (a0 : Int) (A1 : Option Addr) (c1 : Nat) (l1 : List ByteArray) (A2 : Option Addr) (c2 : Nat) (l2 : List Int) (r : ByteArray) (w : World) (hr1 : Kd.C Kd.string w A1 l1.length l1) (hc1 : l1.length ≤ c1) (hr2 : Kd.C (Kd.int .i64) w A2 l2.length l2) (hc2 : l2.length ≤ c2) (h : downpourref02_Sum.f k a0 l1 l2 = some r) :
  Calls Tryd.prog 16 #[.int .i64 a0, .slice A1 l1.length c1, .slice A2 l2.length c2] w fun e w' => e = .returned (.string r) ∧ Below w.heap.size w w' := by
 have HR1 := Aside0.mk hr1
 have HC1 := Aside0.mk hc1
 clear hr1 hc1
 have HR2 := Aside0.mk hr2
 have HC2 := Aside0.mk hc2
 clear hr2 hc2
 have HB := am (Below.refl w.heap.size w)
 have H : (downpourref02_Sum.l0 k a0 l1 l2 (([] : List Int)) 0) = some r := h
 clear h
 obtain ⟨y143, hy143⟩ : ∃ y_ : List Int, y_ = (([] : List Int)) := ⟨_, rfl⟩
 replace H : (downpourref02_Sum.l0 k a0 l1 l2 y143 0) = some r := by first | (rw [hy143]; with_reducible exact H) | (have H2_ := (Option.bind_some _ _).symm.trans H; rw [hy143]; with_reducible exact H2_) | (have H2_ := (Option.bind_some _ _).symm.trans H; with_reducible exact H2_) | with_reducible exact H | (rw [hy143]; exact H) | exact H
 have Ny143 := Aside0.mk hy143
 clear hy143
 have H' := Aside0.mk H
 clear H
 go_enter Tryd.func16, Tryd.ntmps16
 go_wp2_with (first | ((with_reducible refine gate_dst (N := 12) rfl ?_); refine Kd.R_lit (Kd.int .u8) _ 5 ?hg (N := 12) ?hd (xs := ([] : List Int)) (inner := []) (ok := fun _ => True) (okp := fun _ => True) ?hr ?hp (fun _ hk => hk) trivial (Below.refl _ _) (Nat.le_refl _) (by simp) ?_; (case hd => rfl); (case hg => rfl); (case hr => first | (go_simp; done) | (go_simp; rfl)); (case hp => exact (Reps.none _ _)); intro v144 w4 ho5 hb hg_ hnew_; clear hg_ hnew_; (first | rw [← Ny143.out] at ho5 | (simp only [Int.reduceToNat] at ho5; rw [← Ny143.out] at ho5)); have n0_ := am (Kd.R_lower ho5 (below_size (pb HB))); have n1_ := am (below_step (pb HB) hb); clear HB; have HO145 := n0_; have HB := n1_; clear n0_ n1_ hb ho5))
 go_loopg [7, 8] k (fun kq v7 v8 w' => ∃ (x7_1 : List Int) (x8_1 : Int), v8 = .int .i64 x8_1 ∧ Aside0 (downpourref02_Sum.l0 kq a0 l1 l2 x7_1 x8_1 = some r) ∧ Aside0 (kq ≤ k) ∧ Aside0 (Kd.R (Kd.int .u8) 5 w' w.heap.size (fun _ => True) v7 x7_1) ∧ Aside0 (Below w.heap.size w w'))
 case atStart => exact ⟨(y143), (0), (by first | rfl | (simp; done) | (simp [*]; done)), H', ⟨Nat.le_refl _⟩, ⟨by (with_reducible repeat (first | apply Kd.R_alloc | apply Kd.R_drewN | apply Kd.R_drew)); exact HO145.out⟩, ⟨pb HB⟩⟩
 case round =>
  clear H'
  try clear c1
  try clear c2
  try clear p2
  obtain ⟨x7_1, x8_1, rfl, HA, HK1, HO_7, HB⟩ := hrel
  cases gk with
  | zero => exact absurd HA.out (by simp [downpourref02_Sum.l0])
  | succ k1 =>
   have H := HA.out
   clear HA
   simp only [downpourref02_Sum.l0] at H
   by_cases c6 : x8_1 < a0
   ·
    rw [if_pos c6] at H
    have c6b0 : decide (x8_1 < a0) = true := decide_eq_true c6
    clear c6
    have H' := Aside0.mk H
    clear H
    go_wp2
    go_loopg [9, 20] k1 (fun kq v9 v20 w' => ∃ (x9_2 : Int) (x20_2 : Int), v9 = .int .u8 x9_2 ∧ v20 = .int .i64 x20_2 ∧ Aside0 (downpourref02_Sum.l1 kq a0 l1 l2 x7_1 x8_1 x9_2 l1 (l1.length : Int) x20_2 = some r) ∧ Aside0 (kq ≤ k1) ∧ Aside0 (Kd.R (Kd.int .u8) 5 w' w.heap.size (fun _ => True) u7 x7_1) ∧ Aside0 (Below w.heap.size w w'))
    case atStart => exact ⟨(0), (0), (by first | rfl | (simp; done) | (simp [*]; done)), (by first | rfl | (simp; done) | (simp [*]; done)), H', ⟨Nat.le_refl _⟩, ⟨by (with_reducible repeat (first | apply Kd.R_alloc | apply Kd.R_drewN | apply Kd.R_drew)); exact HO_7.out⟩, ⟨pb HB⟩⟩
    case round =>
     clear H'
     try clear c1
     try clear c2
     try clear p2
     try clear c6
     try clear c6b0
     try clear p2
     obtain ⟨x9_2, x20_2, rfl, rfl, HA, HK2, HO_7, HB⟩ := hrel
     cases gk with
     | zero => exact absurd HA.out (by simp [downpourref02_Sum.l1])
     | succ k2 =>
      have H := HA.out
      clear HA
      simp only [downpourref02_Sum.l1] at H
      by_cases c7 : x20_2 < (l1.length : Int)
      ·
       rw [if_pos c7] at H
       have c7b0 : decide (x20_2 < (l1.length : Int)) = true := decide_eq_true c7
       clear c7
       by_cases c8 : 0 ≤ x20_2
       ·
        rw [if_pos c8] at H
        have c8b0 : decide (0 ≤ x20_2) = true := decide_eq_true c8
        clear c8
        by_cases c9 : x20_2 < (l1.length : Int)
        ·
         rw [if_pos c9] at H
         have c9b0 : decide (x20_2 < (l1.length : Int)) = true := decide_eq_true c9
         clear c9
         by_cases c10 : x20_2 < (l2.length : Int)
         ·
          rw [if_pos c10] at H
          have c10b0 : decide (x20_2 < (l2.length : Int)) = true := decide_eq_true c10
          clear c10
          by_cases c11 : (rd l2 x20_2) = 1
          ·
           rw [if_pos c11] at H
           have c11b0 : ((rd l2 x20_2) == 1) = true := beq_iff_eq.mpr c11
           have c11b1 : ((rd l2 x20_2) != 1) = false := bne_eq_false_iff_eq.mpr c11
           clear c11
           by_cases c12 : 0 ≤ x8_1
           ·
            rw [if_pos c12] at H
            have c12b0 : decide (0 ≤ x8_1) = true := decide_eq_true c12
            clear c12
            by_cases c13 : x8_1 < ((rdOf ByteArray.empty l1 x20_2).size : Int)
            ·
             rw [if_pos c13] at H
             have c13b0 : decide (x8_1 < ((rdOf ByteArray.empty l1 x20_2).size : Int)) = true := decide_eq_true c13
             clear c13
             have H' := Aside0.mk H
             clear H
             have p146 : 0 ≤ (x20_2 : Int) := of_decide_eq_true (by first | (with_reducible assumption) | assumption)
             have q146 : x20_2 < (l1.length : Int) := of_decide_eq_true (by first | (with_reducible assumption) | assumption)
             obtain ⟨ad146, e146, hx146_0⟩ := Kd.at_string HR1.out x20_2 p146 q146
             cases e146
             replace hx146_0 := (HB.out.cell (World.block_lt_of_cell? w _ hx146_0)).trans hx146_0
             replace p146 := eq_true p146
             replace q146 := eq_true q146
             have p147 : 0 ≤ (x20_2 : Int) := of_decide_eq_true (by first | (with_reducible assumption) | assumption)
             have q147 : x20_2 < (l2.length : Int) := of_decide_eq_true (by first | (with_reducible assumption) | assumption)
             obtain ⟨ad147, e147, hx147_0⟩ := Kd.at_int HR2.out x20_2 p147 q147
             cases e147
             replace hx147_0 := (HB.out.cell (World.block_lt_of_cell? w _ hx147_0)).trans hx147_0
             replace p147 := eq_true p147
             replace q147 := eq_true q147
             have p14 : 0 ≤ (x8_1 : Int) := of_decide_eq_true (by first | (with_reducible assumption) | assumption)
             have q14 : x8_1 < ((rdOf ByteArray.empty l1 x20_2).size : Int) := of_decide_eq_true (by first | (with_reducible assumption) | assumption)
             have hx14 := bt_at (rdOf ByteArray.empty l1 x20_2) x8_1
             replace p14 := eq_true p14
             replace q14 := eq_true q14
             go_wp2
             go_roundg k2
             case measure => have := HK1.out; have := HK2.out; omega
             case rel => exact ⟨(Go.bits .xor .u8 x9_2 (bt (rdOf ByteArray.empty l1 x20_2) x8_1)), (wrap64 (x20_2 + 1)), (by first | rfl | (simp; done) | (simp [*]; done)), (by first | rfl | (simp; done) | (simp [*]; done)), H', ⟨by have := HK1.out; have := HK2.out; omega⟩, ⟨by (with_reducible repeat (first | apply Kd.R_alloc | apply Kd.R_drewN | apply Kd.R_drew)); exact HO_7.out⟩, ⟨pb HB⟩⟩
            ·
             rw [if_neg c13] at H
             exact absurd H (by simp)
           ·
            rw [if_neg c12] at H
            exact absurd H (by simp)
          ·
           rw [if_neg c11] at H
           have c11b0 : ((rd l2 x20_2) == 1) = false := beq_eq_false_iff_ne.mpr c11
           have c11b1 : ((rd l2 x20_2) != 1) = true := bne_iff_ne.mpr c11
           have H' := Aside0.mk H
           clear H
           have p146 : 0 ≤ (x20_2 : Int) := of_decide_eq_true (by first | (with_reducible assumption) | assumption)
           have q146 : x20_2 < (l1.length : Int) := of_decide_eq_true (by first | (with_reducible assumption) | assumption)
           obtain ⟨ad146, e146, hx146_0⟩ := Kd.at_string HR1.out x20_2 p146 q146
           cases e146
           replace hx146_0 := (HB.out.cell (World.block_lt_of_cell? w _ hx146_0)).trans hx146_0
           replace p146 := eq_true p146
           replace q146 := eq_true q146
           have p147 : 0 ≤ (x20_2 : Int) := of_decide_eq_true (by first | (with_reducible assumption) | assumption)
           have q147 : x20_2 < (l2.length : Int) := of_decide_eq_true (by first | (with_reducible assumption) | assumption)
           obtain ⟨ad147, e147, hx147_0⟩ := Kd.at_int HR2.out x20_2 p147 q147
           cases e147
           replace hx147_0 := (HB.out.cell (World.block_lt_of_cell? w _ hx147_0)).trans hx147_0
           replace p147 := eq_true p147
           replace q147 := eq_true q147
           go_wp2
           go_roundg k2
           case measure => have := HK1.out; have := HK2.out; omega
           case rel => exact ⟨(x9_2), (wrap64 (x20_2 + 1)), (by first | rfl | (simp; done) | (simp [*]; done)), (by first | rfl | (simp; done) | (simp [*]; done)), H', ⟨by have := HK1.out; have := HK2.out; omega⟩, ⟨by (with_reducible repeat (first | apply Kd.R_alloc | apply Kd.R_drewN | apply Kd.R_drew)); exact HO_7.out⟩, ⟨pb HB⟩⟩
         ·
          rw [if_neg c10] at H
          exact absurd H (by simp)
        ·
         rw [if_neg c9] at H
         exact absurd H (by simp)
       ·
        rw [if_neg c8] at H
        exact absurd H (by simp)
      ·
       rw [if_neg c7] at H
       have c7b0 : decide (x20_2 < (l1.length : Int)) = false := decide_eq_false c7
       clear c7
       by_cases c15 : x7_1.length < 140737488355328
       ·
        rw [if_pos c15] at H
        have LMc15 := Aside0.mk c15
        clear c15
        obtain ⟨y148, hy148⟩ : ∃ y_ : List Int, y_ = (x7_1 ++ [x9_2]) := ⟨_, rfl⟩
        replace H : (downpourref02_Sum.l0 k2 a0 l1 l2 y148 (wrap64 (x8_1 + 1))) = some r := by first | (rw [hy148]; with_reducible exact H) | (have H2_ := (Option.bind_some _ _).symm.trans H; rw [hy148]; with_reducible exact H2_) | (have H2_ := (Option.bind_some _ _).symm.trans H; with_reducible exact H2_) | with_reducible exact H | (rw [hy148]; exact H) | exact H
        have Ny148 := Aside0.mk hy148
        clear hy148
        have H' := Aside0.mk H
        clear H
        go_wp2_with (first | ((with_reducible refine gate_builtin (b := .append) (xs := #[.tmp 36, .tmp 38]) rfl ?_); at_builtin; refine Kd.R_append (Kd.int .u8) (w0 := w) w.heap.size rfl (.tmp 36) (.tmp 38) 83 5 (.int .u8 0) 1 rfl Tryd.underlying83 info5 rfl (by decide) (by omega) u7 x7_1 x9_2 [.int .u8 x9_2] (fun _ => True) (fun _ => False) rfl rfl ?aP (fun _ hk => hk.elim) ?aF ?aO ?aB ?aS ?aL ?_; (case aP => exact rfl); (case aB => exact (pb HB)); (case aF => exact (fun _ _ => trivial)); (case aO => exact (pr HO_7)); (case aS => exact (below_size (pb HB))); (case aL => have := LMc15.out; omega); intro v149 w16 ho hb hg hat; rw [← Ny148.out] at ho; have n0_ := am (hb); have n1_ := am (ho); clear HB HO_7; have HB := n0_; have HO150 := n1_; clear n0_ n1_ ho hb hg hat))
        go_roundg k2
        case measure => have := HK1.out; have := HK2.out; omega
        case rel => exact ⟨(y148), (wrap64 (x8_1 + 1)), (by first | rfl | (simp; done) | (simp [*]; done)), H', ⟨by have := HK1.out; have := HK2.out; omega⟩, ⟨by (with_reducible repeat (first | apply Kd.R_alloc | apply Kd.R_drewN | apply Kd.R_drew)); exact HO150.out⟩, ⟨pb HB⟩⟩
       ·
        rw [if_neg c15] at H
        exact absurd H (by simp)
   ·
    rw [if_neg c6] at H
    have c6b0 : decide (x8_1 < a0) = false := decide_eq_false c6
    clear c6
    obtain rfl := Option.some.inj H
    have hcv17 := own_string (P := Tryd.prog) Tryd.underlying83 Tryd.underlying5 Tryd.underlying9 (Kd.own_of_R HO_7.out)
    go_wp2
    go_ret
    exact ⟨by first | rfl | (simp [errW_none, errW_some] <;> rfl) | (simp [*, errW_none, errW_some] <;> rfl), pb HB⟩

/-! ### downpourref02_Bits: function 17 -/
def downpourref02_Bits.l0 : Nat → List Int → Int → Int → List Int → Option (List Int)
 | 0, _, _, _, _ => none
 | k + 1, x3, x4, x152000, x152001 => if x4 < x152000 then ((downpourref01_Bit.f x152000 x152001 x4).bind fun t155 => (if x3.length < 17592186044416 then (downpourref02_Bits.l0 k (x3 ++ [t155]) (wrap64 (x4 + 1)) x152000 x152001) else (none))) else (some x3)
def downpourref02_Bits.f (k : Nat) (a0_0 : Int) (l0_1 : List Int) : Option (List Int) := downpourref02_Bits.l0 k (([] : List Int)) 0 a0_0 l0_1
theorem downpourref02_Bits.mono_l : ∀ k, (∀ y0 y1 y2 y3, LeO (downpourref02_Bits.l0 k y0 y1 y2 y3) (downpourref02_Bits.l0 (k + 1) y0 y1 y2 y3))
 | 0 => fun _ _ _ _ r h => by simp [downpourref02_Bits.l0] at h
 | k + 1 => by
  have ih0 := downpourref02_Bits.mono_l k
  ·
   intro y0 y1 y2 y3
   unfold downpourref02_Bits.l0
   repeat' first
   | (with_reducible exact ih0 _ _ _ _)
   | (with_reducible exact LeO.refl _)
   | (with_reducible exact LeO.none _)
   | (with_reducible refine LeO.ite ?_ ?_)
   | (with_reducible refine LeO.bind ?_ (fun _ => ?_))
   | exact ih0 _ _ _ _
   | exact LeO.none _
   | refine LeO.ite ?_ ?_
   | refine LeO.bind ?_ (fun _ => ?_)
theorem downpourref02_Bits.mono : ∀ a0 a1 k, LeO (downpourref02_Bits.f k a0 a1) (downpourref02_Bits.f (k + 1) a0 a1) := by
 intro a0 a1 k
 have ih0 := downpourref02_Bits.mono_l k
 unfold downpourref02_Bits.f
 repeat' first
   | (with_reducible exact ih0 _ _ _ _)
   | (with_reducible exact LeO.refl _)
   | (with_reducible exact LeO.none _)
   | (with_reducible refine LeO.ite ?_ ?_)
   | (with_reducible refine LeO.bind ?_ (fun _ => ?_))
   | exact ih0 _ _ _ _
   | exact LeO.none _
   | refine LeO.ite ?_ ?_
   | refine LeO.bind ?_ (fun _ => ?_)
set_option maxHeartbeats 8000000 in
set_option maxRecDepth 100000 in
theorem downpourref02_Bits.calls (k : Nat) (a0_0 : Int) (A0_1 : Option Addr) (c0_1 : Nat) (l0_1 : List Int) (r : List Int) (w : World) (hr0_1 : Kd.C (Kd.int .u64) w A0_1 l0_1.length l0_1) (hc0_1 : l0_1.length ≤ c0_1) (h : downpourref02_Bits.f k a0_0 l0_1 = some r) :
  Calls Tryd.prog 17 #[.agg #[.int .i64 a0_0, .slice A0_1 l0_1.length c0_1]] w fun e w' => ∃ v0_ : Value, e = .returned (v0_) ∧ Kd.R (Kd.int .i64) 3 w' w.heap.size (fun _ => True) v0_ r ∧ Below w.heap.size w w' := by
 have hu25 := Tryd.underlying25
 have HR0_1 := Aside0.mk hr0_1
 have HC0_1 := Aside0.mk hc0_1
 clear hr0_1 hc0_1
 have HB := am (Below.refl w.heap.size w)
 have H : (downpourref02_Bits.l0 k (([] : List Int)) 0 a0_0 l0_1) = some r := h
 clear h
 obtain ⟨y152, hy152⟩ : ∃ y_ : List Int, y_ = (([] : List Int)) := ⟨_, rfl⟩
 replace H : (downpourref02_Bits.l0 k y152 0 a0_0 l0_1) = some r := by first | (rw [hy152]; with_reducible exact H) | (have H2_ := (Option.bind_some _ _).symm.trans H; rw [hy152]; with_reducible exact H2_) | (have H2_ := (Option.bind_some _ _).symm.trans H; with_reducible exact H2_) | with_reducible exact H | (rw [hy152]; exact H) | exact H
 have Ny152 := Aside0.mk hy152
 clear hy152
 have H' := Aside0.mk H
 clear H
 go_enter Tryd.func17, Tryd.ntmps17
 go_wp2_with (first | ((with_reducible refine gate_dst (N := 1) rfl ?_); refine box_event ?hg (N := 1) ?hd (cs := #[.int .i64 a0_0, .slice A0_1 l0_1.length c0_1]) (t := 25) ?hr ?_; (case hd => rfl); (case hg => rfl); (case hr => first | (go_simp; done) | (go_simp; rfl)); intro gb151 hg w2 hbox hb; have n0_ := am (below_step (pb HB) hb); have n1_ := am (hbox); have n2_ := am ((by rw [hg]; exact (below_size (pb HB)) : w.heap.size ≤ gb151)); have n3_ := am ((by rw [hg]; exact (below_size (pb HB)) : w.heap.size ≤ gb151)); clear HB; have HB := n0_; have BK151 := n1_; have GW151 := n2_; have GE151 := n3_; clear n0_ n1_ n2_ n3_ hb hbox hg) | ((with_reducible refine gate_dst (N := 5) rfl ?_); refine Kd.R_lit (Kd.int .i64) _ 3 ?hg (N := 5) ?hd (xs := ([] : List Int)) (inner := []) (ok := fun _ => True) (okp := fun _ => True) ?hr ?hp (fun _ hk => hk) trivial (Below.refl _ _) (Nat.le_refl _) (by simp) ?_; (case hd => rfl); (case hg => rfl); (case hr => first | (go_simp; done) | (go_simp; rfl)); (case hp => exact (Reps.none _ _)); intro v153 w3 ho4 hb hg_ hnew_; clear hg_ hnew_; (first | rw [← Ny152.out] at ho4 | (simp only [Int.reduceToNat] at ho4; rw [← Ny152.out] at ho4)); have n0_ := am (Kd.R_lower ho4 (below_size (pb HB))); have n1_ := bb BK151 hb; have n2_ := am (below_step (pb HB) hb); clear BK151 HB; have HO154 := n0_; have BK151 := n1_; have HB := n2_; clear n0_ n1_ n2_ hb ho4))
 go_loopg [3, 4] k (fun kq v3 v4 w' => ∃ (x3_1 : List Int) (x4_1 : Int), v4 = .int .i64 x4_1 ∧ Aside0 (downpourref02_Bits.l0 kq x3_1 x4_1 a0_0 l0_1 = some r) ∧ Aside0 (kq ≤ k) ∧ Aside0 (Kd.R (Kd.int .i64) 3 w' w.heap.size (fun _ => True) v3 x3_1) ∧ Aside0 (w'.heap[gb151]? = some (.cells #[.int .i64 a0_0, (.slice A0_1 l0_1.length c0_1)] 25 (0, 0))) ∧ Aside0 (Below w.heap.size w w'))
 case atStart => exact ⟨(y152), (0), (by first | rfl | (simp; done) | (simp [*]; done)), H', ⟨Nat.le_refl _⟩, ⟨by (with_reducible repeat (first | apply Kd.R_alloc | apply Kd.R_drewN | apply Kd.R_drew)); exact HO154.out⟩, ⟨by (with_reducible repeat (first | refine blk_drewN ?_ _ | refine blk_drew ?_ | refine blk_alloc ?_ _)); exact BK151.out⟩, ⟨pb HB⟩⟩
 case round =>
  clear H'
  try clear c1
  try clear p2
  obtain ⟨x3_1, x4_1, rfl, HA, HK1, HO_3, BK151, HB⟩ := hrel
  cases gk with
  | zero => exact absurd HA.out (by simp [downpourref02_Bits.l0])
  | succ k1 =>
   have H := HA.out
   clear HA
   simp only [downpourref02_Bits.l0] at H
   by_cases c5 : x4_1 < a0_0
   ·
    rw [if_pos c5] at H
    have c5b0 : decide (x4_1 < a0_0) = true := decide_eq_true c5
    clear c5
    replace H := Option.bind_eq_some_iff.mp H
    obtain ⟨t155, A60, H⟩ := H
    replace H : (if x3_1.length < 17592186044416 then (downpourref02_Bits.l0 k1 (x3_1 ++ [t155]) (wrap64 (x4_1 + 1)) a0_0 l0_1) else (none)) = some r := H
    have A6 := Aside0.mk A60
    clear A60
    by_cases c7 : x3_1.length < 17592186044416
    ·
     rw [if_pos c7] at H
     have LMc7 := Aside0.mk c7
     clear c7
     obtain ⟨y156, hy156⟩ : ∃ y_ : List Int, y_ = (x3_1 ++ [t155]) := ⟨_, rfl⟩
     replace H : (downpourref02_Bits.l0 k1 y156 (wrap64 (x4_1 + 1)) a0_0 l0_1) = some r := by first | (rw [hy156]; with_reducible exact H) | (have H2_ := (Option.bind_some _ _).symm.trans H; rw [hy156]; with_reducible exact H2_) | (have H2_ := (Option.bind_some _ _).symm.trans H; with_reducible exact H2_) | with_reducible exact H | (rw [hy156]; exact H) | exact H
     have Ny156 := Aside0.mk hy156
     clear hy156
     have H' := Aside0.mk H
     clear H
     have hcz8_0 : wr.cell? ⟨gb151, 0, none⟩ = some (.int .i64 a0_0) := (blk_cell BK151.out 0).trans rfl
     have hcz8_1 : wr.cell? ⟨gb151, 1, none⟩ = some (.slice A0_1 l0_1.length c0_1) := (blk_cell BK151.out 1).trans rfl
     have hfz8_0 := blk_frozen BK151.out 0
     have hfz8_1 := blk_frozen BK151.out 1
     go_wp2_with (first | ((with_reducible refine gate_callee (f := 26) rfl ?_); refine goesL_ (some 15) rfl rfl Tryd.func26 (by kernel_rfl) rfl #[.agg #[.int .i64 a0_0, .slice A0_1 l0_1.length c0_1], .int .i64 x4_1] rfl (by (try simp only [List.map_toArray, List.map_cons, List.map_nil]); first | done | rfl | (simp only [List.length_drop, List.length_take]; rfl)) ?_; (with_reducible refine (downpourref01_Bit.calls a0_0 _ _ l0_1 x4_1 t155 _ ?side1 ?side2 A6.out).mono ?_); (case side1 => repeat (first | exact (Kd.C_below HR0_1.out HB.out) | (with_reducible refine Kd.C_alloc ?_ _) | (with_reducible refine Kd.C_drewN ?_ _) | (with_reducible refine Kd.C_drew ?_))); (case side2 => exact HC0_1.out); rintro e w9 ⟨rfl, hb⟩; refine ⟨_, rfl, ?_⟩; have n0_ := am (Kd.R_below (pr HO_3) hb); have n1_ := bb BK151 hb; have n2_ := am (below_step (pb HB) hb); clear HO_3 BK151 HB; have HO_3 := n0_; have BK151 := n1_; have HB := n2_; clear n0_ n1_ n2_; (try clear hb); (try clear hb2); (try clear hk); (try clear hi)) | ((with_reducible refine gate_builtin (b := .append) (xs := #[.tmp 12, .tmp 16]) rfl ?_); at_builtin; refine Kd.R_append (Kd.int .i64) (w0 := w) w.heap.size rfl (.tmp 12) (.tmp 16) 34 3 (.int .i64 0) 8 rfl Tryd.underlying34 info3 rfl (by decide) (by omega) u3 x3_1 t155 [.int .i64 t155] (fun _ => True) (fun _ => False) rfl rfl ?aP (fun _ hk => hk.elim) ?aF ?aO ?aB ?aS ?aL ?_; (case aP => exact rfl); (case aB => exact (pb HB)); (case aF => exact (fun _ _ => trivial)); (case aO => exact (pr HO_3)); (case aS => exact (below_size (pb HB))); (case aL => have := LMc7.out; omega); intro v157 w10 ho hb hg hat; rw [← Ny156.out] at ho; have n0_ := am (blk_grown (g := gb151) (o := .cells #[.int .i64 a0_0, .slice A0_1 l0_1.length c0_1] 25 (0, 0)) (pk BK151) hg (Kd.R_ne HO_3.out BK151.out (by decide))); have n1_ := am (hb); have n2_ := am (ho); clear BK151 HB HO_3; have BK151 := n0_; have HB := n1_; have HO158 := n2_; clear n0_ n1_ n2_ ho hb hg hat))
     go_roundg k1
     case measure => have := HK1.out; omega
     case rel => exact ⟨(y156), (wrap64 (x4_1 + 1)), (by first | rfl | (simp; done) | (simp [*]; done)), H', ⟨by have := HK1.out; omega⟩, ⟨by (with_reducible repeat (first | apply Kd.R_alloc | apply Kd.R_drewN | apply Kd.R_drew)); exact HO158.out⟩, ⟨by (with_reducible repeat (first | refine blk_drewN ?_ _ | refine blk_drew ?_ | refine blk_alloc ?_ _)); exact BK151.out⟩, ⟨pb HB⟩⟩
    ·
     rw [if_neg c7] at H
     exact absurd H (by simp)
   ·
    rw [if_neg c5] at H
    have c5b0 : decide (x4_1 < a0_0) = false := decide_eq_false c5
    clear c5
    obtain rfl := Option.some.inj H
    have hcz11_0 : wr.cell? ⟨gb151, 0, none⟩ = some (.int .i64 a0_0) := (blk_cell BK151.out 0).trans rfl
    have hcz11_1 : wr.cell? ⟨gb151, 1, none⟩ = some (.slice A0_1 l0_1.length c0_1) := (blk_cell BK151.out 1).trans rfl
    have hfz11_0 := blk_frozen BK151.out 0
    have hfz11_1 := blk_frozen BK151.out 1
    go_wp2
    go_ret
    exact ⟨_, by first | rfl | (simp [errW_none, errW_some] <;> rfl) | (simp [*, errW_none, errW_some] <;> rfl), by (with_reducible repeat (first | apply Kd.R_alloc | apply Kd.R_drewN | apply Kd.R_drew)); exact HO_3.out, pb HB⟩

end Go.Proofs.YtfcedhejbnoinaaDoor.PB
