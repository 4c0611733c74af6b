-- PRINTED by print.py (a twelfth state) out of the translation. Not trusted: Lean checks it.
import Derived.Test.YtfcedhejbnoinaaDoorPKx0
import Derived.Test.YtfcedhejbnoinaaDoorPKx1
import Derived.Test.YtfcedhejbnoinaaDoorPKx5
import Derived.Test.YtfcedhejbnoinaaDoorPKx6
namespace Go.Proofs.YtfcedhejbnoinaaDoor.PK
open Go.RowKit Go.Proofs.YtfcedhejbnoinaaDoorW.PrintWords Go.Proofs.YtfcedhejbnoinaaDoorW.PrintLast Go.Proofs.YtfcedhejbnoinaaDoorW.PrintMore
open Bool renaming true → T, false → F
open List renaming setIfInBounds_toArray → q1, set_cons_zero → q2, set_cons_succ → q3
attribute [local go_sem] run_store_func max2_int min2_int max_two min_two max_three min_three max_four min_four   -- for this text's walks alone
set_option linter.unusedVariables false
set_option linter.unusedSimpArgs false

/-! ### reduce_Rank: function 49 -/
def reduce_Rank.f (k : Nat) (a0_0 : Int) (l0_1 : List (S25)) : Option (Int × Int) := (reduce_Echelon.f k a0_0 l0_1).bind fun bt240 => (some ((bt240.2.2.1.length : Int), bt240.2.2.2))
theorem reduce_Rank.mono : ∀ a0 a1 k, LeO (reduce_Rank.f k a0 a1) (reduce_Rank.f (k + 1) a0 a1) := by
 intro a0 a1 k
 unfold reduce_Rank.f
 repeat' first
   | (with_reducible exact reduce_Echelon.mono _ _ _)
   | (with_reducible exact LeO.refl _)
   | (with_reducible exact LeO.none _)
   | (with_reducible refine LeO.ite ?_ ?_)
   | (with_reducible refine LeO.bind ?_ (fun _ => ?_))
   | exact reduce_Echelon.mono _ _ _
   | exact LeO.none _
   | refine LeO.ite ?_ ?_
   | refine LeO.bind ?_ (fun _ => ?_)
set_option maxHeartbeats 8000000 in
set_option maxRecDepth 100000 in
theorem reduce_Rank.calls (k : Nat) (a0_0 : Int) (A0_1 : Option Addr) (c0_1 : Nat) (l0_1 : List (S25)) (r1 : Int) (r2 : Int) (w : World) (hr0_1 : Kd.C k25 w A0_1 l0_1.length l0_1) (hc0_1 : l0_1.length ≤ c0_1) (h : reduce_Rank.f k a0_0 l0_1 = some (r1, r2)) :
  Calls Tryd.prog 49 #[.agg #[.int .i64 a0_0, .slice A0_1 l0_1.length c0_1]] w fun e w' => e = .returned (.tuple #[.int .i64 r1, .int .i64 r2]) ∧ Below w.heap.size w w' := by
 have hu55 := Tryd.underlying55
 have HR0_1 := Aside0.mk hr0_1
 have HC0_1 := Aside0.mk hc0_1
 clear hr0_1 hc0_1
 have HB := am (Below.refl w.heap.size w)
 have H : ((reduce_Echelon.f k a0_0 l0_1).bind fun bt240 => (some ((bt240.2.2.1.length : Int), bt240.2.2.2))) = some (r1, r2) := h
 clear h
 replace H := Option.bind_eq_some_iff.mp H
 obtain ⟨⟨t240, t241, t244, t247⟩, A20, H⟩ := H
 replace H : (some ((t244.length : Int), t247)) = some (r1, r2) := H
 have A2 := Aside0.mk A20
 clear A20
 simp only [Option.some.injEq, Prod.mk.injEq] at H
 obtain ⟨rfl, rfl⟩ := H
 go_enter Tryd.func49, Tryd.ntmps49
 go_wp2_with (first | ((with_reducible refine gate_dst (N := 1) rfl ?_); refine box_event ?hg (N := 1) ?hd (cs := #[.int .i64 a0_0, .slice A0_1 l0_1.length c0_1]) (t := 55) ?hr ?_; (case hd => rfl); (case hg => rfl); (case hr => first | (go_simp; done) | (go_simp; rfl)); intro gb239 hg w3 hbox hb; have n0_ := am (below_step (pb HB) hb); have n1_ := am (hbox); have n2_ := am ((by rw [hg]; exact (below_size (pb HB)) : w.heap.size ≤ gb239)); have n3_ := am ((by rw [hg]; exact (below_size (pb HB)) : w.heap.size ≤ gb239)); clear HB; have HB := n0_; have BK239 := n1_; have GW239 := n2_; have GE239 := n3_; clear n0_ n1_ n2_ n3_ hb hbox hg; have hcz4_0 : w3.cell? ⟨gb239, 0, none⟩ = some (.int .i64 a0_0) := (blk_cell BK239.out 0).trans rfl; have hcz4_1 : w3.cell? ⟨gb239, 1, none⟩ = some (.slice A0_1 l0_1.length c0_1) := (blk_cell BK239.out 1).trans rfl; have hfz4_0 := blk_frozen BK239.out 0; have hfz4_1 := blk_frozen BK239.out 1) | ((with_reducible refine gate_callee (f := 47) rfl ?_); refine goesL_ (some 9) rfl rfl Tryd.func47 (by kernel_rfl) rfl #[.agg #[.int .i64 a0_0, .slice A0_1 l0_1.length c0_1]] rfl (by (try simp only [List.map_toArray, List.map_cons, List.map_nil]); first | done | rfl | (simp only [List.length_drop, List.length_take]; rfl)) ?_; (with_reducible refine (reduce_Echelon.calls k a0_0 (fun k_ => k_ < w.heap.size) _ _ l0_1 t240 t241 t244 t247 _ ?side1 A2.out).mono ?_); (case side1 => exact Kd.V_mk HC0_1.out (Kd.F_below (Kd.C_F k25_heap HR0_1.out) (pb HB))); rintro e w5 ⟨v242, v245, rfl, ho0, ho1, hb⟩; refine ⟨_, rfl, ?_⟩; have n0_ := am (Kd.N_lower (Kd.N_mono (ok' := fun k_ => some k_ ≠ (v245 : Value).ownBlock ∧ k_ ≠ gb239) ho0 (fun k_ hk_ => ⟨hk_.2, Or.elim hk_.1 (fun hs_ => fun e_ => Nat.not_le.2 hs_ (by rw [e_]; exact GW239.out)) (fun hn_ => (Kd.freshB (g := gb239) (o := .cells #[.int .i64 a0_0, .slice A0_1 l0_1.length c0_1] 55 (0, 0)) (pk BK239) k_ hn_))⟩)) (below_size (pb HB))); have n1_ := am (Kd.R_lower (Kd.R_mono (ok' := fun k_ => True) ho1 (fun _ hk_ => trivial)) (below_size (pb HB))); have n2_ := bb BK239 hb; have n3_ := am (below_step (pb HB) hb); clear BK239 HB; have HO243 := n0_; have HO246 := n1_; have BK239 := n2_; have HB := n3_; clear n0_ n1_ n2_ n3_; (try clear hb); (try clear hb2); (try clear hk); (try clear hi); (try clear ho0); (try clear ho1)) | ((with_reducible refine gate_dst (N := 4) rfl ?_); refine box_event ?hg (N := 4) ?hd (cs := #[.int .i64 0, .slice none 0 0]) (t := 55) ?hr ?_; (case hd => rfl); (case hg => rfl); (case hr => first | (go_simp; done) | (go_simp; rfl)); intro gb248 hg w6 hbox hb; have n0_ := am (Kd.N_below (Kd.N_elderB (pn HO243) gb248 (Nat.le_of_eq hg.symm)) hb); have n1_ := am (Kd.R_below (pr HO246) hb); have n2_ := bb BK239 hb; have n3_ := am (below_step (pb HB) hb); have n4_ := am (hbox); have n5_ := am ((by rw [hg]; exact (below_size (pb HB)) : w.heap.size ≤ gb248)); have n6_ := am ((by rw [hg]; exact (below_size (pb HB)) : w.heap.size ≤ gb248)); have n7_ := am ((by rw [hg]; exact Nat.ne_of_lt (bl BK239) : gb239 ≠ gb248)); have n8_ := am ((by rw [hg]; exact Nat.ne_of_gt (bl BK239) : gb248 ≠ gb239)); clear HO243 HO246 BK239 HB; have HO243 := n0_; have HO246 := n1_; have BK239 := n2_; have HB := n3_; have BK248 := n4_; have GW248 := n5_; have GE248 := n6_; have NB239_248 := n7_; have NB248_239 := n8_; clear n0_ n1_ n2_ n3_ n4_ n5_ n6_ n7_ n8_ hb hbox hg; have hnb7 := NB248_239.out; have hnc7 := NB239_248.out; have hcz8_0 : w6.cell? ⟨gb248, 0, none⟩ = some (.int .i64 0) := (blk_cell BK248.out 0).trans rfl; have hcz8_1 : w6.cell? ⟨gb248, 1, none⟩ = some (.slice none 0 0) := (blk_cell BK248.out 1).trans rfl; have hfz8_0 := blk_frozen BK248.out 0; have hfz8_1 := blk_frozen BK248.out 1; obtain ⟨Ao9, co9, eo9⟩ := Kd.N_slice HO243.out; subst eo9; obtain ⟨Ao10, co10, eo10⟩ := Kd.R_slice HO246.out; subst eo10))
 go_ret2
 exact ⟨by first | rfl | (simp [errW_none, errW_some] <;> rfl) | (simp [*, errW_none, errW_some] <;> rfl), pb HB⟩

/-! ### downpourlaw04_alive: function 48 -/
def downpourlaw04_alive.f (k : Nat)  : Option (Bool) := (reduce_Rank.f k 2 (([(⟨2, (([3] : List Int))⟩ : S25), (⟨2, (([3] : List Int))⟩ : S25)] : List (S25)))).bind fun bt258 => (if bt258.2 = 0 then (some (bt258.1 == 1)) else (some false))
theorem downpourlaw04_alive.mono : ∀ k, LeO (downpourlaw04_alive.f k ) (downpourlaw04_alive.f (k + 1) ) := by
 intro  k
 unfold downpourlaw04_alive.f
 repeat' first
   | (with_reducible exact reduce_Rank.mono _ _ _)
   | (with_reducible exact LeO.refl _)
   | (with_reducible exact LeO.none _)
   | (with_reducible refine LeO.ite ?_ ?_)
   | (with_reducible refine LeO.bind ?_ (fun _ => ?_))
   | exact reduce_Rank.mono _ _ _
   | exact LeO.none _
   | refine LeO.ite ?_ ?_
   | refine LeO.bind ?_ (fun _ => ?_)
set_option maxHeartbeats 8000000 in
set_option maxRecDepth 100000 in
theorem downpourlaw04_alive.calls (k : Nat)  (r : Bool) (w : World) (h : downpourlaw04_alive.f k  = some r) :
  Calls Tryd.prog 48 #[] w fun e w' => e = .returned (.bool r) ∧ Below w.heap.size w w' := by
 have hu25 := Tryd.underlying25
 have hu55 := Tryd.underlying55
 have HB := am (Below.refl w.heap.size w)
 have H : ((reduce_Rank.f k 2 (([(⟨2, (([3] : List Int))⟩ : S25), (⟨2, (([3] : List Int))⟩ : S25)] : List (S25)))).bind fun bt258 => (if bt258.2 = 0 then (some (bt258.1 == 1)) else (some false))) = some r := h
 clear h
 obtain ⟨y249, hy249⟩ : ∃ y_ : List Int, y_ = (([3] : List Int)) := ⟨_, rfl⟩
 replace H : ((reduce_Rank.f k 2 (([(⟨2, y249⟩ : S25), (⟨2, (([3] : List Int))⟩ : S25)] : List (S25)))).bind fun bt258 => (if bt258.2 = 0 then (some (bt258.1 == 1)) else (some false))) = some r := by first | (rw [hy249]; with_reducible exact H) | (have H2_ := (Option.bind_some _ _).symm.trans H; rw [hy249]; with_reducible exact H2_) | (have H2_ := (Option.bind_some _ _).symm.trans H; with_reducible exact H2_) | with_reducible exact H | (rw [hy249]; exact H) | exact H
 have Ny249 := Aside0.mk hy249
 clear hy249
 obtain ⟨y252, hy252⟩ : ∃ y_ : List Int, y_ = (([3] : List Int)) := ⟨_, rfl⟩
 replace H : ((reduce_Rank.f k 2 (([(⟨2, y249⟩ : S25), (⟨2, y252⟩ : S25)] : List (S25)))).bind fun bt258 => (if bt258.2 = 0 then (some (bt258.1 == 1)) else (some false))) = some r := by first | (rw [hy252]; with_reducible exact H) | (have H2_ := (Option.bind_some _ _).symm.trans H; rw [hy252]; with_reducible exact H2_) | (have H2_ := (Option.bind_some _ _).symm.trans H; with_reducible exact H2_) | with_reducible exact H | (rw [hy252]; exact H) | exact H
 have Ny252 := Aside0.mk hy252
 clear hy252
 obtain ⟨y255, hy255⟩ : ∃ y_ : List (S25), y_ = (([(⟨2, y249⟩ : S25), (⟨2, y252⟩ : S25)] : List (S25))) := ⟨_, rfl⟩
 replace H : ((reduce_Rank.f k 2 y255).bind fun bt258 => (if bt258.2 = 0 then (some (bt258.1 == 1)) else (some false))) = some r := by first | (rw [hy255]; with_reducible exact H) | (have H2_ := (Option.bind_some _ _).symm.trans H; rw [hy255]; with_reducible exact H2_) | (have H2_ := (Option.bind_some _ _).symm.trans H; with_reducible exact H2_) | with_reducible exact H | (rw [hy255]; exact H) | exact H
 have Ny255 := Aside0.mk hy255
 clear hy255
 replace H := Option.bind_eq_some_iff.mp H
 obtain ⟨⟨t258, t259⟩, A10, H⟩ := H
 replace H : (if t259 = 0 then (some (t258 == 1)) else (some false)) = some r := H
 have A1 := Aside0.mk A10
 clear A10
 by_cases c2 : t259 = 0
 ·
  rw [if_pos c2] at H
  have c2b0 : (t259 == 0) = true := beq_iff_eq.mpr c2
  have c2b1 : (t259 != 0) = false := bne_eq_false_iff_eq.mpr c2
  clear c2
  obtain rfl := Option.some.inj H
  go_enter Tryd.func48, Tryd.ntmps48
  go_wp2_with (first | ((with_reducible refine gate_dst (N := 4) rfl ?_); refine Kd.R_lit (Kd.int .u64) _ 90 ?hg (N := 4) ?hd (xs := ([3] : List Int)) (inner := [.int .u64 3]) (ok := fun _ => True) (okp := fun _ => True) ?hr ?hp (fun _ hk => hk) trivial (Below.refl _ _) (Nat.le_refl _) (by simp) ?_; (case hd => rfl); (case hg => rfl); (case hr => first | (go_simp; done) | (go_simp; rfl)); (case hp => exact (Reps.one (show Kd.M (Kd.int .u64) _ _ _ 3 [.int .u64 3] from rfl) (Reps.none _ _))); intro v250 w3 ho4 hb hg_ hnew_; clear hg_ hnew_; (first | rw [← Ny249.out] at ho4 | (simp only [Int.reduceToNat] at ho4; rw [← Ny249.out] at ho4)); have n0_ := am (Kd.R_lower ho4 (below_size (pb HB))); have n1_ := am (below_step (pb HB) hb); clear HB; have HO251 := n0_; have HB := n1_; clear n0_ n1_ hb ho4; obtain ⟨Ao5, co5, eo5⟩ := Kd.R_slice HO251.out; subst eo5) | ((with_reducible refine gate_dst (N := 6) rfl ?_); refine Kd.R_lit (Kd.int .u64) _ 90 ?hg (N := 6) ?hd (xs := ([3] : List Int)) (inner := [.int .u64 3]) (ok := fun _ => True) (okp := fun _ => True) ?hr ?hp (fun _ hk => hk) trivial (Below.refl _ _) (Nat.le_refl _) (by simp) ?_; (case hd => rfl); (case hg => rfl); (case hr => first | (go_simp; done) | (go_simp; rfl)); (case hp => exact (Reps.one (show Kd.M (Kd.int .u64) _ _ _ 3 [.int .u64 3] from rfl) (Reps.none _ _))); intro v253 w6 ho7 hb hg_ hnew_; clear hg_ hnew_; (first | rw [← Ny252.out] at ho7 | (simp only [Int.reduceToNat] at ho7; rw [← Ny252.out] at ho7)); have n0_ := am (Kd.R_elder' (pr HO251) (Kd.R_base ho7) hb); have n1_ := am (Kd.R_lower (Kd.R_new' ho7 (Kd.R_lt (pr HO251))) (below_size (pb HB))); have n2_ := am (below_step (pb HB) hb); clear HO251 HB; have HO251 := n0_; have HO254 := n1_; have HB := n2_; clear n0_ n1_ n2_ hb ho7; obtain ⟨Ao8, co8, eo8⟩ := Kd.R_slice HO254.out; subst eo8) | ((with_reducible refine gate_dst (N := 8) rfl ?_); refine Kd.N_lit k25 _ 25 ?hg (N' := 8) ?hd (xs := ([(⟨2, y249⟩ : S25), (⟨2, y252⟩ : S25)] : List (S25))) (inner := [.int .i64 2, .slice Ao5 y249.length co5, .int .i64 2, .slice Ao8 y252.length co8]) (ok := (fun _ => True)) (okp := (fun _ => True)) ?hr ?hp (fun _ hk => hk) ((show ∀ k_, w6.heap.size ≤ k_ → (fun _ => True) k_ from fun k_ hk => trivial) _ (Nat.le_refl _)) (Below.refl _ _) (Nat.le_refl _) (by simp) ?_; (case hd => rfl); (case hg => rfl); (case hr => first | (go_simp; done) | (go_simp; rfl)); (case hp => exact (Reps.c2 (show Kd.FK k25 _ _ (⟨2, y249⟩ : S25) [.int .i64 2, .slice Ao5 y249.length co5] from (k25_mkF _ _ (⟨2, y249⟩ : S25) (Kd.R_reads' (Kd.R_mono (ok' := (fun _ => True)) (HO251.out) (fun k_ hk => trivial))).2.1 (Kd.R_F (Kd.R_mono (ok' := (fun _ => True)) (HO251.out) (fun k_ hk => trivial))))) (Reps.c2 (show Kd.FK k25 _ _ (⟨2, y252⟩ : S25) [.int .i64 2, .slice Ao8 y252.length co8] from (k25_mkF _ _ (⟨2, y252⟩ : S25) (Kd.R_reads' (Kd.R_mono (ok' := (fun _ => True)) (HO254.out) (fun k_ hk => trivial))).2.1 (Kd.R_F (Kd.R_mono (ok' := (fun _ => True)) (HO254.out) (fun k_ hk => trivial))))) (Reps.none _ _)))); intro v256 w9 ho10 hb hg_ hnew_; clear hg_ hnew_; (first | rw [← Ny255.out] at ho10 | (simp only [Int.reduceToNat] at ho10; rw [← Ny255.out] at ho10)); have n0_ := am (Kd.N_lower ho10 (below_size (pb HB))); have n1_ := am (below_step (pb HB) hb); clear HB HO251 HO254; have HO257 := n0_; have HB := n1_; clear n0_ n1_ hb ho10; obtain ⟨Ao11, co11, eo11⟩ := Kd.N_slice HO257.out; subst eo11) | ((with_reducible refine gate_callee (f := 49) rfl ?_); refine goesL_ (some 10) rfl rfl Tryd.func49 (by kernel_rfl) rfl #[.agg #[.int .i64 2, .slice Ao11 y255.length co11]] rfl (by (try simp only [List.map_toArray, List.map_cons, List.map_nil]); first | done | rfl | (simp only [List.length_drop, List.length_take]; rfl)) ?_; (with_reducible refine (reduce_Rank.calls k 2 _ _ y255 t258 t259 _ ?side1 ?side2 A1.out).mono ?_); (case side1 => repeat (first | exact (Kd.N_reads' HO257.out).2.2 | (with_reducible refine Kd.C_alloc ?_ _) | (with_reducible refine Kd.C_drewN ?_ _) | (with_reducible refine Kd.C_drew ?_))); (case side2 => exact (Kd.N_reads' HO257.out).2.1); rintro e w12 ⟨rfl, hb⟩; refine ⟨_, rfl, ?_⟩; have n0_ := am (Kd.N_below (pn HO257) hb); have n1_ := am (below_step (pb HB) hb); clear HO257 HB; have HO257 := n0_; have HB := n1_; clear n0_ n1_; (try clear hb); (try clear hb2); (try clear hk); (try clear hi)))
  go_ret
  exact ⟨by first | rfl | (simp [errW_none, errW_some] <;> rfl) | (simp [*, errW_none, errW_some] <;> rfl), pb HB⟩
 ·
  rw [if_neg c2] at H
  have c2b0 : (t259 == 0) = false := beq_eq_false_iff_ne.mpr c2
  have c2b1 : (t259 != 0) = true := bne_iff_ne.mpr c2
  obtain rfl := Option.some.inj H
  go_enter Tryd.func48, Tryd.ntmps48
  go_wp2_with (first | ((with_reducible refine gate_dst (N := 4) rfl ?_); refine Kd.R_lit (Kd.int .u64) _ 90 ?hg (N := 4) ?hd (xs := ([3] : List Int)) (inner := [.int .u64 3]) (ok := fun _ => True) (okp := fun _ => True) ?hr ?hp (fun _ hk => hk) trivial (Below.refl _ _) (Nat.le_refl _) (by simp) ?_; (case hd => rfl); (case hg => rfl); (case hr => first | (go_simp; done) | (go_simp; rfl)); (case hp => exact (Reps.one (show Kd.M (Kd.int .u64) _ _ _ 3 [.int .u64 3] from rfl) (Reps.none _ _))); intro v250 w13 ho14 hb hg_ hnew_; clear hg_ hnew_; (first | rw [← Ny249.out] at ho14 | (simp only [Int.reduceToNat] at ho14; rw [← Ny249.out] at ho14)); have n0_ := am (Kd.R_lower ho14 (below_size (pb HB))); have n1_ := am (below_step (pb HB) hb); clear HB; have HO251 := n0_; have HB := n1_; clear n0_ n1_ hb ho14; obtain ⟨Ao15, co15, eo15⟩ := Kd.R_slice HO251.out; subst eo15) | ((with_reducible refine gate_dst (N := 6) rfl ?_); refine Kd.R_lit (Kd.int .u64) _ 90 ?hg (N := 6) ?hd (xs := ([3] : List Int)) (inner := [.int .u64 3]) (ok := fun _ => True) (okp := fun _ => True) ?hr ?hp (fun _ hk => hk) trivial (Below.refl _ _) (Nat.le_refl _) (by simp) ?_; (case hd => rfl); (case hg => rfl); (case hr => first | (go_simp; done) | (go_simp; rfl)); (case hp => exact (Reps.one (show Kd.M (Kd.int .u64) _ _ _ 3 [.int .u64 3] from rfl) (Reps.none _ _))); intro v253 w16 ho17 hb hg_ hnew_; clear hg_ hnew_; (first | rw [← Ny252.out] at ho17 | (simp only [Int.reduceToNat] at ho17; rw [← Ny252.out] at ho17)); have n0_ := am (Kd.R_elder' (pr HO251) (Kd.R_base ho17) hb); have n1_ := am (Kd.R_lower (Kd.R_new' ho17 (Kd.R_lt (pr HO251))) (below_size (pb HB))); have n2_ := am (below_step (pb HB) hb); clear HO251 HB; have HO251 := n0_; have HO254 := n1_; have HB := n2_; clear n0_ n1_ n2_ hb ho17; obtain ⟨Ao18, co18, eo18⟩ := Kd.R_slice HO254.out; subst eo18) | ((with_reducible refine gate_dst (N := 8) rfl ?_); refine Kd.N_lit k25 _ 25 ?hg (N' := 8) ?hd (xs := ([(⟨2, y249⟩ : S25), (⟨2, y252⟩ : S25)] : List (S25))) (inner := [.int .i64 2, .slice Ao15 y249.length co15, .int .i64 2, .slice Ao18 y252.length co18]) (ok := (fun _ => True)) (okp := (fun _ => True)) ?hr ?hp (fun _ hk => hk) ((show ∀ k_, w16.heap.size ≤ k_ → (fun _ => True) k_ from fun k_ hk => trivial) _ (Nat.le_refl _)) (Below.refl _ _) (Nat.le_refl _) (by simp) ?_; (case hd => rfl); (case hg => rfl); (case hr => first | (go_simp; done) | (go_simp; rfl)); (case hp => exact (Reps.c2 (show Kd.FK k25 _ _ (⟨2, y249⟩ : S25) [.int .i64 2, .slice Ao15 y249.length co15] from (k25_mkF _ _ (⟨2, y249⟩ : S25) (Kd.R_reads' (Kd.R_mono (ok' := (fun _ => True)) (HO251.out) (fun k_ hk => trivial))).2.1 (Kd.R_F (Kd.R_mono (ok' := (fun _ => True)) (HO251.out) (fun k_ hk => trivial))))) (Reps.c2 (show Kd.FK k25 _ _ (⟨2, y252⟩ : S25) [.int .i64 2, .slice Ao18 y252.length co18] from (k25_mkF _ _ (⟨2, y252⟩ : S25) (Kd.R_reads' (Kd.R_mono (ok' := (fun _ => True)) (HO254.out) (fun k_ hk => trivial))).2.1 (Kd.R_F (Kd.R_mono (ok' := (fun _ => True)) (HO254.out) (fun k_ hk => trivial))))) (Reps.none _ _)))); intro v256 w19 ho20 hb hg_ hnew_; clear hg_ hnew_; (first | rw [← Ny255.out] at ho20 | (simp only [Int.reduceToNat] at ho20; rw [← Ny255.out] at ho20)); have n0_ := am (Kd.N_lower ho20 (below_size (pb HB))); have n1_ := am (below_step (pb HB) hb); clear HB HO251 HO254; have HO257 := n0_; have HB := n1_; clear n0_ n1_ hb ho20; obtain ⟨Ao21, co21, eo21⟩ := Kd.N_slice HO257.out; subst eo21) | ((with_reducible refine gate_callee (f := 49) rfl ?_); refine goesL_ (some 10) rfl rfl Tryd.func49 (by kernel_rfl) rfl #[.agg #[.int .i64 2, .slice Ao21 y255.length co21]] rfl (by (try simp only [List.map_toArray, List.map_cons, List.map_nil]); first | done | rfl | (simp only [List.length_drop, List.length_take]; rfl)) ?_; (with_reducible refine (reduce_Rank.calls k 2 _ _ y255 t258 t259 _ ?side1 ?side2 A1.out).mono ?_); (case side1 => repeat (first | exact (Kd.N_reads' HO257.out).2.2 | (with_reducible refine Kd.C_alloc ?_ _) | (with_reducible refine Kd.C_drewN ?_ _) | (with_reducible refine Kd.C_drew ?_))); (case side2 => exact (Kd.N_reads' HO257.out).2.1); rintro e w22 ⟨rfl, hb⟩; refine ⟨_, rfl, ?_⟩; have n0_ := am (Kd.N_below (pn HO257) hb); have n1_ := am (below_step (pb HB) hb); clear HO257 HB; have HO257 := n0_; have HB := n1_; clear n0_ n1_; (try clear hb); (try clear hb2); (try clear hk); (try clear hi)))
  go_ret
  exact ⟨by first | rfl | (simp [errW_none, errW_some] <;> rfl) | (simp [*, errW_none, errW_some] <;> rfl), pb HB⟩

/-! ### bits_OnesCount64: function 65 -/
def bits_OnesCount64.f (a0 : Int) : Option (Int) := some (Go.bits .and .i64 (wrap64 (IntKind.u64.wrap ((IntKind.u64.wrap ((IntKind.u64.wrap ((Go.bits .and .u64 (IntKind.u64.wrap (((IntKind.u64.wrap ((Go.bits .and .u64 ((IntKind.u64.wrap ((Go.bits .and .u64 (a0 / 2) 6148914691236517205) + (Go.bits .and .u64 a0 6148914691236517205))) / 4) 3689348814741910323) + (Go.bits .and .u64 (IntKind.u64.wrap ((Go.bits .and .u64 (a0 / 2) 6148914691236517205) + (Go.bits .and .u64 a0 6148914691236517205))) 3689348814741910323))) / 16) + (IntKind.u64.wrap ((Go.bits .and .u64 ((IntKind.u64.wrap ((Go.bits .and .u64 (a0 / 2) 6148914691236517205) + (Go.bits .and .u64 a0 6148914691236517205))) / 4) 3689348814741910323) + (Go.bits .and .u64 (IntKind.u64.wrap ((Go.bits .and .u64 (a0 / 2) 6148914691236517205) + (Go.bits .and .u64 a0 6148914691236517205))) 3689348814741910323))))) 1085102592571150095) + ((Go.bits .and .u64 (IntKind.u64.wrap (((IntKind.u64.wrap ((Go.bits .and .u64 ((IntKind.u64.wrap ((Go.bits .and .u64 (a0 / 2) 6148914691236517205) + (Go.bits .and .u64 a0 6148914691236517205))) / 4) 3689348814741910323) + (Go.bits .and .u64 (IntKind.u64.wrap ((Go.bits .and .u64 (a0 / 2) 6148914691236517205) + (Go.bits .and .u64 a0 6148914691236517205))) 3689348814741910323))) / 16) + (IntKind.u64.wrap ((Go.bits .and .u64 ((IntKind.u64.wrap ((Go.bits .and .u64 (a0 / 2) 6148914691236517205) + (Go.bits .and .u64 a0 6148914691236517205))) / 4) 3689348814741910323) + (Go.bits .and .u64 (IntKind.u64.wrap ((Go.bits .and .u64 (a0 / 2) 6148914691236517205) + (Go.bits .and .u64 a0 6148914691236517205))) 3689348814741910323))))) 1085102592571150095) / 256))) + ((IntKind.u64.wrap ((Go.bits .and .u64 (IntKind.u64.wrap (((IntKind.u64.wrap ((Go.bits .and .u64 ((IntKind.u64.wrap ((Go.bits .and .u64 (a0 / 2) 6148914691236517205) + (Go.bits .and .u64 a0 6148914691236517205))) / 4) 3689348814741910323) + (Go.bits .and .u64 (IntKind.u64.wrap ((Go.bits .and .u64 (a0 / 2) 6148914691236517205) + (Go.bits .and .u64 a0 6148914691236517205))) 3689348814741910323))) / 16) + (IntKind.u64.wrap ((Go.bits .and .u64 ((IntKind.u64.wrap ((Go.bits .and .u64 (a0 / 2) 6148914691236517205) + (Go.bits .and .u64 a0 6148914691236517205))) / 4) 3689348814741910323) + (Go.bits .and .u64 (IntKind.u64.wrap ((Go.bits .and .u64 (a0 / 2) 6148914691236517205) + (Go.bits .and .u64 a0 6148914691236517205))) 3689348814741910323))))) 1085102592571150095) + ((Go.bits .and .u64 (IntKind.u64.wrap (((IntKind.u64.wrap ((Go.bits .and .u64 ((IntKind.u64.wrap ((Go.bits .and .u64 (a0 / 2) 6148914691236517205) + (Go.bits .and .u64 a0 6148914691236517205))) / 4) 3689348814741910323) + (Go.bits .and .u64 (IntKind.u64.wrap ((Go.bits .and .u64 (a0 / 2) 6148914691236517205) + (Go.bits .and .u64 a0 6148914691236517205))) 3689348814741910323))) / 16) + (IntKind.u64.wrap ((Go.bits .and .u64 ((IntKind.u64.wrap ((Go.bits .and .u64 (a0 / 2) 6148914691236517205) + (Go.bits .and .u64 a0 6148914691236517205))) / 4) 3689348814741910323) + (Go.bits .and .u64 (IntKind.u64.wrap ((Go.bits .and .u64 (a0 / 2) 6148914691236517205) + (Go.bits .and .u64 a0 6148914691236517205))) 3689348814741910323))))) 1085102592571150095) / 256))) / 65536))) + ((IntKind.u64.wrap ((IntKind.u64.wrap ((Go.bits .and .u64 (IntKind.u64.wrap (((IntKind.u64.wrap ((Go.bits .and .u64 ((IntKind.u64.wrap ((Go.bits .and .u64 (a0 / 2) 6148914691236517205) + (Go.bits .and .u64 a0 6148914691236517205))) / 4) 3689348814741910323) + (Go.bits .and .u64 (IntKind.u64.wrap ((Go.bits .and .u64 (a0 / 2) 6148914691236517205) + (Go.bits .and .u64 a0 6148914691236517205))) 3689348814741910323))) / 16) + (IntKind.u64.wrap ((Go.bits .and .u64 ((IntKind.u64.wrap ((Go.bits .and .u64 (a0 / 2) 6148914691236517205) + (Go.bits .and .u64 a0 6148914691236517205))) / 4) 3689348814741910323) + (Go.bits .and .u64 (IntKind.u64.wrap ((Go.bits .and .u64 (a0 / 2) 6148914691236517205) + (Go.bits .and .u64 a0 6148914691236517205))) 3689348814741910323))))) 1085102592571150095) + ((Go.bits .and .u64 (IntKind.u64.wrap (((IntKind.u64.wrap ((Go.bits .and .u64 ((IntKind.u64.wrap ((Go.bits .and .u64 (a0 / 2) 6148914691236517205) + (Go.bits .and .u64 a0 6148914691236517205))) / 4) 3689348814741910323) + (Go.bits .and .u64 (IntKind.u64.wrap ((Go.bits .and .u64 (a0 / 2) 6148914691236517205) + (Go.bits .and .u64 a0 6148914691236517205))) 3689348814741910323))) / 16) + (IntKind.u64.wrap ((Go.bits .and .u64 ((IntKind.u64.wrap ((Go.bits .and .u64 (a0 / 2) 6148914691236517205) + (Go.bits .and .u64 a0 6148914691236517205))) / 4) 3689348814741910323) + (Go.bits .and .u64 (IntKind.u64.wrap ((Go.bits .and .u64 (a0 / 2) 6148914691236517205) + (Go.bits .and .u64 a0 6148914691236517205))) 3689348814741910323))))) 1085102592571150095) / 256))) + ((IntKind.u64.wrap ((Go.bits .and .u64 (IntKind.u64.wrap (((IntKind.u64.wrap ((Go.bits .and .u64 ((IntKind.u64.wrap ((Go.bits .and .u64 (a0 / 2) 6148914691236517205) + (Go.bits .and .u64 a0 6148914691236517205))) / 4) 3689348814741910323) + (Go.bits .and .u64 (IntKind.u64.wrap ((Go.bits .and .u64 (a0 / 2) 6148914691236517205) + (Go.bits .and .u64 a0 6148914691236517205))) 3689348814741910323))) / 16) + (IntKind.u64.wrap ((Go.bits .and .u64 ((IntKind.u64.wrap ((Go.bits .and .u64 (a0 / 2) 6148914691236517205) + (Go.bits .and .u64 a0 6148914691236517205))) / 4) 3689348814741910323) + (Go.bits .and .u64 (IntKind.u64.wrap ((Go.bits .and .u64 (a0 / 2) 6148914691236517205) + (Go.bits .and .u64 a0 6148914691236517205))) 3689348814741910323))))) 1085102592571150095) + ((Go.bits .and .u64 (IntKind.u64.wrap (((IntKind.u64.wrap ((Go.bits .and .u64 ((IntKind.u64.wrap ((Go.bits .and .u64 (a0 / 2) 6148914691236517205) + (Go.bits .and .u64 a0 6148914691236517205))) / 4) 3689348814741910323) + (Go.bits .and .u64 (IntKind.u64.wrap ((Go.bits .and .u64 (a0 / 2) 6148914691236517205) + (Go.bits .and .u64 a0 6148914691236517205))) 3689348814741910323))) / 16) + (IntKind.u64.wrap ((Go.bits .and .u64 ((IntKind.u64.wrap ((Go.bits .and .u64 (a0 / 2) 6148914691236517205) + (Go.bits .and .u64 a0 6148914691236517205))) / 4) 3689348814741910323) + (Go.bits .and .u64 (IntKind.u64.wrap ((Go.bits .and .u64 (a0 / 2) 6148914691236517205) + (Go.bits .and .u64 a0 6148914691236517205))) 3689348814741910323))))) 1085102592571150095) / 256))) / 65536))) / 4294967296)))) 127)
set_option maxHeartbeats 8000000 in
set_option maxRecDepth 100000 in
theorem bits_OnesCount64.calls (a0 : Int) (r : Int) (w : World) (h : bits_OnesCount64.f a0 = some r) :
  Calls Tryd.prog 65 #[.int .u64 a0] w fun e w' => e = .returned (.int .i64 r) ∧ Drawn0 w w' := by
 have H : (some (Go.bits .and .i64 (wrap64 (IntKind.u64.wrap ((IntKind.u64.wrap ((IntKind.u64.wrap ((Go.bits .and .u64 (IntKind.u64.wrap (((IntKind.u64.wrap ((Go.bits .and .u64 ((IntKind.u64.wrap ((Go.bits .and .u64 (a0 / 2) 6148914691236517205) + (Go.bits .and .u64 a0 6148914691236517205))) / 4) 3689348814741910323) + (Go.bits .and .u64 (IntKind.u64.wrap ((Go.bits .and .u64 (a0 / 2) 6148914691236517205) + (Go.bits .and .u64 a0 6148914691236517205))) 3689348814741910323))) / 16) + (IntKind.u64.wrap ((Go.bits .and .u64 ((IntKind.u64.wrap ((Go.bits .and .u64 (a0 / 2) 6148914691236517205) + (Go.bits .and .u64 a0 6148914691236517205))) / 4) 3689348814741910323) + (Go.bits .and .u64 (IntKind.u64.wrap ((Go.bits .and .u64 (a0 / 2) 6148914691236517205) + (Go.bits .and .u64 a0 6148914691236517205))) 3689348814741910323))))) 1085102592571150095) + ((Go.bits .and .u64 (IntKind.u64.wrap (((IntKind.u64.wrap ((Go.bits .and .u64 ((IntKind.u64.wrap ((Go.bits .and .u64 (a0 / 2) 6148914691236517205) + (Go.bits .and .u64 a0 6148914691236517205))) / 4) 3689348814741910323) + (Go.bits .and .u64 (IntKind.u64.wrap ((Go.bits .and .u64 (a0 / 2) 6148914691236517205) + (Go.bits .and .u64 a0 6148914691236517205))) 3689348814741910323))) / 16) + (IntKind.u64.wrap ((Go.bits .and .u64 ((IntKind.u64.wrap ((Go.bits .and .u64 (a0 / 2) 6148914691236517205) + (Go.bits .and .u64 a0 6148914691236517205))) / 4) 3689348814741910323) + (Go.bits .and .u64 (IntKind.u64.wrap ((Go.bits .and .u64 (a0 / 2) 6148914691236517205) + (Go.bits .and .u64 a0 6148914691236517205))) 3689348814741910323))))) 1085102592571150095) / 256))) + ((IntKind.u64.wrap ((Go.bits .and .u64 (IntKind.u64.wrap (((IntKind.u64.wrap ((Go.bits .and .u64 ((IntKind.u64.wrap ((Go.bits .and .u64 (a0 / 2) 6148914691236517205) + (Go.bits .and .u64 a0 6148914691236517205))) / 4) 3689348814741910323) + (Go.bits .and .u64 (IntKind.u64.wrap ((Go.bits .and .u64 (a0 / 2) 6148914691236517205) + (Go.bits .and .u64 a0 6148914691236517205))) 3689348814741910323))) / 16) + (IntKind.u64.wrap ((Go.bits .and .u64 ((IntKind.u64.wrap ((Go.bits .and .u64 (a0 / 2) 6148914691236517205) + (Go.bits .and .u64 a0 6148914691236517205))) / 4) 3689348814741910323) + (Go.bits .and .u64 (IntKind.u64.wrap ((Go.bits .and .u64 (a0 / 2) 6148914691236517205) + (Go.bits .and .u64 a0 6148914691236517205))) 3689348814741910323))))) 1085102592571150095) + ((Go.bits .and .u64 (IntKind.u64.wrap (((IntKind.u64.wrap ((Go.bits .and .u64 ((IntKind.u64.wrap ((Go.bits .and .u64 (a0 / 2) 6148914691236517205) + (Go.bits .and .u64 a0 6148914691236517205))) / 4) 3689348814741910323) + (Go.bits .and .u64 (IntKind.u64.wrap ((Go.bits .and .u64 (a0 / 2) 6148914691236517205) + (Go.bits .and .u64 a0 6148914691236517205))) 3689348814741910323))) / 16) + (IntKind.u64.wrap ((Go.bits .and .u64 ((IntKind.u64.wrap ((Go.bits .and .u64 (a0 / 2) 6148914691236517205) + (Go.bits .and .u64 a0 6148914691236517205))) / 4) 3689348814741910323) + (Go.bits .and .u64 (IntKind.u64.wrap ((Go.bits .and .u64 (a0 / 2) 6148914691236517205) + (Go.bits .and .u64 a0 6148914691236517205))) 3689348814741910323))))) 1085102592571150095) / 256))) / 65536))) + ((IntKind.u64.wrap ((IntKind.u64.wrap ((Go.bits .and .u64 (IntKind.u64.wrap (((IntKind.u64.wrap ((Go.bits .and .u64 ((IntKind.u64.wrap ((Go.bits .and .u64 (a0 / 2) 6148914691236517205) + (Go.bits .and .u64 a0 6148914691236517205))) / 4) 3689348814741910323) + (Go.bits .and .u64 (IntKind.u64.wrap ((Go.bits .and .u64 (a0 / 2) 6148914691236517205) + (Go.bits .and .u64 a0 6148914691236517205))) 3689348814741910323))) / 16) + (IntKind.u64.wrap ((Go.bits .and .u64 ((IntKind.u64.wrap ((Go.bits .and .u64 (a0 / 2) 6148914691236517205) + (Go.bits .and .u64 a0 6148914691236517205))) / 4) 3689348814741910323) + (Go.bits .and .u64 (IntKind.u64.wrap ((Go.bits .and .u64 (a0 / 2) 6148914691236517205) + (Go.bits .and .u64 a0 6148914691236517205))) 3689348814741910323))))) 1085102592571150095) + ((Go.bits .and .u64 (IntKind.u64.wrap (((IntKind.u64.wrap ((Go.bits .and .u64 ((IntKind.u64.wrap ((Go.bits .and .u64 (a0 / 2) 6148914691236517205) + (Go.bits .and .u64 a0 6148914691236517205))) / 4) 3689348814741910323) + (Go.bits .and .u64 (IntKind.u64.wrap ((Go.bits .and .u64 (a0 / 2) 6148914691236517205) + (Go.bits .and .u64 a0 6148914691236517205))) 3689348814741910323))) / 16) + (IntKind.u64.wrap ((Go.bits .and .u64 ((IntKind.u64.wrap ((Go.bits .and .u64 (a0 / 2) 6148914691236517205) + (Go.bits .and .u64 a0 6148914691236517205))) / 4) 3689348814741910323) + (Go.bits .and .u64 (IntKind.u64.wrap ((Go.bits .and .u64 (a0 / 2) 6148914691236517205) + (Go.bits .and .u64 a0 6148914691236517205))) 3689348814741910323))))) 1085102592571150095) / 256))) + ((IntKind.u64.wrap ((Go.bits .and .u64 (IntKind.u64.wrap (((IntKind.u64.wrap ((Go.bits .and .u64 ((IntKind.u64.wrap ((Go.bits .and .u64 (a0 / 2) 6148914691236517205) + (Go.bits .and .u64 a0 6148914691236517205))) / 4) 3689348814741910323) + (Go.bits .and .u64 (IntKind.u64.wrap ((Go.bits .and .u64 (a0 / 2) 6148914691236517205) + (Go.bits .and .u64 a0 6148914691236517205))) 3689348814741910323))) / 16) + (IntKind.u64.wrap ((Go.bits .and .u64 ((IntKind.u64.wrap ((Go.bits .and .u64 (a0 / 2) 6148914691236517205) + (Go.bits .and .u64 a0 6148914691236517205))) / 4) 3689348814741910323) + (Go.bits .and .u64 (IntKind.u64.wrap ((Go.bits .and .u64 (a0 / 2) 6148914691236517205) + (Go.bits .and .u64 a0 6148914691236517205))) 3689348814741910323))))) 1085102592571150095) + ((Go.bits .and .u64 (IntKind.u64.wrap (((IntKind.u64.wrap ((Go.bits .and .u64 ((IntKind.u64.wrap ((Go.bits .and .u64 (a0 / 2) 6148914691236517205) + (Go.bits .and .u64 a0 6148914691236517205))) / 4) 3689348814741910323) + (Go.bits .and .u64 (IntKind.u64.wrap ((Go.bits .and .u64 (a0 / 2) 6148914691236517205) + (Go.bits .and .u64 a0 6148914691236517205))) 3689348814741910323))) / 16) + (IntKind.u64.wrap ((Go.bits .and .u64 ((IntKind.u64.wrap ((Go.bits .and .u64 (a0 / 2) 6148914691236517205) + (Go.bits .and .u64 a0 6148914691236517205))) / 4) 3689348814741910323) + (Go.bits .and .u64 (IntKind.u64.wrap ((Go.bits .and .u64 (a0 / 2) 6148914691236517205) + (Go.bits .and .u64 a0 6148914691236517205))) 3689348814741910323))))) 1085102592571150095) / 256))) / 65536))) / 4294967296)))) 127)) = some r := h
 clear h
 obtain rfl := Option.some.inj H
 go_enter Tryd.func65, Tryd.ntmps65
 go_wp2
 go_ret
 exact ⟨by first | rfl | (simp; done) | (simp [*]; done), by repeat (first | exact Drawn0.refl _ | apply Drawn0.step)⟩

/-! ### bitrow_Count: function 21 -/
def bitrow_Count.l0 : Nat → Int → List Int → Int → Int → Option (Int × Int)
 | 0, _, _, _, _ => none
 | k + 1, x4, x11, x12, x13 => if x13 < x12 then (if 0 ≤ x13 then (if x13 < (x11.length : Int) then ((bits_OnesCount64.f (rd x11 x13)).bind fun t263 => (bitrow_Count.l0 k (wrap64 (x4 + t263)) x11 x12 (wrap64 (x13 + 1)))) else (none)) else (none)) else (some (x4, 0))
def bitrow_Count.f (k : Nat) (a0_0 : Int) (l0_1 : List Int) : Option (Int × Int) := (bitrow_Right.f a0_0 l0_1).bind fun t261 => (if t261 = true then (bitrow_Count.l0 k 0 l0_1 (l0_1.length : Int) 0) else (some (0, 1)))
theorem bitrow_Count.mono_l : ∀ k, (∀ y0 y1 y2 y3, LeO (bitrow_Count.l0 k y0 y1 y2 y3) (bitrow_Count.l0 (k + 1) y0 y1 y2 y3))
 | 0 => fun _ _ _ _ r h => by simp [bitrow_Count.l0] at h
 | k + 1 => by
  have ih0 := bitrow_Count.mono_l k
  ·
   intro y0 y1 y2 y3
   unfold bitrow_Count.l0
   repeat' first
   | (with_reducible exact ih0 _ _ _ _)
   | (with_reducible exact LeO.refl _)
   | (with_reducible exact LeO.none _)
   | (with_reducible refine LeO.ite ?_ ?_)
   | (with_reducible refine LeO.bind ?_ (fun _ => ?_))
   | exact ih0 _ _ _ _
   | exact LeO.none _
   | refine LeO.ite ?_ ?_
   | refine LeO.bind ?_ (fun _ => ?_)
theorem bitrow_Count.mono : ∀ a0 a1 k, LeO (bitrow_Count.f k a0 a1) (bitrow_Count.f (k + 1) a0 a1) := by
 intro a0 a1 k
 have ih0 := bitrow_Count.mono_l k
 unfold bitrow_Count.f
 repeat' first
   | (with_reducible exact ih0 _ _ _ _)
   | (with_reducible exact LeO.refl _)
   | (with_reducible exact LeO.none _)
   | (with_reducible refine LeO.ite ?_ ?_)
   | (with_reducible refine LeO.bind ?_ (fun _ => ?_))
   | exact ih0 _ _ _ _
   | exact LeO.none _
   | refine LeO.ite ?_ ?_
   | refine LeO.bind ?_ (fun _ => ?_)
set_option maxHeartbeats 8000000 in
set_option maxRecDepth 100000 in
theorem bitrow_Count.calls (k : Nat) (a0_0 : Int) (A0_1 : Option Addr) (c0_1 : Nat) (l0_1 : List Int) (r1 : Int) (r2 : Int) (w : World) (hr0_1 : Kd.C (Kd.int .u64) w A0_1 l0_1.length l0_1) (hc0_1 : l0_1.length ≤ c0_1) (h : bitrow_Count.f k a0_0 l0_1 = some (r1, r2)) :
  Calls Tryd.prog 21 #[.agg #[.int .i64 a0_0, .slice A0_1 l0_1.length c0_1]] w fun e w' => e = .returned (.tuple #[.int .i64 r1, .int .i64 r2]) ∧ Below w.heap.size w w' := by
 have hu25 := Tryd.underlying25
 have HR0_1 := Aside0.mk hr0_1
 have HC0_1 := Aside0.mk hc0_1
 clear hr0_1 hc0_1
 have HB := am (Below.refl w.heap.size w)
 have H : ((bitrow_Right.f a0_0 l0_1).bind fun t261 => (if t261 = true then (bitrow_Count.l0 k 0 l0_1 (l0_1.length : Int) 0) else (some (0, 1)))) = some (r1, r2) := h
 clear h
 replace H := Option.bind_eq_some_iff.mp H
 obtain ⟨t261, A20, H⟩ := H
 replace H : (if t261 = true then (bitrow_Count.l0 k 0 l0_1 (l0_1.length : Int) 0) else (some (0, 1))) = some (r1, r2) := H
 have A2 := Aside0.mk A20
 clear A20
 by_cases c3 : t261 = true
 ·
  subst c3
  have H1 : (bitrow_Count.l0 k 0 l0_1 (l0_1.length : Int) 0) = some (r1, r2) := by rw [if_pos rfl] at H; exact H
  clear H
  have H := H1
  clear H1
  have H' := Aside0.mk H
  clear H
  go_enter Tryd.func21, Tryd.ntmps21
  go_wp2_with (first | ((with_reducible refine gate_dst (N := 1) rfl ?_); refine box_event ?hg (N := 1) ?hd (cs := #[.int .i64 a0_0, .slice A0_1 l0_1.length c0_1]) (t := 25) ?hr ?_; (case hd => rfl); (case hg => rfl); (case hr => first | (go_simp; done) | (go_simp; rfl)); intro gb260 hg w4 hbox hb; have n0_ := am (below_step (pb HB) hb); have n1_ := am (hbox); have n2_ := am ((by rw [hg]; exact (below_size (pb HB)) : w.heap.size ≤ gb260)); have n3_ := am ((by rw [hg]; exact (below_size (pb HB)) : w.heap.size ≤ gb260)); clear HB; have HB := n0_; have BK260 := n1_; have GW260 := n2_; have GE260 := n3_; clear n0_ n1_ n2_ n3_ hb hbox hg; have hcz5_0 : w4.cell? ⟨gb260, 0, none⟩ = some (.int .i64 a0_0) := (blk_cell BK260.out 0).trans rfl; have hcz5_1 : w4.cell? ⟨gb260, 1, none⟩ = some (.slice A0_1 l0_1.length c0_1) := (blk_cell BK260.out 1).trans rfl; have hfz5_0 := blk_frozen BK260.out 0; have hfz5_1 := blk_frozen BK260.out 1) | ((with_reducible refine gate_callee (f := 31) rfl ?_); refine goesL_ (some 8) rfl rfl Tryd.func31 (by kernel_rfl) rfl #[.agg #[.int .i64 a0_0, .slice A0_1 l0_1.length c0_1]] rfl (by (try simp only [List.map_toArray, List.map_cons, List.map_nil]); first | done | rfl | (simp only [List.length_drop, List.length_take]; rfl)) ?_; (with_reducible refine (bitrow_Right.calls a0_0 _ _ l0_1 true _ ?side1 ?side2 A2.out).mono ?_); (case side1 => repeat (first | exact (Kd.C_below HR0_1.out HB.out) | (with_reducible refine Kd.C_alloc ?_ _) | (with_reducible refine Kd.C_drewN ?_ _) | (with_reducible refine Kd.C_drew ?_))); (case side2 => exact HC0_1.out); rintro e w6 ⟨rfl, hb⟩; refine ⟨_, rfl, ?_⟩; have n0_ := bb BK260 hb; have n1_ := am (below_step (pb HB) hb); clear BK260 HB; have BK260 := n0_; have HB := n1_; clear n0_ n1_; (try clear hb); (try clear hb2); (try clear hk); (try clear hi); have hcz7_0 : w6.cell? ⟨gb260, 0, none⟩ = some (.int .i64 a0_0) := (blk_cell BK260.out 0).trans rfl; have hcz7_1 : w6.cell? ⟨gb260, 1, none⟩ = some (.slice A0_1 l0_1.length c0_1) := (blk_cell BK260.out 1).trans rfl; have hfz7_0 := blk_frozen BK260.out 0; have hfz7_1 := blk_frozen BK260.out 1))
  go_loopg [4, 13] k (fun kq v4 v13 w' => ∃ (x4_1 : Int) (x13_1 : Int), v4 = .int .i64 x4_1 ∧ v13 = .int .i64 x13_1 ∧ Aside0 (bitrow_Count.l0 kq x4_1 l0_1 (l0_1.length : Int) x13_1 = some (r1, r2)) ∧ Aside0 (kq ≤ k) ∧ Aside0 (w'.heap[gb260]? = some (.cells #[.int .i64 a0_0, (.slice A0_1 l0_1.length c0_1)] 25 (0, 0))) ∧ Aside0 (Below w.heap.size w w'))
  case atStart => exact ⟨(0), (0), (by first | rfl | (simp; done) | (simp [*]; done)), (by first | rfl | (simp; done) | (simp [*]; done)), H', ⟨Nat.le_refl _⟩, ⟨by (with_reducible repeat (first | refine blk_drewN ?_ _ | refine blk_drew ?_ | refine blk_alloc ?_ _)); exact BK260.out⟩, ⟨pb HB⟩⟩
  case round =>
   clear H'
   try clear c2
   try clear p2
   try clear c3
   try clear hcz5_0
   try clear hcz5_1
   try clear hcz7_0
   try clear hcz7_1
   try clear hfz5_0
   try clear hfz5_1
   try clear hfz7_0
   try clear hfz7_1
   obtain ⟨x4_1, x13_1, rfl, rfl, HA, HK1, BK260, HB⟩ := hrel
   cases gk with
   | zero => exact absurd HA.out (by simp [bitrow_Count.l0])
   | succ k1 =>
    have H := HA.out
    clear HA
    simp only [bitrow_Count.l0] at H
    by_cases c8 : x13_1 < (l0_1.length : Int)
    ·
     rw [if_pos c8] at H
     have c8b0 : decide (x13_1 < (l0_1.length : Int)) = true := decide_eq_true c8
     clear c8
     by_cases c9 : 0 ≤ x13_1
     ·
      rw [if_pos c9] at H
      have c9b0 : decide (0 ≤ x13_1) = true := decide_eq_true c9
      clear c9
      by_cases c10 : x13_1 < (l0_1.length : Int)
      ·
       rw [if_pos c10] at H
       have c10b0 : decide (x13_1 < (l0_1.length : Int)) = true := decide_eq_true c10
       clear c10
       replace H := Option.bind_eq_some_iff.mp H
       obtain ⟨t263, A110, H⟩ := H
       replace H : (bitrow_Count.l0 k1 (wrap64 (x4_1 + t263)) l0_1 (l0_1.length : Int) (wrap64 (x13_1 + 1))) = some (r1, r2) := H
       have A11 := Aside0.mk A110
       clear A110
       have H' := Aside0.mk H
       clear H
       have p262 : 0 ≤ (x13_1 : Int) := of_decide_eq_true (by first | (with_reducible assumption) | assumption)
       have q262 : x13_1 < (l0_1.length : Int) := of_decide_eq_true (by first | (with_reducible assumption) | assumption)
       obtain ⟨ad262, e262, hx262_0⟩ := Kd.at_int HR0_1.out x13_1 p262 q262
       cases e262
       replace hx262_0 := (HB.out.cell (World.block_lt_of_cell? w _ hx262_0)).trans hx262_0
       replace p262 := eq_true p262
       replace q262 := eq_true q262
       go_wp2_with (first | ((with_reducible refine gate_callee (f := 65) rfl ?_); refine goesL_ (some 19) rfl rfl Tryd.func65 (by kernel_rfl) rfl #[.int .u64 (rd l0_1 x13_1)] rfl (by (try simp only [List.map_toArray, List.map_cons, List.map_nil]); first | done | rfl | (simp only [List.length_drop, List.length_take]; rfl)) ?_; (with_reducible refine (bits_OnesCount64.calls (rd l0_1 x13_1) t263 _ A11.out).mono ?_); rintro e w' ⟨rfl, ⟨nd, rfl⟩⟩; refine ⟨_, rfl, ?_⟩))
       go_roundg k1
       case measure => have := HK1.out; omega
       case rel => exact ⟨(wrap64 (x4_1 + t263)), (wrap64 (x13_1 + 1)), (by first | rfl | (simp; done) | (simp [*]; done)), (by first | rfl | (simp; done) | (simp [*]; done)), H', ⟨by have := HK1.out; omega⟩, ⟨by (with_reducible repeat (first | refine blk_drewN ?_ _ | refine blk_drew ?_ | refine blk_alloc ?_ _)); exact BK260.out⟩, ⟨pb HB⟩⟩
      ·
       rw [if_neg c10] at H
       exact absurd H (by simp)
     ·
      rw [if_neg c9] at H
      exact absurd H (by simp)
    ·
     rw [if_neg c8] at H
     have c8b0 : decide (x13_1 < (l0_1.length : Int)) = false := decide_eq_false c8
     clear c8
     simp only [Option.some.injEq, Prod.mk.injEq] at H
     obtain ⟨rfl, rfl⟩ := H
     go_wp2
     go_ret2
     exact ⟨by first | rfl | (simp [errW_none, errW_some] <;> rfl) | (simp [*, errW_none, errW_some] <;> rfl), pb HB⟩
 ·
  replace c3 := Bool.eq_false_iff.mpr c3
  subst c3
  have H1 : (some (0, 1)) = some (r1, r2) := by rw [if_neg (show ¬ (false = true) by decide)] at H; exact H
  clear H
  have H := H1
  clear H1
  simp only [Option.some.injEq, Prod.mk.injEq] at H
  obtain ⟨rfl, rfl⟩ := H
  go_enter Tryd.func21, Tryd.ntmps21
  go_wp2_with (first | ((with_reducible refine gate_dst (N := 1) rfl ?_); refine box_event ?hg (N := 1) ?hd (cs := #[.int .i64 a0_0, .slice A0_1 l0_1.length c0_1]) (t := 25) ?hr ?_; (case hd => rfl); (case hg => rfl); (case hr => first | (go_simp; done) | (go_simp; rfl)); intro gb260 hg w12 hbox hb; have n0_ := am (below_step (pb HB) hb); have n1_ := am (hbox); have n2_ := am ((by rw [hg]; exact (below_size (pb HB)) : w.heap.size ≤ gb260)); have n3_ := am ((by rw [hg]; exact (below_size (pb HB)) : w.heap.size ≤ gb260)); clear HB; have HB := n0_; have BK260 := n1_; have GW260 := n2_; have GE260 := n3_; clear n0_ n1_ n2_ n3_ hb hbox hg; have hcz13_0 : w12.cell? ⟨gb260, 0, none⟩ = some (.int .i64 a0_0) := (blk_cell BK260.out 0).trans rfl; have hcz13_1 : w12.cell? ⟨gb260, 1, none⟩ = some (.slice A0_1 l0_1.length c0_1) := (blk_cell BK260.out 1).trans rfl; have hfz13_0 := blk_frozen BK260.out 0; have hfz13_1 := blk_frozen BK260.out 1) | ((with_reducible refine gate_callee (f := 31) rfl ?_); refine goesL_ (some 8) rfl rfl Tryd.func31 (by kernel_rfl) rfl #[.agg #[.int .i64 a0_0, .slice A0_1 l0_1.length c0_1]] rfl (by (try simp only [List.map_toArray, List.map_cons, List.map_nil]); first | done | rfl | (simp only [List.length_drop, List.length_take]; rfl)) ?_; (with_reducible refine (bitrow_Right.calls a0_0 _ _ l0_1 false _ ?side1 ?side2 A2.out).mono ?_); (case side1 => repeat (first | exact (Kd.C_below HR0_1.out HB.out) | (with_reducible refine Kd.C_alloc ?_ _) | (with_reducible refine Kd.C_drewN ?_ _) | (with_reducible refine Kd.C_drew ?_))); (case side2 => exact HC0_1.out); rintro e w14 ⟨rfl, hb⟩; refine ⟨_, rfl, ?_⟩; have n0_ := bb BK260 hb; have n1_ := am (below_step (pb HB) hb); clear BK260 HB; have BK260 := n0_; have HB := n1_; clear n0_ n1_; (try clear hb); (try clear hb2); (try clear hk); (try clear hi)))
  go_ret2
  exact ⟨by first | rfl | (simp [errW_none, errW_some] <;> rfl) | (simp [*, errW_none, errW_some] <;> rfl), pb HB⟩

/-! ### reduce_Spans: function 50 -/
mutual
def reduce_Spans.j0 : Nat → List Int → Bool → Int → List (S25) → Int → List Int → Int → List (S25) → Option (Bool × Int)
 | 0, _, _, _, _, _, _, _, _ => none
 | k + 1, x7, x19, x265000, x265001, x266000, x266001, x275000, x275001 => if x19 = true then (some (false, 1)) else (if x266000 = x265000 then (reduce_Spans.l0 k x7 (x7.length : Int) 0 x266000 x266001 x275000 x275001) else (some (false, 2)))
def reduce_Spans.l0 : Nat → List Int → Int → Int → Int → List Int → Int → List (S25) → Option (Bool × Int)
 | 0, _, _, _, _, _, _, _ => none
 | k + 1, x33, x34, x35, x266000, x266001, x275000, x275001 => if x35 < x34 then (if 0 ≤ x35 then (if x35 < (x33.length : Int) then ((reduce_bit.f x266000 x266001 (rd x33 x35)).bind fun t279 => (if t279 = true then (if x35 < (x275001.length : Int) then ((bitrow_Xor.f k x266000 x266001 ((rd_T25 x275001 x35).f0) ((rd_T25 x275001 x35).f1)).bind fun bt281 => (reduce_Spans.l0 k x33 x34 (wrap64 (x35 + 1)) bt281.1 bt281.2.1 x275000 x275001)) else (none)) else (reduce_Spans.l0 k x33 x34 (wrap64 (x35 + 1)) x266000 x266001 x275000 x275001))) else (none)) else (none)) else ((bitrow_Count.f k x266000 x266001).bind fun bt276 => (some ((bt276.1 == 0), 0)))
end
def reduce_Spans.f (k : Nat) (a0_0 : Int) (l0_1 : List (S25)) (a1_0 : Int) (l1_1 : List Int) : Option (Bool × Int) := (reduce_Echelon.f k a0_0 l0_1).bind fun bt266 => (if bt266.2.2.2 = 0 then ((bitrow_Right.f a1_0 l1_1).bind fun t275 => (reduce_Spans.j0 k bt266.2.2.1 (!t275) a0_0 l0_1 a1_0 l1_1 bt266.1 bt266.2.1)) else (reduce_Spans.j0 k bt266.2.2.1 true a0_0 l0_1 a1_0 l1_1 bt266.1 bt266.2.1))
theorem reduce_Spans.mono_l : ∀ k, (∀ y0 y1 y2 y3 y4 y5 y6 y7, LeO (reduce_Spans.j0 k y0 y1 y2 y3 y4 y5 y6 y7) (reduce_Spans.j0 (k + 1) y0 y1 y2 y3 y4 y5 y6 y7)) ∧ (∀ y0 y1 y2 y3 y4 y5 y6, LeO (reduce_Spans.l0 k y0 y1 y2 y3 y4 y5 y6) (reduce_Spans.l0 (k + 1) y0 y1 y2 y3 y4 y5 y6))
 | 0 => ⟨fun _ _ _ _ _ _ _ _ r h => by simp [reduce_Spans.j0] at h, fun _ _ _ _ _ _ _ r h => by simp [reduce_Spans.l0] at h⟩
 | k + 1 => by
  obtain ⟨ih0, ih1⟩ := reduce_Spans.mono_l k
  refine ⟨?_, ?_⟩
  ·
   intro y0 y1 y2 y3 y4 y5 y6 y7
   unfold reduce_Spans.j0
   repeat' first
   | (with_reducible exact ih0 _ _ _ _ _ _ _ _)
   | (with_reducible exact ih1 _ _ _ _ _ _ _)
   | (with_reducible exact bitrow_Count.mono _ _ _)
   | (with_reducible exact bitrow_Xor.mono _ _ _ _ _)
   | (with_reducible exact reduce_Echelon.mono _ _ _)
   | (with_reducible exact LeO.refl _)
   | (with_reducible exact LeO.none _)
   | (with_reducible refine LeO.ite ?_ ?_)
   | (with_reducible refine LeO.bind ?_ (fun _ => ?_))
   | exact ih0 _ _ _ _ _ _ _ _
   | exact ih1 _ _ _ _ _ _ _
   | exact bitrow_Count.mono _ _ _
   | exact bitrow_Xor.mono _ _ _ _ _
   | exact reduce_Echelon.mono _ _ _
   | exact LeO.none _
   | refine LeO.ite ?_ ?_
   | refine LeO.bind ?_ (fun _ => ?_)
  ·
   intro y0 y1 y2 y3 y4 y5 y6
   unfold reduce_Spans.l0
   repeat' first
   | (with_reducible exact ih0 _ _ _ _ _ _ _ _)
   | (with_reducible exact ih1 _ _ _ _ _ _ _)
   | (with_reducible exact bitrow_Count.mono _ _ _)
   | (with_reducible exact bitrow_Xor.mono _ _ _ _ _)
   | (with_reducible exact reduce_Echelon.mono _ _ _)
   | (with_reducible exact LeO.refl _)
   | (with_reducible exact LeO.none _)
   | (with_reducible refine LeO.ite ?_ ?_)
   | (with_reducible refine LeO.bind ?_ (fun _ => ?_))
   | exact ih0 _ _ _ _ _ _ _ _
   | exact ih1 _ _ _ _ _ _ _
   | exact bitrow_Count.mono _ _ _
   | exact bitrow_Xor.mono _ _ _ _ _
   | exact reduce_Echelon.mono _ _ _
   | exact LeO.none _
   | refine LeO.ite ?_ ?_
   | refine LeO.bind ?_ (fun _ => ?_)
theorem reduce_Spans.mono : ∀ a0 a1 a2 a3 k, LeO (reduce_Spans.f k a0 a1 a2 a3) (reduce_Spans.f (k + 1) a0 a1 a2 a3) := by
 intro a0 a1 a2 a3 k
 obtain ⟨ih0, ih1⟩ := reduce_Spans.mono_l k
 unfold reduce_Spans.f
 repeat' first
   | (with_reducible exact ih0 _ _ _ _ _ _ _ _)
   | (with_reducible exact ih1 _ _ _ _ _ _ _)
   | (with_reducible exact bitrow_Count.mono _ _ _)
   | (with_reducible exact bitrow_Xor.mono _ _ _ _ _)
   | (with_reducible exact reduce_Echelon.mono _ _ _)
   | (with_reducible exact LeO.refl _)
   | (with_reducible exact LeO.none _)
   | (with_reducible refine LeO.ite ?_ ?_)
   | (with_reducible refine LeO.bind ?_ (fun _ => ?_))
   | exact ih0 _ _ _ _ _ _ _ _
   | exact ih1 _ _ _ _ _ _ _
   | exact bitrow_Count.mono _ _ _
   | exact bitrow_Xor.mono _ _ _ _ _
   | exact reduce_Echelon.mono _ _ _
   | exact LeO.none _
   | refine LeO.ite ?_ ?_
   | refine LeO.bind ?_ (fun _ => ?_)
def reduce_Spans.T10 : Bool × List (List Nat × List Nat) := (true, [([], []), ([], []), ([1], [1]), ([], []), ([2, 3], [2, 3]), ([4], [4]), ([0, 5], [0, 5]), ([6], [6]), ([7], [7]), ([7], [7]), ([8, 6, 0, 1, 2, 3, 4, 5, 6, 7, 8], [8])])
def reduce_Spans.B10 : List Nat := [0, 0, 2, 0, 14, 30, 63, 127, 255, 255, 511]
theorem reduce_Spans.tab10 : rtab .any (opsOf Tryd.f50 10) = reduce_Spans.T10 := by kernel_rfl
theorem reduce_Spans.bits10 : waitsOk reduce_Spans.T10.2 reduce_Spans.B10 = true := by kernel_rfl
set_option maxHeartbeats 8000000 in
set_option maxRecDepth 100000 in
theorem reduce_Spans.calls (k : Nat) (a0_0 : Int) (P0_1_ : Nat → Prop) (A0_1 : Option Addr) (c0_1 : Nat) (l0_1 : List (S25)) (a1_0 : Int) (P1_1_ : Nat → Prop) (A1_1 : Option Addr) (c1_1 : Nat) (l1_1 : List Int) (r1 : Bool) (r2 : Int) (w : World) (hs0_1 : Kd.V k25 25 w w.heap.size (fun k_ => P0_1_ k_) (.slice A0_1 l0_1.length c0_1) l0_1) (hs1_1 : Kd.V (Kd.int .u64) 90 w w.heap.size (fun k_ => P1_1_ k_) (.slice A1_1 l1_1.length c1_1) l1_1) (h : reduce_Spans.f k a0_0 l0_1 a1_0 l1_1 = some (r1, r2)) :
  Calls Tryd.prog 50 #[.agg #[.int .i64 a0_0, .slice A0_1 l0_1.length c0_1], .agg #[.int .i64 a1_0, .slice A1_1 l1_1.length c1_1]] w fun e w' => e = .returned (.tuple #[.bool r1, .int .i64 r2]) ∧ Below w.heap.size w w' := by
 have hu55 := Tryd.underlying55
 have hu25 := Tryd.underlying25
 have HO0_1 := am (show Kd.V k25 25 w w.heap.size (fun k_ => ((P0_1_ k_ ∨ P1_1_ k_) ∨ w.heap.size ≤ k_)) (.slice A0_1 l0_1.length c0_1) l0_1 from Kd.V_mono hs0_1 (fun k_ hk => .inl (.inl hk)))
 have HO1_1 := am (show Kd.V (Kd.int .u64) 90 w w.heap.size (fun k_ => ((P0_1_ k_ ∨ P1_1_ k_) ∨ w.heap.size ≤ k_)) (.slice A1_1 l1_1.length c1_1) l1_1 from Kd.V_mono hs1_1 (fun k_ hk => .inl (.inr hk)))
 have HB := am (Below.refl w.heap.size w)
 have H : ((reduce_Echelon.f k a0_0 l0_1).bind fun bt266 => (if bt266.2.2.2 = 0 then ((bitrow_Right.f a1_0 l1_1).bind fun t275 => (reduce_Spans.j0 k bt266.2.2.1 (!t275) a0_0 l0_1 a1_0 l1_1 bt266.1 bt266.2.1)) else (reduce_Spans.j0 k bt266.2.2.1 true a0_0 l0_1 a1_0 l1_1 bt266.1 bt266.2.1))) = some (r1, r2) := h
 clear h
 replace H := Option.bind_eq_some_iff.mp H
 obtain ⟨⟨t266, t267, t270, t273⟩, A30, H⟩ := H
 replace H : (if t273 = 0 then ((bitrow_Right.f a1_0 l1_1).bind fun t275 => (reduce_Spans.j0 k t270 (!t275) a0_0 l0_1 a1_0 l1_1 t266 t267)) else (reduce_Spans.j0 k t270 true a0_0 l0_1 a1_0 l1_1 t266 t267)) = some (r1, r2) := H
 have A3 := Aside0.mk A30
 clear A30
 have HC4 := Aside0.mk H
 clear H
 go_enter Tryd.func50, Tryd.ntmps50
 go_upto_region 2 with (first | ((with_reducible refine gate_dst (N := 2) rfl ?_); refine box_event ?hg (N := 2) ?hd (cs := #[.int .i64 a0_0, .slice A0_1 l0_1.length c0_1]) (t := 55) ?hr ?_; (case hd => rfl); (case hg => rfl); (case hr => first | (go_simp; done) | (go_simp; rfl)); intro gb264 hg w5 hbox hb; have n0_ := am (Kd.V_below (Kd.V_elderB (pv HO0_1) gb264 (Nat.le_of_eq hg.symm)) hb); have n1_ := am (Kd.V_below (Kd.V_elderB (pv HO1_1) gb264 (Nat.le_of_eq hg.symm)) hb); have n2_ := am (below_step (pb HB) hb); have n3_ := am (hbox); have n4_ := am ((by rw [hg]; exact (below_size (pb HB)) : w.heap.size ≤ gb264)); have n5_ := am ((by rw [hg]; exact (below_size (pb HB)) : w.heap.size ≤ gb264)); clear HO0_1 HO1_1 HB; have HO0_1 := n0_; have HO1_1 := n1_; have HB := n2_; have BK264 := n3_; have GW264 := n4_; have GE264 := n5_; clear n0_ n1_ n2_ n3_ n4_ n5_ hb hbox hg) | ((with_reducible refine gate_dst (N := 3) rfl ?_); refine box_event ?hg (N := 3) ?hd (cs := #[.int .i64 a1_0, .slice A1_1 l1_1.length c1_1]) (t := 25) ?hr ?_; (case hd => rfl); (case hg => rfl); (case hr => first | (go_simp; done) | (go_simp; rfl)); intro gb265 hg w6 hbox hb; have n0_ := am (Kd.V_below (Kd.V_elderB (pv HO0_1) gb265 (Nat.le_of_eq hg.symm)) hb); have n1_ := am (Kd.V_below (Kd.V_elderB (pv HO1_1) gb265 (Nat.le_of_eq hg.symm)) hb); have n2_ := bb BK264 hb; have n3_ := am (below_step (pb HB) hb); have n4_ := am (hbox); have n5_ := am ((by rw [hg]; exact (below_size (pb HB)) : w.heap.size ≤ gb265)); have n6_ := am ((by rw [hg]; exact (below_size (pb HB)) : w.heap.size ≤ gb265)); have n7_ := am ((by rw [hg]; exact Nat.ne_of_lt (bl BK264) : gb264 ≠ gb265)); have n8_ := am ((by rw [hg]; exact Nat.ne_of_gt (bl BK264) : gb265 ≠ gb264)); clear HO0_1 HO1_1 BK264 HB; have HO0_1 := n0_; have HO1_1 := n1_; have BK264 := n2_; have HB := n3_; have BK265 := n4_; have GW265 := n5_; have GE265 := n6_; have NB264_265 := n7_; have NB265_264 := n8_; clear n0_ n1_ n2_ n3_ n4_ n5_ n6_ n7_ n8_ hb hbox hg; have hnb7 := NB264_265.out; have hnc7 := NB265_264.out; have hcz8_0 : w6.cell? ⟨gb264, 0, none⟩ = some (.int .i64 a0_0) := (blk_cell BK264.out 0).trans rfl; have hcz8_1 : w6.cell? ⟨gb264, 1, none⟩ = some (.slice A0_1 l0_1.length c0_1) := (blk_cell BK264.out 1).trans rfl; have hfz8_0 := blk_frozen BK264.out 0; have hfz8_1 := blk_frozen BK264.out 1) | ((with_reducible refine gate_callee (f := 47) rfl ?_); refine goesL_ (some 15) rfl rfl Tryd.func47 (by kernel_rfl) rfl #[.agg #[.int .i64 a0_0, .slice A0_1 l0_1.length c0_1]] rfl (by (try simp only [List.map_toArray, List.map_cons, List.map_nil]); first | done | rfl | (simp only [List.length_drop, List.length_take]; rfl)) ?_; (with_reducible refine (reduce_Echelon.calls k a0_0 (fun k_ => ((((P0_1_ k_ ∨ P1_1_ k_) ∨ w.heap.size ≤ k_) ∧ k_ ≠ gb264) ∧ k_ ≠ gb265)) _ _ l0_1 t266 t267 t270 t273 _ ?side1 A3.out).mono ?_); (case side1 => exact HO0_1.out); rintro e w9 ⟨v268, v271, rfl, ho0, ho1, hb⟩; refine ⟨_, rfl, ?_⟩; have n0_ := am (Kd.V_mono (Kd.V_told (Kd.V_told (Kd.V_old (pv HO0_1) hb) (Kd.N_base ho0)) (Kd.R_base ho1)) (fun _ h_ => h_.1)); have n1_ := am (Kd.V_mono (Kd.V_told (Kd.V_told (Kd.V_old (pv HO1_1) hb) (Kd.N_base ho0)) (Kd.R_base ho1)) (fun _ h_ => h_.1)); have n2_ := am (Kd.N_lower (Kd.N_mono (ok' := fun k_ => ((P0_1_ k_ ∨ P1_1_ k_) ∨ w.heap.size ≤ k_) ∧ some k_ ≠ (v271 : Value).ownBlock ∧ k_ ≠ gb264 ∧ k_ ≠ gb265) ho0 (fun k_ hk_ => ⟨Or.elim hk_.1 (fun hs_ => hs_.1.1) (fun hn_ => (.inr (Nat.le_trans (below_size (pb HB)) hn_))), hk_.2, Or.elim hk_.1 (fun hs_ => hs_.1.2) (fun hn_ => (Kd.freshB (g := gb264) (o := .cells #[.int .i64 a0_0, .slice A0_1 l0_1.length c0_1] 55 (0, 0)) (pk BK264) k_ hn_)), Or.elim hk_.1 (fun hs_ => hs_.2) (fun hn_ => (Kd.freshB (g := gb265) (o := .cells #[.int .i64 a1_0, .slice A1_1 l1_1.length c1_1] 25 (0, 0)) (pk BK265) k_ hn_))⟩)) (below_size (pb HB))); have n3_ := am (Kd.R_lower (Kd.R_newM (M := fun k_ => (w.heap.size ≤ k_)) (Kd.R_mono (ok' := fun k_ => True) ho1 (fun _ hk_ => trivial)) (below_size (pb HB)) (fun k_ h_ => h_)) (below_size (pb HB))); have n4_ := bb BK264 hb; have n5_ := bb BK265 hb; have n6_ := am (below_step (pb HB) hb); clear HO0_1 HO1_1 BK264 BK265 HB; have HO0_1 := n0_; have HO1_1 := n1_; have HO269 := n2_; have HO272 := n3_; have BK264 := n4_; have BK265 := n5_; have HB := n6_; clear n0_ n1_ n2_ n3_ n4_ n5_ n6_; (try clear hb); (try clear hb2); (try clear hk); (try clear hi); (try clear ho0); (try clear ho1)) | ((with_reducible refine gate_dst (N := 6) rfl ?_); refine box_event ?hg (N := 6) ?hd (cs := #[.int .i64 0, .slice none 0 0]) (t := 55) ?hr ?_; (case hd => rfl); (case hg => rfl); (case hr => first | (go_simp; done) | (go_simp; rfl)); intro gb274 hg w10 hbox hb; have n0_ := am (Kd.V_below (Kd.V_elderB (pv HO0_1) gb274 (Nat.le_of_eq hg.symm)) hb); have n1_ := am (Kd.V_below (Kd.V_elderB (pv HO1_1) gb274 (Nat.le_of_eq hg.symm)) hb); have n2_ := am (Kd.N_below (Kd.N_elderB (pn HO269) gb274 (Nat.le_of_eq hg.symm)) hb); have n3_ := am (Kd.R_below (pr HO272) hb); have n4_ := bb BK264 hb; have n5_ := bb BK265 hb; have n6_ := am (below_step (pb HB) hb); have n7_ := am (hbox); have n8_ := am ((by rw [hg]; exact (below_size (pb HB)) : w.heap.size ≤ gb274)); have n9_ := am ((by rw [hg]; exact (below_size (pb HB)) : w.heap.size ≤ gb274)); have n10_ := am ((by rw [hg]; exact Nat.ne_of_lt (bl BK264) : gb264 ≠ gb274)); have n11_ := am ((by rw [hg]; exact Nat.ne_of_gt (bl BK264) : gb274 ≠ gb264)); have n12_ := am ((by rw [hg]; exact Nat.ne_of_lt (bl BK265) : gb265 ≠ gb274)); have n13_ := am ((by rw [hg]; exact Nat.ne_of_gt (bl BK265) : gb274 ≠ gb265)); clear HO0_1 HO1_1 HO269 HO272 BK264 BK265 HB; have HO0_1 := n0_; have HO1_1 := n1_; have HO269 := n2_; have HO272 := n3_; have BK264 := n4_; have BK265 := n5_; have HB := n6_; have BK274 := n7_; have GW274 := n8_; have GE274 := n9_; have NB264_274 := n10_; have NB274_264 := n11_; have NB265_274 := n12_; have NB274_265 := n13_; clear n0_ n1_ n2_ n3_ n4_ n5_ n6_ n7_ n8_ n9_ n10_ n11_ n12_ n13_ hb hbox hg; have hnb11 := NB274_264.out; have hnc11 := NB264_274.out; have hnb12 := NB274_265.out; have hnc12 := NB265_274.out; have hcz13_0 : w10.cell? ⟨gb274, 0, none⟩ = some (.int .i64 0) := (blk_cell BK274.out 0).trans rfl; have hcz13_1 : w10.cell? ⟨gb274, 1, none⟩ = some (.slice none 0 0) := (blk_cell BK274.out 1).trans rfl; have hfz13_0 := blk_frozen BK274.out 0; have hfz13_1 := blk_frozen BK274.out 1; obtain ⟨Ao14, co14, eo14⟩ := Kd.N_slice HO269.out; subst eo14))
 (try simp only [Act.put, q1, q2, q3])
 go_cut [19] (fun v19 wc => ∃ (kq : Nat) (x19_3 : Bool), v19 = .bool x19_3 ∧ Aside0 (reduce_Spans.j0 kq t270 x19_3 a0_0 l0_1 a1_0 l1_1 t266 t267 = some (r1, r2)) ∧ Aside0 (kq ≤ k) ∧ Aside0 (Kd.R (Kd.int .i64) 3 wc w.heap.size (fun k_ => (w.heap.size ≤ k_)) v271 t270) ∧ Aside0 (Kd.V k25 25 wc w.heap.size (fun k_ => ((P0_1_ k_ ∨ P1_1_ k_) ∨ w.heap.size ≤ k_) ∧ some k_ ≠ (v271 : Value).ownBlock ∧ some k_ ≠ ((.slice Ao14 t267.length co14) : Value).ownBlock ∧ k_ ≠ gb264 ∧ k_ ≠ gb265 ∧ k_ ≠ gb274) (.slice A0_1 l0_1.length c0_1) l0_1) ∧ Aside0 (Kd.V (Kd.int .u64) 90 wc w.heap.size (fun k_ => ((P0_1_ k_ ∨ P1_1_ k_) ∨ w.heap.size ≤ k_) ∧ some k_ ≠ (v271 : Value).ownBlock ∧ some k_ ≠ ((.slice Ao14 t267.length co14) : Value).ownBlock ∧ k_ ≠ gb264 ∧ k_ ≠ gb265 ∧ k_ ≠ gb274) (.slice A1_1 l1_1.length c1_1) l1_1) ∧ Aside0 (Kd.N k25 25 wc w.heap.size (fun k_ => ((P0_1_ k_ ∨ P1_1_ k_) ∨ w.heap.size ≤ k_) ∧ some k_ ≠ (v271 : Value).ownBlock ∧ k_ ≠ gb264 ∧ k_ ≠ gb265 ∧ k_ ≠ gb274) (.slice Ao14 t267.length co14) t267) ∧ Aside0 (wc.heap[gb264]? = some (.cells #[.int .i64 a0_0, (.slice A0_1 l0_1.length c0_1)] 55 (0, 0))) ∧ Aside0 (wc.heap[gb265]? = some (.cells #[.int .i64 a1_0, (.slice A1_1 l1_1.length c1_1)] 25 (0, 0))) ∧ Aside0 (wc.heap[gb274]? = some (.cells #[.int .i64 t266, (.slice Ao14 t267.length co14)] 55 (0, 0))) ∧ Aside0 (Below w.heap.size w wc))
 case first =>
  have H := HC4.out
  clear HC4
  by_cases c15 : t273 = 0
  ·
   rw [if_pos c15] at H
   have c15b0 : (t273 == 0) = true := beq_iff_eq.mpr c15
   have c15b1 : (t273 != 0) = false := bne_eq_false_iff_eq.mpr c15
   clear c15
   (first | rw [c15b0] | (simp only [i64_w, i32_w]; rw [c15b0]) | skip)
   replace H := Option.bind_eq_some_iff.mp H
   obtain ⟨t275, A160, H⟩ := H
   replace H : (reduce_Spans.j0 k t270 (!t275) a0_0 l0_1 a1_0 l1_1 t266 t267) = some (r1, r2) := H
   have A16 := Aside0.mk A160
   clear A160
   have H' := Aside0.mk H
   clear H
   have hnb17 := NB265_264.out
   have hnc17 := NB264_265.out
   have hnb18 := NB265_274.out
   have hnc18 := NB274_265.out
   have hcz19_0 : w10.cell? ⟨gb265, 0, none⟩ = some (.int .i64 a1_0) := (blk_cell BK265.out 0).trans rfl
   have hcz19_1 : w10.cell? ⟨gb265, 1, none⟩ = some (.slice A1_1 l1_1.length c1_1) := (blk_cell BK265.out 1).trans rfl
   have hfz19_0 := blk_frozen BK265.out 0
   have hfz19_1 := blk_frozen BK265.out 1
   go_wp2_with (first | (go_at_call 31; (with_reducible refine (bitrow_Right.calls a1_0 _ _ l1_1 t275 _ ?side1 ?side2 A16.out).mono ?_); (case side1 => refine (Kd.V_reads' (e := 90) (base := w.heap.size) (ok := fun k_ => (((((((P0_1_ k_ ∨ P1_1_ k_) ∨ w.heap.size ≤ k_) ∧ k_ ≠ gb264) ∧ k_ ≠ gb265) ∧ some k_ ≠ (.slice Ao14 t267.length co14 : Value).ownBlock) ∧ some k_ ≠ (v271 : Value).ownBlock) ∧ k_ ≠ gb274)) (n := l1_1.length) (c := c1_1) ?_).2.2; exact (by (with_reducible repeat (first | apply Kd.V_alloc | apply Kd.V_drewN | apply Kd.V_drew)); exact (Kd.V_mono (Kd.V_far (p := ⟨gb274, 1, none⟩) (Kd.V_far (p := ⟨gb274, 0, none⟩) (Kd.V_mono HO1_1.out (fun k_ hk => (⟨hk, hk.2⟩ : _ ∧ k_ ≠ gb274))) (fun _ hk => hk.2) (.int .i64 t266)) (fun _ hk => hk.2) (.slice Ao14 t267.length co14)) (fun _ h_ => h_.1)))); (case side2 => exact (Kd.V_reads' HO1_1.out).2.1); rintro e w20 ⟨rfl, hb⟩; have n0_ := am (Kd.V_below (by (with_reducible repeat (first | apply Kd.V_alloc | apply Kd.V_drewN | apply Kd.V_drew)); exact (Kd.V_mono (Kd.V_far (p := ⟨gb274, 1, none⟩) (Kd.V_far (p := ⟨gb274, 0, none⟩) (Kd.V_mono HO0_1.out (fun k_ hk => (⟨hk, hk.2⟩ : _ ∧ k_ ≠ gb274))) (fun _ hk => hk.2) (.int .i64 t266)) (fun _ hk => hk.2) (.slice Ao14 t267.length co14)) (fun _ h_ => h_.1))) hb); have n1_ := am (Kd.V_below (by (with_reducible repeat (first | apply Kd.V_alloc | apply Kd.V_drewN | apply Kd.V_drew)); exact (Kd.V_mono (Kd.V_far (p := ⟨gb274, 1, none⟩) (Kd.V_far (p := ⟨gb274, 0, none⟩) (Kd.V_mono HO1_1.out (fun k_ hk => (⟨hk, hk.2⟩ : _ ∧ k_ ≠ gb274))) (fun _ hk => hk.2) (.int .i64 t266)) (fun _ hk => hk.2) (.slice Ao14 t267.length co14)) (fun _ h_ => h_.1))) hb); have n2_ := am (Kd.N_below (by (with_reducible repeat (first | apply Kd.N_alloc | apply Kd.N_drewN | apply Kd.N_drew)); exact (Kd.N_mono (Kd.N_far (p := ⟨gb274, 1, none⟩) (Kd.N_far (p := ⟨gb274, 0, none⟩) (Kd.N_mono HO269.out (fun k_ hk => (⟨hk, hk.2⟩ : _ ∧ k_ ≠ gb274))) (fun _ hk => hk.2) (.int .i64 t266)) (fun _ hk => hk.2) (.slice Ao14 t267.length co14)) (fun _ h_ => h_.1))) hb); have n3_ := am (Kd.R_below (by (with_reducible repeat (first | apply Kd.R_alloc | apply Kd.R_drewN | apply Kd.R_drew)); exact (Kd.R_mono (Kd.R_far (p := ⟨gb274, 1, none⟩) (Kd.R_far (p := ⟨gb274, 0, none⟩) (Kd.R_types HO272.out BK274.out (by decide)) (fun _ hk => hk.2) (.int .i64 t266)) (fun _ hk => hk.2) (.slice Ao14 t267.length co14)) (fun _ h_ => h_.1))) hb); have n4_ := am (blk_below (g := gb264) (o := .cells #[.int .i64 a0_0, .slice A0_1 l0_1.length c0_1] 55 (0, 0)) (by (with_reducible repeat (first | refine blk_drewN ?_ _ | refine blk_drew ?_ | refine blk_alloc ?_ _)); refine blk_far ?_ NB264_274.out _; (with_reducible repeat (first | refine blk_drewN ?_ _ | refine blk_drew ?_ | refine blk_alloc ?_ _)); refine blk_far ?_ NB264_274.out _; (with_reducible repeat (first | refine blk_drewN ?_ _ | refine blk_drew ?_ | refine blk_alloc ?_ _)); exact BK264.out) hb); have n5_ := am (blk_below (g := gb265) (o := .cells #[.int .i64 a1_0, .slice A1_1 l1_1.length c1_1] 25 (0, 0)) (by (with_reducible repeat (first | refine blk_drewN ?_ _ | refine blk_drew ?_ | refine blk_alloc ?_ _)); refine blk_far ?_ NB265_274.out _; (with_reducible repeat (first | refine blk_drewN ?_ _ | refine blk_drew ?_ | refine blk_alloc ?_ _)); refine blk_far ?_ NB265_274.out _; (with_reducible repeat (first | refine blk_drewN ?_ _ | refine blk_drew ?_ | refine blk_alloc ?_ _)); exact BK265.out) hb); have n6_ := am (blk_below (g := gb274) (o := .cells #[.int .i64 t266, .slice Ao14 t267.length co14] 55 (0, 0)) (by (with_reducible repeat (first | refine blk_drewN ?_ _ | refine blk_drew ?_ | refine blk_alloc ?_ _)); refine blk_put (cs := #[.int .i64 t266, .slice none 0 0]) ?_ 1 _ rfl; (with_reducible repeat (first | refine blk_drewN ?_ _ | refine blk_drew ?_ | refine blk_alloc ?_ _)); refine blk_put (cs := #[.int .i64 0, .slice none 0 0]) ?_ 0 _ rfl; (with_reducible repeat (first | refine blk_drewN ?_ _ | refine blk_drew ?_ | refine blk_alloc ?_ _)); exact BK274.out) hb); have n7_ := am (below_step (pb HB) hb); clear HO0_1 HO1_1 HO269 HO272 BK264 BK265 BK274 HB; have HO0_1 := n0_; have HO1_1 := n1_; have HO269 := n2_; have HO272 := n3_; have BK264 := n4_; have BK265 := n5_; have BK274 := n6_; have HB := n7_; clear n0_ n1_ n2_ n3_ n4_ n5_ n6_ n7_; (try clear hb); (try clear hb2); (try clear hk); (try clear hi)))
   go_meet
   case rel => exact ⟨_, (!t275), (by first | rfl | (simp; done) | (simp [*]; done)), H', ⟨by first | omega | exact Nat.le_refl _⟩, ⟨by (with_reducible repeat (first | apply Kd.R_alloc | apply Kd.R_drewN | apply Kd.R_drew)); exact Kd.R_mono HO272.out (fun _ hk => hk.1)⟩, ⟨by (with_reducible repeat (first | apply Kd.V_alloc | apply Kd.V_drewN | apply Kd.V_drew)); exact Kd.V_mono HO0_1.out (fun _ hk => ⟨hk.1.1.1.1.1, ⟨hk.1.2, ⟨hk.1.1.2, ⟨hk.1.1.1.1.2, ⟨hk.1.1.1.2, hk.2⟩⟩⟩⟩⟩)⟩, ⟨by (with_reducible repeat (first | apply Kd.V_alloc | apply Kd.V_drewN | apply Kd.V_drew)); exact Kd.V_mono HO1_1.out (fun _ hk => ⟨hk.1.1.1.1.1, ⟨hk.1.2, ⟨hk.1.1.2, ⟨hk.1.1.1.1.2, ⟨hk.1.1.1.2, hk.2⟩⟩⟩⟩⟩)⟩, ⟨by (with_reducible repeat (first | apply Kd.N_alloc | apply Kd.N_drewN | apply Kd.N_drew)); exact Kd.N_mono HO269.out (fun _ hk => ⟨hk.1.1, ⟨hk.1.2.1, ⟨hk.1.2.2.1, ⟨hk.1.2.2.2, hk.2⟩⟩⟩⟩)⟩, ⟨by (with_reducible repeat (first | refine blk_drewN ?_ _ | refine blk_drew ?_ | refine blk_alloc ?_ _)); exact BK264.out⟩, ⟨by (with_reducible repeat (first | refine blk_drewN ?_ _ | refine blk_drew ?_ | refine blk_alloc ?_ _)); exact BK265.out⟩, ⟨by (with_reducible repeat (first | refine blk_drewN ?_ _ | refine blk_drew ?_ | refine blk_alloc ?_ _)); exact BK274.out⟩, ⟨pb HB⟩⟩
  ·
   rw [if_neg c15] at H
   have c15b0 : (t273 == 0) = false := beq_eq_false_iff_ne.mpr c15
   have c15b1 : (t273 != 0) = true := bne_iff_ne.mpr c15
   (first | rw [c15b0] | (simp only [i64_w, i32_w]; rw [c15b0]) | skip)
   have H' := Aside0.mk H
   clear H
   go_wp2
   go_meet
   case rel => exact ⟨_, (true), (by first | rfl | (simp; done) | (simp [*]; done)), H', ⟨by first | omega | exact Nat.le_refl _⟩, ⟨by (with_reducible repeat (first | apply Kd.R_alloc | apply Kd.R_drewN | apply Kd.R_drew)); exact Kd.R_mono (Kd.R_far (p := ⟨gb274, 1, none⟩) (Kd.R_far (p := ⟨gb274, 0, none⟩) (Kd.R_types HO272.out BK274.out (by decide)) (fun _ hk => hk.2) (.int .i64 t266)) (fun _ hk => hk.2) (.slice Ao14 t267.length co14)) (fun _ hk => hk.1.1)⟩, ⟨by (with_reducible repeat (first | apply Kd.V_alloc | apply Kd.V_drewN | apply Kd.V_drew)); exact Kd.V_mono (Kd.V_far (p := ⟨gb274, 1, none⟩) (Kd.V_far (p := ⟨gb274, 0, none⟩) (Kd.V_mono HO0_1.out (fun k_ hk => (⟨hk, hk.2⟩ : _ ∧ k_ ≠ gb274))) (fun _ hk => hk.2) (.int .i64 t266)) (fun _ hk => hk.2) (.slice Ao14 t267.length co14)) (fun _ hk => ⟨hk.1.1.1.1.1.1, ⟨hk.1.1.2, ⟨hk.1.1.1.2, ⟨hk.1.1.1.1.1.2, ⟨hk.1.1.1.1.2, hk.1.2⟩⟩⟩⟩⟩)⟩, ⟨by (with_reducible repeat (first | apply Kd.V_alloc | apply Kd.V_drewN | apply Kd.V_drew)); exact Kd.V_mono (Kd.V_far (p := ⟨gb274, 1, none⟩) (Kd.V_far (p := ⟨gb274, 0, none⟩) (Kd.V_mono HO1_1.out (fun k_ hk => (⟨hk, hk.2⟩ : _ ∧ k_ ≠ gb274))) (fun _ hk => hk.2) (.int .i64 t266)) (fun _ hk => hk.2) (.slice Ao14 t267.length co14)) (fun _ hk => ⟨hk.1.1.1.1.1.1, ⟨hk.1.1.2, ⟨hk.1.1.1.2, ⟨hk.1.1.1.1.1.2, ⟨hk.1.1.1.1.2, hk.1.2⟩⟩⟩⟩⟩)⟩, ⟨by (with_reducible repeat (first | apply Kd.N_alloc | apply Kd.N_drewN | apply Kd.N_drew)); exact Kd.N_mono (Kd.N_far (p := ⟨gb274, 1, none⟩) (Kd.N_far (p := ⟨gb274, 0, none⟩) (Kd.N_mono HO269.out (fun k_ hk => (⟨hk, hk.2⟩ : _ ∧ k_ ≠ gb274))) (fun _ hk => hk.2) (.int .i64 t266)) (fun _ hk => hk.2) (.slice Ao14 t267.length co14)) (fun _ hk => ⟨hk.1.1.1, ⟨hk.1.1.2.1, ⟨hk.1.1.2.2.1, ⟨hk.1.1.2.2.2, hk.1.2⟩⟩⟩⟩)⟩, ⟨by (with_reducible repeat (first | refine blk_drewN ?_ _ | refine blk_drew ?_ | refine blk_alloc ?_ _)); refine blk_far ?_ NB264_274.out _; (with_reducible repeat (first | refine blk_drewN ?_ _ | refine blk_drew ?_ | refine blk_alloc ?_ _)); refine blk_far ?_ NB264_274.out _; (with_reducible repeat (first | refine blk_drewN ?_ _ | refine blk_drew ?_ | refine blk_alloc ?_ _)); exact BK264.out⟩, ⟨by (with_reducible repeat (first | refine blk_drewN ?_ _ | refine blk_drew ?_ | refine blk_alloc ?_ _)); refine blk_far ?_ NB265_274.out _; (with_reducible repeat (first | refine blk_drewN ?_ _ | refine blk_drew ?_ | refine blk_alloc ?_ _)); refine blk_far ?_ NB265_274.out _; (with_reducible repeat (first | refine blk_drewN ?_ _ | refine blk_drew ?_ | refine blk_alloc ?_ _)); exact BK265.out⟩, ⟨by (with_reducible repeat (first | refine blk_drewN ?_ _ | refine blk_drew ?_ | refine blk_alloc ?_ _)); refine blk_put (cs := #[.int .i64 t266, .slice none 0 0]) ?_ 1 _ rfl; (with_reducible repeat (first | refine blk_drewN ?_ _ | refine blk_drew ?_ | refine blk_alloc ?_ _)); refine blk_put (cs := #[.int .i64 0, .slice none 0 0]) ?_ 0 _ rfl; (with_reducible repeat (first | refine blk_drewN ?_ _ | refine blk_drew ?_ | refine blk_alloc ?_ _)); exact BK274.out⟩, ⟨pb HB⟩⟩
 case rest =>
  clear HC4
  try clear c1
  try clear p2
  try clear c4
  try clear c5
  try clear c7
  try clear c11
  try clear c12
  try clear c15
  try clear c15b0
  try clear c15b1
  try clear c17
  try clear c18
  try clear hcz13_0
  try clear hcz13_1
  try clear hcz19_0
  try clear hcz19_1
  try clear hcz8_0
  try clear hcz8_1
  try clear hfz13_0
  try clear hfz13_1
  try clear hfz19_0
  try clear hfz19_1
  try clear hfz8_0
  try clear hfz8_1
  obtain ⟨kq, x19_3, rfl, HA, HJ3, HO_7, HO_265001, HO_266001, HO_275001, BK264, BK265, BK274, HB⟩ := hcut
  cases kq with
  | zero => exact absurd HA.out (by simp [reduce_Spans.j0])
  | succ kj3 =>
   have H := HA.out
   clear HA
   simp only [reduce_Spans.j0] at H
   by_cases c21 : x19_3 = true
   ·
    subst c21
    have H1 : (some (false, 1)) = some (r1, r2) := by rw [if_pos rfl] at H; exact H
    clear H
    have H := H1
    clear H1
    simp only [Option.some.injEq, Prod.mk.injEq] at H
    obtain ⟨rfl, rfl⟩ := H
    go_wp2
    go_ret2
    exact ⟨by first | rfl | (simp [errW_none, errW_some] <;> rfl) | (simp [*, errW_none, errW_some] <;> rfl), pb HB⟩
   ·
    replace c21 := Bool.eq_false_iff.mpr c21
    subst c21
    have H1 : (if a1_0 = a0_0 then (reduce_Spans.l0 kj3 t270 (t270.length : Int) 0 a1_0 l1_1 t266 t267) else (some (false, 2))) = some (r1, r2) := by rw [if_neg (show ¬ (false = true) by decide)] at H; exact H
    clear H
    have H := H1
    clear H1
    by_cases c22 : a1_0 = a0_0
    ·
     rw [if_pos c22] at H
     have c22b0 : (a1_0 == a0_0) = true := beq_iff_eq.mpr c22
     have c22b1 : (a1_0 != a0_0) = false := bne_eq_false_iff_eq.mpr c22
     clear c22
     have H' := Aside0.mk H
     clear H
     have hnb23 := NB265_264.out
     have hnc23 := NB264_265.out
     have hnb24 := NB265_274.out
     have hnc24 := NB274_265.out
     have hcz25_0 : wc.cell? ⟨gb265, 0, none⟩ = some (.int .i64 a1_0) := (blk_cell BK265.out 0).trans rfl
     have hcz25_1 : wc.cell? ⟨gb265, 1, none⟩ = some (.slice A1_1 l1_1.length c1_1) := (blk_cell BK265.out 1).trans rfl
     have hfz25_0 := blk_frozen BK265.out 0
     have hfz25_1 := blk_frozen BK265.out 1
     have hnb26 := NB264_274.out
     have hnc26 := NB274_264.out
     have hcz27_0 : wc.cell? ⟨gb264, 0, none⟩ = some (.int .i64 a0_0) := (blk_cell BK264.out 0).trans rfl
     have hcz27_1 : wc.cell? ⟨gb264, 1, none⟩ = some (.slice A0_1 l0_1.length c0_1) := (blk_cell BK264.out 1).trans rfl
     have hfz27_0 := blk_frozen BK264.out 0
     have hfz27_1 := blk_frozen BK264.out 1
     obtain ⟨Ao28, co28, eo28⟩ := Kd.R_slice HO_7.out
     subst eo28
     go_wp2
     go_loopg [35] kj3 (fun kq v35 w' => ∃ (x35_2 : Int) (x266000_2 : Int) (x266001_2 : List Int) (u266001 : Value), v35 = .int .i64 x35_2 ∧ Aside0 (reduce_Spans.l0 kq t270 (t270.length : Int) x35_2 x266000_2 x266001_2 t266 t267 = some (r1, r2)) ∧ Aside0 (kq ≤ kj3) ∧ Aside0 (Kd.R (Kd.int .i64) 3 w' w.heap.size (fun k_ => (w.heap.size ≤ k_)) (.slice Ao28 t270.length co28) t270) ∧ Aside0 (Kd.V k25 25 w' w.heap.size (fun k_ => ((P0_1_ k_ ∨ P1_1_ k_) ∨ w.heap.size ≤ k_) ∧ some k_ ≠ ((.slice Ao28 t270.length co28) : Value).ownBlock ∧ some k_ ≠ ((.slice Ao14 t267.length co14) : Value).ownBlock ∧ k_ ≠ gb264 ∧ k_ ≠ gb265 ∧ k_ ≠ gb274) (.slice A0_1 l0_1.length c0_1) l0_1) ∧ Aside0 (Kd.V (Kd.int .u64) 90 w' w.heap.size (fun k_ => ((P0_1_ k_ ∨ P1_1_ k_) ∨ w.heap.size ≤ k_) ∧ some k_ ≠ ((.slice Ao28 t270.length co28) : Value).ownBlock ∧ some k_ ≠ ((.slice Ao14 t267.length co14) : Value).ownBlock ∧ k_ ≠ gb264 ∧ k_ ≠ gb265 ∧ k_ ≠ gb274) u266001 x266001_2) ∧ Aside0 (Kd.N k25 25 w' w.heap.size (fun k_ => ((P0_1_ k_ ∨ P1_1_ k_) ∨ w.heap.size ≤ k_) ∧ some k_ ≠ ((.slice Ao28 t270.length co28) : Value).ownBlock ∧ k_ ≠ gb264 ∧ k_ ≠ gb265 ∧ k_ ≠ gb274) (.slice Ao14 t267.length co14) t267) ∧ Aside0 (w'.heap[gb264]? = some (.cells #[.int .i64 a0_0, (.slice A0_1 l0_1.length c0_1)] 55 (0, 0))) ∧ Aside0 (w'.heap[gb265]? = some (.cells #[.int .i64 x266000_2, u266001] 25 (0, 0))) ∧ Aside0 (w'.heap[gb274]? = some (.cells #[.int .i64 t266, (.slice Ao14 t267.length co14)] 55 (0, 0))) ∧ Aside0 (Below w.heap.size w w'))
     case atStart => exact ⟨(0), (a1_0), (l1_1), (.slice A1_1 l1_1.length c1_1), (by first | rfl | (simp; done) | (simp [*]; done)), H', ⟨Nat.le_refl _⟩, ⟨by (with_reducible repeat (first | apply Kd.R_alloc | apply Kd.R_drewN | apply Kd.R_drew)); exact HO_7.out⟩, ⟨by (with_reducible repeat (first | apply Kd.V_alloc | apply Kd.V_drewN | apply Kd.V_drew)); exact HO_265001.out⟩, ⟨by (with_reducible repeat (first | apply Kd.V_alloc | apply Kd.V_drewN | apply Kd.V_drew)); exact HO_266001.out⟩, ⟨by (with_reducible repeat (first | apply Kd.N_alloc | apply Kd.N_drewN | apply Kd.N_drew)); exact HO_275001.out⟩, ⟨by (with_reducible repeat (first | refine blk_drewN ?_ _ | refine blk_drew ?_ | refine blk_alloc ?_ _)); exact BK264.out⟩, ⟨by (with_reducible repeat (first | refine blk_drewN ?_ _ | refine blk_drew ?_ | refine blk_alloc ?_ _)); exact BK265.out⟩, ⟨by (with_reducible repeat (first | refine blk_drewN ?_ _ | refine blk_drew ?_ | refine blk_alloc ?_ _)); exact BK274.out⟩, ⟨pb HB⟩⟩
     case round =>
      clear H'
      try clear c1
      try clear c2
      try clear p2
      try clear c4
      try clear c5
      try clear c7
      try clear c11
      try clear c12
      try clear c15
      try clear c15b0
      try clear c15b1
      try clear c17
      try clear c18
      try clear c21
      try clear c22
      try clear c22b0
      try clear c22b1
      try clear c23
      try clear c24
      try clear c26
      try clear hcz13_0
      try clear hcz13_1
      try clear hcz19_0
      try clear hcz19_1
      try clear hcz25_0
      try clear hcz25_1
      try clear hcz27_0
      try clear hcz27_1
      try clear hcz8_0
      try clear hcz8_1
      try clear hfz13_0
      try clear hfz13_1
      try clear hfz19_0
      try clear hfz19_1
      try clear hfz25_0
      try clear hfz25_1
      try clear hfz27_0
      try clear hfz27_1
      try clear hfz8_0
      try clear hfz8_1
      try clear p2
      obtain ⟨x35_2, x266000_2, x266001_2, u266001, rfl, HA, HK2, HO_33, HO_265001, HO_266001, HO_275001, BK264, BK265, BK274, HB⟩ := hrel
      cases gk with
      | zero => exact absurd HA.out (by simp [reduce_Spans.l0])
      | succ k2 =>
       have H := HA.out
       clear HA
       simp only [reduce_Spans.l0] at H
       by_cases c29 : x35_2 < (t270.length : Int)
       ·
        rw [if_pos c29] at H
        have c29b0 : decide (x35_2 < (t270.length : Int)) = true := decide_eq_true c29
        clear c29
        by_cases c30 : 0 ≤ x35_2
        ·
         rw [if_pos c30] at H
         have c30b0 : decide (0 ≤ x35_2) = true := decide_eq_true c30
         clear c30
         by_cases c31 : x35_2 < (t270.length : Int)
         ·
          rw [if_pos c31] at H
          have c31b0 : decide (x35_2 < (t270.length : Int)) = true := decide_eq_true c31
          clear c31
          replace H := Option.bind_eq_some_iff.mp H
          obtain ⟨t279, A320, H⟩ := H
          replace H : (if t279 = true then (if x35_2 < (t267.length : Int) then ((bitrow_Xor.f k2 x266000_2 x266001_2 ((rd_T25 t267 x35_2).f0) ((rd_T25 t267 x35_2).f1)).bind fun bt281 => (reduce_Spans.l0 k2 t270 (t270.length : Int) (wrap64 (x35_2 + 1)) bt281.1 bt281.2.1 t266 t267)) else (none)) else (reduce_Spans.l0 k2 t270 (t270.length : Int) (wrap64 (x35_2 + 1)) x266000_2 x266001_2 t266 t267)) = some (r1, r2) := H
          have A32 := Aside0.mk A320
          clear A320
          by_cases c33 : t279 = true
          ·
           subst c33
           have H1 : (if x35_2 < (t267.length : Int) then ((bitrow_Xor.f k2 x266000_2 x266001_2 ((rd_T25 t267 x35_2).f0) ((rd_T25 t267 x35_2).f1)).bind fun bt281 => (reduce_Spans.l0 k2 t270 (t270.length : Int) (wrap64 (x35_2 + 1)) bt281.1 bt281.2.1 t266 t267)) else (none)) = some (r1, r2) := by rw [if_pos rfl] at H; exact H
           clear H
           have H := H1
           clear H1
           by_cases c34 : x35_2 < (t267.length : Int)
           ·
            rw [if_pos c34] at H
            have c34b0 : decide (x35_2 < (t267.length : Int)) = true := decide_eq_true c34
            clear c34
            replace H := Option.bind_eq_some_iff.mp H
            obtain ⟨⟨t281, t282, t285⟩, A350, H⟩ := H
            replace H : (reduce_Spans.l0 k2 t270 (t270.length : Int) (wrap64 (x35_2 + 1)) t281 t282 t266 t267) = some (r1, r2) := H
            have A35 := Aside0.mk A350
            clear A350
            have H' := Aside0.mk H
            clear H
            have p278 : 0 ≤ (x35_2 : Int) := of_decide_eq_true (by first | (with_reducible assumption) | assumption)
            have q278 : x35_2 < (t270.length : Int) := of_decide_eq_true (by first | (with_reducible assumption) | assumption)
            obtain ⟨ad278, e278, hx278_0⟩ := Kd.at_int (Kd.R_reads' HO_33.out).2.2 x35_2 p278 q278
            cases e278
            replace p278 := eq_true p278
            replace q278 := eq_true q278
            have hnb36 := NB265_264.out
            have hnc36 := NB264_265.out
            have hnb37 := NB265_274.out
            have hnc37 := NB274_265.out
            have hcz38_0 : wr.cell? ⟨gb265, 0, none⟩ = some (.int .i64 x266000_2) := (blk_cell BK265.out 0).trans rfl
            have hcz38_1 : wr.cell? ⟨gb265, 1, none⟩ = some (u266001) := (blk_cell BK265.out 1).trans rfl
            have hfz38_0 := blk_frozen BK265.out 0
            have hfz38_1 := blk_frozen BK265.out 1
            obtain ⟨Ao39, co39, eo39⟩ := Kd.V_slice HO_266001.out
            subst eo39
            try go_wp2_with (first | ((with_reducible refine gate_callee (f := 84) rfl ?_); refine goesL_ (some 42) rfl rfl Tryd.func84 (by kernel_rfl) rfl #[.agg #[.int .i64 x266000_2, .slice Ao39 x266001_2.length co39], .int .i64 (rd t270 x35_2)] rfl (by (try simp only [List.map_toArray, List.map_cons, List.map_nil]); first | done | rfl | (simp only [List.length_drop, List.length_take]; rfl)) ?_; (with_reducible refine (reduce_bit.calls x266000_2 _ _ x266001_2 (rd t270 x35_2) true _ ?side1 ?side2 A32.out).mono ?_); (case side1 => repeat (first | exact (Kd.V_reads' HO_266001.out).2.2 | (with_reducible refine Kd.C_alloc ?_ _) | (with_reducible refine Kd.C_drewN ?_ _) | (with_reducible refine Kd.C_drew ?_))); (case side2 => exact (Kd.V_reads' HO_266001.out).2.1); rintro e w40 ⟨rfl, hb⟩; refine ⟨_, rfl, ?_⟩; have n0_ := am (Kd.R_below (pr HO_33) hb); have n1_ := am (Kd.V_below (pv HO_265001) hb); have n2_ := am (Kd.V_below (pv HO_266001) hb); have n3_ := am (Kd.N_below (pn HO_275001) hb); have n4_ := bb BK264 hb; have n5_ := bb BK265 hb; have n6_ := bb BK274 hb; have n7_ := am (below_step (pb HB) hb); clear HO_33 HO_265001 HO_266001 HO_275001 BK264 BK265 BK274 HB; have HO_33 := n0_; have HO_265001 := n1_; have HO_266001 := n2_; have HO_275001 := n3_; have BK264 := n4_; have BK265 := n5_; have BK274 := n6_; have HB := n7_; clear n0_ n1_ n2_ n3_ n4_ n5_ n6_ n7_; (try clear hb); (try clear hb2); (try clear hk); (try clear hi)))
            have n0_ := am (Kd.R_drew HO_33.out)
            have n1_ := am (Kd.V_drew HO_265001.out)
            have n2_ := am (Kd.V_drew HO_266001.out)
            have n3_ := am (Kd.N_drew HO_275001.out)
            have n4_ := am (blk_drew BK264.out)
            have n5_ := am (blk_drew BK265.out)
            have n6_ := am (blk_drew BK274.out)
            have n7_ := am (below_drew1 HB.out)
            clear HO_33
            clear HO_265001
            clear HO_266001
            clear HO_275001
            clear BK264
            clear BK265
            clear BK274
            clear HB
            have HO_33 := n0_
            have HO_265001 := n1_
            have HO_266001 := n2_
            have HO_275001 := n3_
            have BK264 := n4_
            have BK265 := n5_
            have BK274 := n6_
            have HB := n7_
            clear n0_ n1_ n2_ n3_ n4_ n5_ n6_ n7_
            have p280 : 0 ≤ (x35_2 : Int) := of_decide_eq_true (by first | (with_reducible assumption) | assumption)
            have q280 : x35_2 < (t267.length : Int) := of_decide_eq_true (by first | (with_reducible assumption) | assumption)
            obtain ⟨ad280, A280_1, c280_1, e280, hx280_0, hx280_1, hl280_1, hi280_1⟩ := at_T25 (Kd.N_reads' HO_275001.out).2.2 x35_2 p280 q280
            cases e280
            obtain ⟨ce280, hce280, hMe280, hcc280⟩ := Kd.N_get HO_275001.out z25 x35_2 p280 (by first | exact q280 | exact of_decide_eq_true (by first | (with_reducible assumption) | assumption) | (have e_ := (Kd.N_reads' HO_275001.out).1; omega))
            obtain ⟨ua280_1, uc280_1, rfl, ul280_1, ge280_1⟩ := k25_openF hMe280
            have hv280_1 := hcc280 1 _ rfl
            rw [add_field _ _ 1 (by omega)] at hv280_1
            replace hv280_1 := Option.some.inj (hv280_1.symm.trans hx280_1)
            injection hv280_1 with hva_ hvn_ hvc_
            rw [hva_] at ge280_1
            rw [hvc_] at ul280_1
            have HL280_1 := am (show Kd.V (Kd.int .u64) 90 _ w.heap.size _ _ ((rd_T25 t267 x35_2).f1) from Kd.V_mk ul280_1 ge280_1)
            clear hva_ hvn_ hvc_ ge280_1 ul280_1
            clear hcc280 hce280
            have HR280_1 := Aside0.mk hi280_1
            have HC280_1 := Aside0.mk hl280_1
            clear hi280_1 hl280_1
            replace p280 := eq_true p280
            replace q280 := eq_true q280
            refine start_ (n := 11) (S := fun w' => w'.cell? ⟨gb265, 0, none⟩ = some (.int .i64 x266000_2) ∧ w'.cell? ⟨gb265, 1, none⟩ = some (.slice Ao39 x266001_2.length co39) ∧ w'.cell? ⟨gb274, 0, none⟩ = some (.int .i64 t266) ∧ w'.cell? ⟨gb274, 1, none⟩ = some (.slice (some ad280) t267.length co14) ∧ w'.cell? (ad280.add ((x35_2).toNat * 2)) = some (.int .i64 ((rd_T25 t267 x35_2).f0)) ∧ w'.cell? ⟨(ad280.add ((x35_2).toNat * 2)).block, (ad280.add ((x35_2).toNat * 2)).off + 1, none⟩ = some (.slice A280_1 ((rd_T25 t267 x35_2).f1).length c280_1)) (ds := [10]) #[F, F, F, F, F, F, F, F, F, F, F] (by kernel_rfl) rfl rfl ⟨(blk_cell BK265.out 0).trans rfl, (blk_cell BK265.out 1).trans rfl, (blk_cell BK274.out 0).trans rfl, (blk_cell BK274.out 1).trans rfl, hx280_0, hx280_1⟩ (fun hHeld => ?_); refine with_tabW reduce_Spans.tab10 reduce_Spans.bits10 (fun HT_ HW_ => ?_)
            generalize w40.drew = w41 at HO_33 HO_265001 HO_266001 HO_275001 BK264 BK265 BK274 HB HL280_1 HR280_1 hx280_0 hx280_1 hHeld ⊢
            refine pure_ (i := 1) (N := some 45) (v := ?_) (a' := ?_) #[F, T, F, F, F, F, F, F, F, F, F] rfl rfl (any_of HT_.out (by kernel_rfl)) (fun _ _ _ h => h) (Or.inl ⟨by rfl, ?_⟩) ?_ ?_
            rotate_left
            ·
             intro w'
             go_simp
             with_reducible rfl
            rotate_left
            ·
             simp only [Act.put, q1, q2, q3, i64_w, i32_w]
             rfl
            refine pure_ (i := 3) (N := some 47) (v := ?_) (a' := ?_) #[F, T, F, T, F, F, F, F, F, F, F] rfl rfl (any_of HT_.out (by kernel_rfl)) (fun _ _ _ h => h) (Or.inl ⟨by rfl, ?_⟩) ?_ ?_
            rotate_left
            ·
             intro w'
             go_simp
             with_reducible rfl
            rotate_left
            ·
             simp only [Act.put, q1, q2, q3, i64_w, i32_w]
             rfl
            refine take_ (i := 0) (N := some 44) (v := ?_) (a' := ?_) #[T, T, F, T, F, F, F, F, F, F, F] rfl rfl (take_ofW HT_.out HW_.out (by kernel_rfl)) (fun _ _ _ h => h) (Or.inl ⟨by rfl, ?_⟩) hHeld ?_ ?_
            rotate_left
            ·
             rintro w' ⟨s0, s1, s2, s3, s4, s5⟩
             go_simp
             with_reducible rfl
            rotate_left
            ·
             simp only [Act.put, q1, q2, q3, i64_w, i32_w]
             rfl
            refine take_ (i := 2) (N := some 46) (v := ?_) (a' := ?_) #[T, T, T, T, F, F, F, F, F, F, F] rfl rfl (take_ofW HT_.out HW_.out (by kernel_rfl)) (fun _ _ _ h => h) (Or.inl ⟨by rfl, ?_⟩) hHeld ?_ ?_
            rotate_left
            ·
             rintro w' ⟨s0, s1, s2, s3, s4, s5⟩
             go_simp
             with_reducible rfl
            rotate_left
            ·
             simp only [Act.put, q1, q2, q3, i64_w, i32_w]
             rfl
            refine pure_ (i := 4) (N := some 48) (v := ?_) (a' := ?_) #[T, T, T, T, T, F, F, F, F, F, F] rfl rfl (any_of HT_.out (by kernel_rfl)) (fun _ _ _ h => h) (Or.inl ⟨by rfl, ?_⟩) ?_ ?_
            rotate_left
            ·
             intro w'
             go_simp
             with_reducible rfl
            rotate_left
            ·
             simp only [Act.put, q1, q2, q3, i64_w, i32_w]
             rfl
            refine take_ (i := 5) (N := some 49) (v := ?_) (a' := ?_) #[T, T, T, T, T, T, F, F, F, F, F] rfl rfl (take_ofW HT_.out HW_.out (by kernel_rfl)) (fun _ _ _ h => h) (Or.inl ⟨by rfl, ?_⟩) hHeld ?_ ?_
            rotate_left
            ·
             rintro w' ⟨s0, s1, s2, s3, s4, s5⟩
             go_simp
             with_reducible rfl
            rotate_left
            ·
             simp only [Act.put, q1, q2, q3, i64_w, i32_w]
             rfl
            refine one_ (i := 6) (N := some 50) #[T, T, T, T, T, T, T, F, F, F, F] rfl rfl (one_of HT_.out (by kernel_rfl)) (by decide) (fun K hK => ?_)
            refine goes_ Tryd.func28 (by kernel_rfl) rfl #[.agg #[.int .i64 x266000_2, .slice Ao39 x266001_2.length co39], .agg #[.int .i64 ((rd_T25 t267 x35_2).f0), .slice A280_1 ((rd_T25 t267 x35_2).f1).length c280_1]] (by rfl) rfl rfl (by (try simp only [List.map_toArray, List.map_cons, List.map_nil]); first | done | rfl | (simp only [List.length_drop, List.length_take]; rfl)) ?_
            with_reducible refine (bitrow_Xor.calls k2 x266000_2 _ _ x266001_2 ((rd_T25 t267 x35_2).f0) _ _ ((rd_T25 t267 x35_2).f1) t281 t282 t285 _ ?side1 ?side2 ?side3 ?side4 A35.out).mono ?_
            (case side1 => repeat (first | exact (Kd.V_reads' HO_266001.out).2.2 | (with_reducible refine Kd.C_alloc ?_ _) | (with_reducible refine Kd.C_drewN ?_ _) | (with_reducible refine Kd.C_drew ?_)))
            (case side2 => exact (Kd.V_reads' HO_266001.out).2.1)
            (case side3 => repeat (first | exact (by repeat (first | (with_reducible exact HR280_1.out) | (with_reducible refine Kd.C_alloc ?_ _) | (with_reducible refine Kd.C_drewN ?_ _) | (with_reducible refine Kd.C_drew ?_) | exact HR280_1.out)) | (with_reducible refine Kd.C_alloc ?_ _) | (with_reducible refine Kd.C_drewN ?_ _) | (with_reducible refine Kd.C_drew ?_)))
            (case side4 => exact HC280_1.out)
            rintro e w42 ⟨v283, rfl, ho0, hb⟩
            have HS4_ := (hb.cell (World.block_lt_of_cell? _ _ (hHeld.2.2.2.2.1))).trans (hHeld.2.2.2.2.1)
            have HS5_ := (hb.cell (World.block_lt_of_cell? _ _ (hHeld.2.2.2.2.2))).trans (hHeld.2.2.2.2.2)
            refine ⟨_, rfl, ?_⟩
            have n0_ := am (Kd.R_below (pr HO_33) hb)
            have n1_ := am (Kd.V_elder' (pv HO_265001) (Kd.R_base ho0) hb)
            have n2_ := am (Kd.V_elder' (pv HO_266001) (Kd.R_base ho0) hb)
            have n3_ := am (Kd.N_elder' (pn HO_275001) (Kd.R_base ho0) hb)
            have n4_ := am (Kd.V_elder' (pv HL280_1) (Kd.R_base ho0) hb)
            have n5_ := am (Kd.R_lower (Kd.R_newM (M := fun k_ => (w.heap.size ≤ k_)) ho0 (below_size (pb HB)) (fun k_ h_ => h_)) (below_size (pb HB)))
            have n6_ := bb BK264 hb
            have n7_ := bb BK265 hb
            have n8_ := bb BK274 hb
            have n9_ := am (Kd.C_below (by repeat (first | (with_reducible exact HR280_1.out) | (with_reducible refine Kd.C_alloc ?_ _) | (with_reducible refine Kd.C_drewN ?_ _) | (with_reducible refine Kd.C_drew ?_) | exact HR280_1.out)) hb)
            have n10_ := am (below_step (pb HB) hb)
            clear HO_33
            clear HO_265001
            clear HO_266001
            clear HO_275001
            clear HL280_1
            clear BK264
            clear BK265
            clear BK274
            clear HR280_1
            clear HB
            have HO_33 := n0_
            have HO_265001 := n1_
            have HO_266001 := n2_
            have HO_275001 := n3_
            have HL280_1 := n4_
            have HO284 := n5_
            have BK264 := n6_
            have BK265 := n7_
            have BK274 := n8_
            have HR280_1 := n9_
            have HB := n10_
            clear n0_ n1_ n2_ n3_ n4_ n5_ n6_ n7_ n8_ n9_ n10_
            (try clear hb)
            (try clear hb2)
            (try clear hk)
            (try clear hi)
            (try clear ho0)
            obtain ⟨Ao44, co44, eo44⟩ := Kd.R_slice HO284.out
            (first | subst eo44 | (injection eo44 with f1_ f2_ f3_; have f4_ := f1_.symm; have f5_ := f3_.symm; clear f1_ f2_ f3_; subst f4_; subst f5_))
            refine hK.out _ _ ⟨(blk_cell BK265.out 0).trans rfl, (blk_cell BK265.out 1).trans rfl, (blk_cell BK274.out 0).trans rfl, (blk_cell BK274.out 1).trans rfl, HS4_, HS5_⟩ (fun hHeld => ?_)
            clear hK K
            refine norm_ (a' := ?_) ?_ ?_
            rotate_left
            ·
             show Act.put _ (some 50) _ = _
             simp only [Act.put, q1, q2, q3, i64_w, i32_w]
             rfl
            refine pure_ (i := 7) (N := some 43) (v := ?_) (a' := ?_) #[T, T, T, T, T, T, T, T, F, F, F] rfl rfl (any_of HT_.out (by kernel_rfl)) (fun _ _ _ h => h) (Or.inl ⟨by rfl, ?_⟩) ?_ ?_
            rotate_left
            ·
             intro w'
             go_simp
             with_reducible rfl
            rotate_left
            ·
             simp only [Act.put, q1, q2, q3, i64_w, i32_w]
             rfl
            refine pure_ (i := 8) (N := some 51) (v := ?_) (a' := ?_) #[T, T, T, T, T, T, T, T, T, F, F] rfl rfl (any_of HT_.out (by kernel_rfl)) (fun _ _ _ h => h) (Or.inl ⟨by rfl, ?_⟩) ?_ ?_
            rotate_left
            ·
             intro w'
             go_simp
             with_reducible rfl
            rotate_left
            ·
             simp only [Act.put, q1, q2, q3, i64_w, i32_w]
             rfl
            refine pure_ (i := 9) (N := some 52) (v := ?_) (a' := ?_) #[T, T, T, T, T, T, T, T, T, T, F] rfl rfl (any_of HT_.out (by kernel_rfl)) (fun _ _ _ h => h) (Or.inl ⟨by rfl, ?_⟩) ?_ ?_
            rotate_left
            ·
             intro w'
             go_simp
             with_reducible rfl
            rotate_left
            ·
             simp only [Act.put, q1, q2, q3, i64_w, i32_w]
             rfl
            refine last_ (i := 10) (N := none) #[T, T, T, T, T, T, T, T, T, T, T] rfl rfl (one_of HT_.out (by kernel_rfl)) (by decide) (fun K hK => ?_)
            have hs43 : w42.cell? ⟨gb265, 0, none⟩ = some (.int .i64 x266000_2) := (blk_cell BK265.out 0).trans rfl
            have hfs43 := blk_frozen BK265.out 0
            have hns43_0 := NB264_265.out
            have hns43_2 := NB274_265.out
            have hms43_0 := NB265_264.out
            have hms43_2 := NB265_274.out
            have hs45 : w42.cell? ⟨gb265, 1, none⟩ = some (.slice Ao39 x266001_2.length co39) := (blk_cell BK265.out 1).trans rfl
            have hfs45 := blk_frozen BK265.out 1
            have hns45_0 := NB264_265.out
            have hns45_2 := NB274_265.out
            have hms45_0 := NB265_264.out
            have hms45_2 := NB265_274.out
            refine skip_ (w1 := ?_) (by rfl) rfl ?_ ?_
            rotate_left
            ·
             go_simp
             rfl
            refine hK.out _ _ ?_
            clear hK K
            refine done_ (done_of HT_.out (by kernel_rfl)) ?_
            try go_wp2
            go_roundg k2
            case measure => have := HJ3.out; have := HK2.out; omega
            case rel => exact ⟨(wrap64 (x35_2 + 1)), (t281), (t282), (.slice Ao44 t282.length co44), (by first | rfl | (simp; done) | (simp [*]; done)), H', ⟨by have := HJ3.out; have := HK2.out; omega⟩, ⟨by (with_reducible repeat (first | apply Kd.R_alloc | apply Kd.R_drewN | apply Kd.R_drew)); exact Kd.R_mono (Kd.R_far (p := ⟨gb265, 1, none⟩) (Kd.R_far (p := ⟨gb265, 0, none⟩) (Kd.R_types HO_33.out BK265.out (by decide)) (fun _ hk => hk.2) (.int .i64 t281)) (fun _ hk => hk.2) (.slice Ao44 t282.length co44)) (fun _ hk => hk.1)⟩, ⟨by (with_reducible repeat (first | apply Kd.V_alloc | apply Kd.V_drewN | apply Kd.V_drew)); exact Kd.V_mono (Kd.V_far (p := ⟨gb265, 1, none⟩) (Kd.V_far (p := ⟨gb265, 0, none⟩) (Kd.V_mono HO_265001.out (fun k_ hk => (⟨hk, hk.1.2.2.2.2.1⟩ : _ ∧ k_ ≠ gb265))) (fun _ hk => hk.2) (.int .i64 t281)) (fun _ hk => hk.2) (.slice Ao44 t282.length co44)) (fun _ hk => ⟨hk.1.1.1, ⟨hk.1.1.2.1, ⟨hk.1.1.2.2.1, ⟨hk.1.1.2.2.2.1, ⟨hk.1.1.2.2.2.2.1, hk.1.1.2.2.2.2.2⟩⟩⟩⟩⟩)⟩, ⟨Kd.V_mono (Kd.R_V (ok := fun k_ => (((w.heap.size ≤ k_)) ∧ (some k_ ≠ (.slice (some ad278) t270.length co28 : Value).ownBlock ∧ (some k_ ≠ (.slice (some ad280) t267.length co14 : Value).ownBlock ∧ (k_ ≠ gb264 ∧ (k_ ≠ gb265 ∧ k_ ≠ gb274)))))) (by (with_reducible repeat (first | apply Kd.R_alloc | apply Kd.R_drewN | apply Kd.R_drew)); exact Kd.R_mono (Kd.R_far (p := ⟨gb265, 1, none⟩) (Kd.R_far (p := ⟨gb265, 0, none⟩) (Kd.R_types (Kd.R_types (Kd.R_types (Kd.R_types (Kd.R_apart' (Kd.R_apart' HO284.out (Kd.R_typed HO_33.out) (by decide)) (Kd.N_typed HO_275001.out) (by decide)) BK264.out (by decide)) BK265.out (by decide)) BK274.out (by decide)) BK265.out (by decide)) (fun _ hk => hk.2) (.int .i64 t281)) (fun _ hk => hk.2) (.slice Ao44 t282.length co44)) (fun _ hk => ⟨hk.1.1.1.1.1.1.1, ⟨hk.1.1.1.1.1.2, ⟨hk.1.1.1.1.2, ⟨hk.1.1.1.2, ⟨hk.1.1.2, hk.1.2⟩⟩⟩⟩⟩))) (fun k_ hk => by first | exact ⟨(.inr (hk.1)), hk.2⟩ | exact (.inr (hk)))⟩, ⟨by (with_reducible repeat (first | apply Kd.N_alloc | apply Kd.N_drewN | apply Kd.N_drew)); exact Kd.N_mono (Kd.N_far (p := ⟨gb265, 1, none⟩) (Kd.N_far (p := ⟨gb265, 0, none⟩) (Kd.N_mono HO_275001.out (fun k_ hk => (⟨hk, hk.1.2.2.2.1⟩ : _ ∧ k_ ≠ gb265))) (fun _ hk => hk.2) (.int .i64 t281)) (fun _ hk => hk.2) (.slice Ao44 t282.length co44)) (fun _ hk => ⟨hk.1.1.1, ⟨hk.1.1.2.1, ⟨hk.1.1.2.2.1, ⟨hk.1.1.2.2.2.1, hk.1.1.2.2.2.2⟩⟩⟩⟩)⟩, ⟨by (with_reducible repeat (first | refine blk_drewN ?_ _ | refine blk_drew ?_ | refine blk_alloc ?_ _)); refine blk_far ?_ NB264_265.out _; (with_reducible repeat (first | refine blk_drewN ?_ _ | refine blk_drew ?_ | refine blk_alloc ?_ _)); refine blk_far ?_ NB264_265.out _; (with_reducible repeat (first | refine blk_drewN ?_ _ | refine blk_drew ?_ | refine blk_alloc ?_ _)); exact BK264.out⟩, ⟨by (with_reducible repeat (first | refine blk_drewN ?_ _ | refine blk_drew ?_ | refine blk_alloc ?_ _)); refine blk_put (cs := #[.int .i64 t281, .slice Ao39 x266001_2.length co39]) ?_ 1 _ rfl; (with_reducible repeat (first | refine blk_drewN ?_ _ | refine blk_drew ?_ | refine blk_alloc ?_ _)); refine blk_put (cs := #[.int .i64 x266000_2, .slice Ao39 x266001_2.length co39]) ?_ 0 _ rfl; (with_reducible repeat (first | refine blk_drewN ?_ _ | refine blk_drew ?_ | refine blk_alloc ?_ _)); exact BK265.out⟩, ⟨by (with_reducible repeat (first | refine blk_drewN ?_ _ | refine blk_drew ?_ | refine blk_alloc ?_ _)); refine blk_far ?_ NB274_265.out _; (with_reducible repeat (first | refine blk_drewN ?_ _ | refine blk_drew ?_ | refine blk_alloc ?_ _)); refine blk_far ?_ NB274_265.out _; (with_reducible repeat (first | refine blk_drewN ?_ _ | refine blk_drew ?_ | refine blk_alloc ?_ _)); exact BK274.out⟩, ⟨pb HB⟩⟩
           ·
            rw [if_neg c34] at H
            exact absurd H (by simp)
          ·
           replace c33 := Bool.eq_false_iff.mpr c33
           subst c33
           have H1 : (reduce_Spans.l0 k2 t270 (t270.length : Int) (wrap64 (x35_2 + 1)) x266000_2 x266001_2 t266 t267) = some (r1, r2) := by rw [if_neg (show ¬ (false = true) by decide)] at H; exact H
           clear H
           have H := H1
           clear H1
           have H' := Aside0.mk H
           clear H
           have p278 : 0 ≤ (x35_2 : Int) := of_decide_eq_true (by first | (with_reducible assumption) | assumption)
           have q278 : x35_2 < (t270.length : Int) := of_decide_eq_true (by first | (with_reducible assumption) | assumption)
           obtain ⟨ad278, e278, hx278_0⟩ := Kd.at_int (Kd.R_reads' HO_33.out).2.2 x35_2 p278 q278
           cases e278
           replace p278 := eq_true p278
           replace q278 := eq_true q278
           have hnb46 := NB265_264.out
           have hnc46 := NB264_265.out
           have hnb47 := NB265_274.out
           have hnc47 := NB274_265.out
           have hcz48_0 : wr.cell? ⟨gb265, 0, none⟩ = some (.int .i64 x266000_2) := (blk_cell BK265.out 0).trans rfl
           have hcz48_1 : wr.cell? ⟨gb265, 1, none⟩ = some (u266001) := (blk_cell BK265.out 1).trans rfl
           have hfz48_0 := blk_frozen BK265.out 0
           have hfz48_1 := blk_frozen BK265.out 1
           obtain ⟨Ao49, co49, eo49⟩ := Kd.V_slice HO_266001.out
           subst eo49
           go_wp2_with (first | ((with_reducible refine gate_callee (f := 84) rfl ?_); refine goesL_ (some 42) rfl rfl Tryd.func84 (by kernel_rfl) rfl #[.agg #[.int .i64 x266000_2, .slice Ao49 x266001_2.length co49], .int .i64 (rd t270 x35_2)] rfl (by (try simp only [List.map_toArray, List.map_cons, List.map_nil]); first | done | rfl | (simp only [List.length_drop, List.length_take]; rfl)) ?_; (with_reducible refine (reduce_bit.calls x266000_2 _ _ x266001_2 (rd t270 x35_2) false _ ?side1 ?side2 A32.out).mono ?_); (case side1 => repeat (first | exact (Kd.V_reads' HO_266001.out).2.2 | (with_reducible refine Kd.C_alloc ?_ _) | (with_reducible refine Kd.C_drewN ?_ _) | (with_reducible refine Kd.C_drew ?_))); (case side2 => exact (Kd.V_reads' HO_266001.out).2.1); rintro e w50 ⟨rfl, hb⟩; refine ⟨_, rfl, ?_⟩; have n0_ := am (Kd.R_below (pr HO_33) hb); have n1_ := am (Kd.V_below (pv HO_265001) hb); have n2_ := am (Kd.V_below (pv HO_266001) hb); have n3_ := am (Kd.N_below (pn HO_275001) hb); have n4_ := bb BK264 hb; have n5_ := bb BK265 hb; have n6_ := bb BK274 hb; have n7_ := am (below_step (pb HB) hb); clear HO_33 HO_265001 HO_266001 HO_275001 BK264 BK265 BK274 HB; have HO_33 := n0_; have HO_265001 := n1_; have HO_266001 := n2_; have HO_275001 := n3_; have BK264 := n4_; have BK265 := n5_; have BK274 := n6_; have HB := n7_; clear n0_ n1_ n2_ n3_ n4_ n5_ n6_ n7_; (try clear hb); (try clear hb2); (try clear hk); (try clear hi)))
           go_roundg k2
           case measure => have := HJ3.out; have := HK2.out; omega
           case rel => exact ⟨(wrap64 (x35_2 + 1)), (x266000_2), (x266001_2), (.slice Ao49 x266001_2.length co49), (by first | rfl | (simp; done) | (simp [*]; done)), H', ⟨by have := HJ3.out; have := HK2.out; omega⟩, ⟨by (with_reducible repeat (first | apply Kd.R_alloc | apply Kd.R_drewN | apply Kd.R_drew)); exact HO_33.out⟩, ⟨by (with_reducible repeat (first | apply Kd.V_alloc | apply Kd.V_drewN | apply Kd.V_drew)); exact HO_265001.out⟩, ⟨by (with_reducible repeat (first | apply Kd.V_alloc | apply Kd.V_drewN | apply Kd.V_drew)); exact HO_266001.out⟩, ⟨by (with_reducible repeat (first | apply Kd.N_alloc | apply Kd.N_drewN | apply Kd.N_drew)); exact HO_275001.out⟩, ⟨by (with_reducible repeat (first | refine blk_drewN ?_ _ | refine blk_drew ?_ | refine blk_alloc ?_ _)); exact BK264.out⟩, ⟨by (with_reducible repeat (first | refine blk_drewN ?_ _ | refine blk_drew ?_ | refine blk_alloc ?_ _)); exact BK265.out⟩, ⟨by (with_reducible repeat (first | refine blk_drewN ?_ _ | refine blk_drew ?_ | refine blk_alloc ?_ _)); exact BK274.out⟩, ⟨pb HB⟩⟩
         ·
          rw [if_neg c31] at H
          exact absurd H (by simp)
        ·
         rw [if_neg c30] at H
         exact absurd H (by simp)
       ·
        rw [if_neg c29] at H
        have c29b0 : decide (x35_2 < (t270.length : Int)) = false := decide_eq_false c29
        clear c29
        replace H := Option.bind_eq_some_iff.mp H
        obtain ⟨⟨t276, t277⟩, A510, H⟩ := H
        replace H : (some ((t276 == 0), 0)) = some (r1, r2) := H
        have A51 := Aside0.mk A510
        clear A510
        simp only [Option.some.injEq, Prod.mk.injEq] at H
        obtain ⟨rfl, rfl⟩ := H
        have hnb52 := NB265_264.out
        have hnc52 := NB264_265.out
        have hnb53 := NB265_274.out
        have hnc53 := NB274_265.out
        have hcz54_0 : wr.cell? ⟨gb265, 0, none⟩ = some (.int .i64 x266000_2) := (blk_cell BK265.out 0).trans rfl
        have hcz54_1 : wr.cell? ⟨gb265, 1, none⟩ = some (u266001) := (blk_cell BK265.out 1).trans rfl
        have hfz54_0 := blk_frozen BK265.out 0
        have hfz54_1 := blk_frozen BK265.out 1
        obtain ⟨Ao55, co55, eo55⟩ := Kd.V_slice HO_266001.out
        subst eo55
        go_wp2_with (first | ((with_reducible refine gate_callee (f := 21) rfl ?_); refine goesL_ (some 56) rfl rfl Tryd.func21 (by kernel_rfl) rfl #[.agg #[.int .i64 x266000_2, .slice Ao55 x266001_2.length co55]] rfl (by (try simp only [List.map_toArray, List.map_cons, List.map_nil]); first | done | rfl | (simp only [List.length_drop, List.length_take]; rfl)) ?_; (with_reducible refine (bitrow_Count.calls k2 x266000_2 _ _ x266001_2 t276 t277 _ ?side1 ?side2 A51.out).mono ?_); (case side1 => repeat (first | exact (Kd.V_reads' HO_266001.out).2.2 | (with_reducible refine Kd.C_alloc ?_ _) | (with_reducible refine Kd.C_drewN ?_ _) | (with_reducible refine Kd.C_drew ?_))); (case side2 => exact (Kd.V_reads' HO_266001.out).2.1); rintro e w56 ⟨rfl, hb⟩; refine ⟨_, rfl, ?_⟩; have n0_ := am (Kd.R_below (pr HO_33) hb); have n1_ := am (Kd.V_below (pv HO_265001) hb); have n2_ := am (Kd.V_below (pv HO_266001) hb); have n3_ := am (Kd.N_below (pn HO_275001) hb); have n4_ := bb BK264 hb; have n5_ := bb BK265 hb; have n6_ := bb BK274 hb; have n7_ := am (below_step (pb HB) hb); clear HO_33 HO_265001 HO_266001 HO_275001 BK264 BK265 BK274 HB; have HO_33 := n0_; have HO_265001 := n1_; have HO_266001 := n2_; have HO_275001 := n3_; have BK264 := n4_; have BK265 := n5_; have BK274 := n6_; have HB := n7_; clear n0_ n1_ n2_ n3_ n4_ n5_ n6_ n7_; (try clear hb); (try clear hb2); (try clear hk); (try clear hi)))
        go_ret2
        exact ⟨by first | rfl | (simp [errW_none, errW_some] <;> rfl) | (simp [*, errW_none, errW_some] <;> rfl), pb HB⟩
    ·
     rw [if_neg c22] at H
     have c22b0 : (a1_0 == a0_0) = false := beq_eq_false_iff_ne.mpr c22
     have c22b1 : (a1_0 != a0_0) = true := bne_iff_ne.mpr c22
     simp only [Option.some.injEq, Prod.mk.injEq] at H
     obtain ⟨rfl, rfl⟩ := H
     have hnb57 := NB265_264.out
     have hnc57 := NB264_265.out
     have hnb58 := NB265_274.out
     have hnc58 := NB274_265.out
     have hcz59_0 : wc.cell? ⟨gb265, 0, none⟩ = some (.int .i64 a1_0) := (blk_cell BK265.out 0).trans rfl
     have hcz59_1 : wc.cell? ⟨gb265, 1, none⟩ = some (.slice A1_1 l1_1.length c1_1) := (blk_cell BK265.out 1).trans rfl
     have hfz59_0 := blk_frozen BK265.out 0
     have hfz59_1 := blk_frozen BK265.out 1
     have hnb60 := NB264_274.out
     have hnc60 := NB274_264.out
     have hcz61_0 : wc.cell? ⟨gb264, 0, none⟩ = some (.int .i64 a0_0) := (blk_cell BK264.out 0).trans rfl
     have hcz61_1 : wc.cell? ⟨gb264, 1, none⟩ = some (.slice A0_1 l0_1.length c0_1) := (blk_cell BK264.out 1).trans rfl
     have hfz61_0 := blk_frozen BK264.out 0
     have hfz61_1 := blk_frozen BK264.out 1
     go_wp2
     go_ret2
     exact ⟨by first | rfl | (simp [errW_none, errW_some] <;> rfl) | (simp [*, errW_none, errW_some] <;> rfl), pb HB⟩

end Go.Proofs.YtfcedhejbnoinaaDoor.PK
