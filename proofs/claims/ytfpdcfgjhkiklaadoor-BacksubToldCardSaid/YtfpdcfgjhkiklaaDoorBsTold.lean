/- Equations that blocks make: the law. -/
import Derived.Test.YtfpdcfgjhkiklaaDoorPmTab
import Derived.KernelRfl
import Derived.Test.YtfpdcfgjhkiklaaDoorProg
import Derived.Test.YtfpdcfgjhkiklaaDoorBs
set_option autoImplicit false
set_option maxRecDepth 100000
set_option maxHeartbeats 4000000
set_option linter.unusedVariables false
set_option linter.unusedSimpArgs false
namespace Go.Proofs.YtfpdcfgjhkiklaaDoor
open Go Go.PM Go.Proofs Go.Shelf Go.PM.Row Go.PM.Bits Go.PM.Bit Go.PM.Blk Go.PM.Lin
def mode21 : FuncId → Nat := fun f => 0
/-! downpour/reduce.Rank -/
noncomputable def RankF_s1 {R : Type} (m : List (Int × List Int)) (z : Int) (c0 : Int → Int → Option R) : Option R :=
  grd (okM m && decide (m.length ≤ 1000)) <|
  c0 (((echP z m).length : Nat) : Int) (if mrt z m = true then 0 else 1)
theorem RankF_s1_eq (fuel : Nat)  (m : List (Int × List Int)) (z : Int) : callN Tryd.prog mode21 T_Fits fuel 24 [.agg [vI z, vR m]] [] = RankF_s1 m z (fun a1 a2 => some (.tup [vI a1, vI a2], [])) := by kernel_rfl
noncomputable def RankF {R : Type} (fuel : Nat) (z : Int) (m : List (Int × List Int)) (r0 : Int → Int → Option R) : Option R :=
  (RankF_s1 m z (fun a1 a2 => r0 a1 a2))
theorem RankF_eq (fuel : Nat) (z : Int) (m : List (Int × List Int)) : callN Tryd.prog mode21 T_Fits fuel 24 [.agg [.s (.int .i64 z), .lt (.pair (.int .i64) (.sl (.int .u64))) m]] [] = RankF fuel z m (fun z0 z1 => some (.tup [.s (.int .i64 z0), .s (.int .i64 z1)], [])) := by
  unfold RankF
  exact (RankF_s1_eq fuel  m z)
theorem Rank_fact (z : Int) (m : List (Int × List Int)) (hg : (okM m && decide (m.length ≤ 1000)) = true) : Fact Tryd.prog gTab 24 [.agg [.s (.int .i64 z), .lt (.pair (.int .i64) (.sl (.int .u64))) m]] [] (.tup [.s (.int .i64 ((((echP z m).length : Nat)) : Int)), .s (.int .i64 (if mrt z m = true then 0 else 1))], []) := by
  refine callN_fact hN hM T_Fits_ok (n := 0) (mode := mode21) ?_
  rw [RankF_eq]
  unfold RankF RankF_s1
  rw [grd_of hg]
noncomputable def Rank_ent : List V → List Blk → Option (Bool × Out)
  | [.agg [.s (.int .i64 z), w0]], [] => (asSl (.pair (.int .i64) (.sl (.int .u64))) w0).bind fun m => some ((okM m && decide (m.length ≤ 1000)), (.tup [.s (.int .i64 ((((echP z m).length : Nat)) : Int)), .s (.int .i64 (if mrt z m = true then 0 else 1))], []))
  | _, _ => none
theorem Rank_ok : ∀ args bs out, Rank_ent args bs = some (true, out) → Fact Tryd.prog gTab 24 args bs out := by
  intro args bs out h
  unfold Rank_ent at h
  split at h
  · rename_i z w0
    obtain ⟨m, h_m, h⟩ := Option.bind_eq_some_iff.1 h
    simp only [Option.some.injEq, Prod.mk.injEq] at h
    obtain ⟨hg, rfl⟩ := h
    exact (Rank_fact z m hg).args (fun _ _ _ => fun _ h => RVs_two (fun _ h => RV_agg_two (fun _ h => RVs_two (fun _ h => h) (fun _ h => RVs_two (fun _ h => RV_sl (s := (.pair (.int .i64) (.sl (.int .u64)))) h_m h) (fun _ h => h) h) h) h) (fun _ h => h) h)
  · cases h
noncomputable def T_Rank : Tbl := Tbl.cons 24 Rank_ent T_Fits
theorem T_Rank_ok : CallOk Tryd.prog gTab T_Rank := cons_ok T_Fits_ok Rank_ok
def mode22 : FuncId → Nat := fun f => 0
/-! The laws of layer 5: what they cut. -/
noncomputable def fewRI (m : List Rw) : List Rw := (m.take 66).map fun r => (r.1, r.2.take 3)
noncomputable def fewRS : List Rw → List Rw := Classical.choose (⟨fewRI, rfl⟩ : ∃ f, f = fewRI)
theorem fewRS_eq : fewRS = fewRI := Classical.choose_spec (⟨fewRI, rfl⟩ : ∃ f, f = fewRI)
noncomputable def fewBI (l : List ByteArray) : List ByteArray := (l.take 66).map fun s => s.extract 0 (min s.size 66)
noncomputable def fewBS : List ByteArray → List ByteArray := Classical.choose (⟨fewBI, rfl⟩ : ∃ f, f = fewBI)
theorem fewBS_eq : fewBS = fewBI := Classical.choose_spec (⟨fewBI, rfl⟩ : ∃ f, f = fewBI)
theorem fewR_ok {m : List Rw} (h : okM m = true) : okM (fewRS m) = true ∧ (fewRS m).length ≤ 66 := by
  rw [fewRS_eq]; unfold fewRI
  refine ⟨okM_iff.2 fun r hr => ?_, by rw [List.length_map, List.length_take]; omega⟩
  obtain ⟨x, hx, rfl⟩ := List.mem_map.1 hr
  exact okW_iff.2 (ok_take (okW_iff.1 (okM_iff.1 h _ (List.mem_of_mem_take hx))) 3)
/-! downpour/downpourlaw05.few -/
noncomputable abbrev qe0 : Nat × Option Blk := (1, some ⟨24, .agg [vI 0, vN], true⟩)
noncomputable abbrev qe1 (fuel : Nat) : Ctx Out := (fnX Tryd.prog mode22 T_Rank fuel 60 0)
noncomputable abbrev qe2 : Code := (sub (bodyOf Tryd.prog 28) [1, 1, 1, 1, 1, 0, 1, 0, 0])
noncomputable abbrev qe3 : Nat × V := (2, .ptr 0 2 0 0)
noncomputable abbrev qe4 : Nat × Option Blk := (2, some ⟨24, .agg [vI 0, vN], true⟩)
noncomputable abbrev qe5 (z : Int) : Nat × Option Blk := (0, some ⟨24, .agg [vI z, vN], true⟩)
noncomputable abbrev qe6 (z : Int) (m : List (Int × List Int)) : Nat × Option Blk := (0, some ⟨24, .agg [vI z, vR m], true⟩)
noncomputable abbrev qe7 : Nat × V := (4, .ptr 1 2 0 0)
noncomputable abbrev qe8 : Code := (bodyOf Tryd.prog 28)
noncomputable abbrev qe9 : List Nat := [2, 4, 5, 9, 43, 44, 45]
noncomputable abbrev qe10 : Nat := 864691128455135796
noncomputable abbrev qe11 : Nat × V := (4, .ptr 2 2 0 0)
noncomputable abbrev qe12 : Code := (sub qe8 [1, 1, 0, 1, 0, 0])
noncomputable abbrev qe13 : List Nat := [1, 1, 1, 1, 1, 0, 1, 0]
noncomputable abbrev qe14 : List Nat := [1, 2, 4, 5, 6, 18, 19, 20]
noncomputable def few05F_s3 {R : Type} (w0 w3 : Int) (w2 w1 : List (Int × List Int)) (w4 : Nat) (l : List ByteArray) (z : Int) (m : List (Int × List Int)) (c0 : Nat → Int → (List (Int × List Int)) → Option R) (c1 : Nat → (List (Int × List Int)) → Option R) : Option R :=
  br (decide (w0 < w3))
    (bnd (ix w2 w0) fun e0 =>
    bnd (upTo (min ((e0.2.length : Nat) : Int) 3) e0.2.length) fun j0 =>
    grd (Nat.beq w1.length w4) <|
    grd (okN (w4 + 1) 32) <|
    c0 ((w1 ++ [(e0.1, ((e0.2.drop 0).take (j0 - 0)))]).length) (IntKind.i64.wrap (w0 + 1)) (w1 ++ [(e0.1, ((e0.2.drop 0).take (j0 - 0)))]))
    (c1 w4 w1)
theorem few05F_s3_eq (fuel k : Nat) (K : Ex → St → Option Out) (w0 w3 : Int) (w2 w1 : List (Int × List Int)) (w4 : Nat) (l : List ByteArray) (z : Int) (m : List (Int × List Int)) : lpN qe12 (qe1 fuel) 1152921367167896182 qe14 (k + 1) ⟨[(1, .ls l), qe3, qe7, (5, vN), (6, .sl 2 2 0 w4), (18, vR w2), (19, vI w3), (20, vI w0)], [(qe6 z m), qe0, (2, some ⟨44, vR w1, true⟩)], 3, none⟩ K = few05F_s3 w0 w3 w2 w1 w4 l z m (fun a0 a1 a2 => lpN qe12 (qe1 fuel) 1152921367167896182 qe14 k ⟨[(1, .ls l), qe3, qe7, (5, vN), (6, .sl 2 2 0 a0), (18, vR w2), (19, vI w3), (20, vI a1)], [(qe6 z m), qe0, (2, some ⟨44, vR a2, true⟩)], 3, none⟩ K) (fun a3 a4 => K (.exit 0) ⟨[(1, .ls l), qe3, qe7, (5, vN), (6, .sl 2 2 0 a3)], [(qe6 z m), qe0, (2, some ⟨44, vR a4, true⟩)], 3, none⟩) := by kernel_rfl
noncomputable def few05F_l2 {R : Type} (fuel : Nat) (l : List ByteArray) (w2 : List (Int × List Int)) (w3 z : Int) (m : List (Int × List Int)) (k0 : Nat → (List (Int × List Int)) → Option R) : Nat → Nat → Int → (List (Int × List Int)) → Option R
  | 0, _, _, _ => none
  | k + 1, w0, w1, w4 =>
    (few05F_s3 w1 w3 w2 w4 w0 l z m (fun a0 a1 a2 => ( few05F_l2 fuel l w2 w3 z m k0 k a0 a1 a2 )) (fun a3 a4 => k0 a3 a4))
theorem few05F_l2_eq (fuel : Nat) (l : List ByteArray) (w2 : List (Int × List Int)) (w3 z : Int) (m : List (Int × List Int)) (K : Ex → St → Option Out) : ∀ (k w0 : Nat) (w1 : Int) (w4 : List (Int × List Int)), lpN qe12 (qe1 fuel) 1152921367167896182 qe14 k ⟨[(1, .ls l), qe3, qe7, (5, vN), (6, .sl 2 2 0 w0), (18, vR w2), (19, vI w3), (20, vI w1)], [(qe6 z m), qe0, (2, some ⟨44, vR w4, true⟩)], 3, none⟩ K = few05F_l2 fuel l w2 w3 z m (fun y0 y1 => K (.exit 0) ⟨[(1, .ls l), qe3, qe7, (5, vN), (6, .sl 2 2 0 y0)], [(qe6 z m), qe0, (2, some ⟨44, vR y1, true⟩)], 3, none⟩) k w0 w1 w4
  | 0, _, _, _ => rfl
  | k + 1, w0, w1, w4 => by
    unfold few05F_l2
    exact (few05F_s3_eq fuel k K w1 w3 w2 w4 w0 l z m).trans (congr (congr (Eq.refl (few05F_s3 (R := Out) w1 w3 w2 w4 w0 l z m)) (funext fun a0 => funext fun a1 => funext fun a2 => few05F_l2_eq fuel l w2 w3 z m K k a0 a1 a2)) (rfl))
noncomputable def few05F_s2 {R : Type} (w3 : Int) (w2 : List (Int × List Int)) (l : List ByteArray) (z : Int) (m : List (Int × List Int)) (c0 : Nat → Int → (List (Int × List Int)) → Option R) (c1 : Option R) : Option R :=
  br (decide (0 < w3))
    (bnd (ix w2 0) fun e0 =>
    bnd (upTo (min ((e0.2.length : Nat) : Int) 3) e0.2.length) fun j0 =>
    c0 1 1 ([(e0.1, ((e0.2.drop 0).take (j0 - 0)))]))
    (c1)
theorem few05F_s2_eq (fuel k : Nat) (K : Ex → St → Option Out) (w3 : Int) (w2 : List (Int × List Int)) (l : List ByteArray) (z : Int) (m : List (Int × List Int)) : lpN qe12 (qe1 fuel) 1152921367167896182 qe14 (k + 1) ⟨[(1, .ls l), qe3, qe7, (5, vN), (6, vN), (18, vR w2), (19, vI w3), (20, vI 0)], [(qe6 z m), qe0], 2, none⟩ K = few05F_s2 w3 w2 l z m (fun a0 a1 a2 => lpN qe12 (qe1 fuel) 1152921367167896182 qe14 k ⟨[(1, .ls l), qe3, qe7, (5, vN), (6, .sl 2 2 0 a0), (18, vR w2), (19, vI w3), (20, vI a1)], [(qe6 z m), qe0, (2, some ⟨44, vR a2, true⟩)], 3, none⟩ K) (K (.exit 0) ⟨[(1, .ls l), qe3, qe7, (5, vN), (6, vN)], [(qe6 z m), qe0], 2, none⟩) := by kernel_rfl
noncomputable def few05F_l1 {R : Type} (fuel : Nat) (l : List ByteArray) (z : Int) (m : List (Int × List Int)) (k0 : Nat → (List (Int × List Int)) → Option R) (k1 : Option R) : Nat → (List (Int × List Int)) → Int → Option R
  | 0, _, _ => none
  | k + 1, w2, w3 =>
    (few05F_s2 w3 w2 l z m (fun a0 a1 a2 => (few05F_l2 fuel l w2 w3 z m (fun x0 x1 => k0 x0 x1) k a0 a1 a2)) (k1))
theorem few05F_l1_eq (fuel : Nat) (l : List ByteArray) (z : Int) (m : List (Int × List Int)) (K : Ex → St → Option Out) : ∀ (k : Nat) (w2 : List (Int × List Int)) (w3 : Int), lpN qe12 (qe1 fuel) 1152921367167896182 qe14 k ⟨[(1, .ls l), qe3, qe7, (5, vN), (6, vN), (18, vR w2), (19, vI w3), (20, vI 0)], [(qe6 z m), qe0], 2, none⟩ K = few05F_l1 fuel l z m (fun y0 y1 => K (.exit 0) ⟨[(1, .ls l), qe3, qe7, (5, vN), (6, .sl 2 2 0 y0)], [(qe6 z m), qe0, (2, some ⟨44, vR y1, true⟩)], 3, none⟩) (K (.exit 0) ⟨[(1, .ls l), qe3, qe7, (5, vN), (6, vN)], [(qe6 z m), qe0], 2, none⟩) k w2 w3
  | 0, _, _ => rfl
  | k + 1, w2, w3 => by
    unfold few05F_l1
    exact (few05F_s2_eq fuel k K w3 w2 l z m).trans (congr (congr (Eq.refl (few05F_s2 (R := Out) w3 w2 l z m)) (funext fun a0 => funext fun a1 => funext fun a2 => few05F_l2_eq fuel l w2 w3 z m K k a0 a1 a2)) (rfl))
noncomputable def few05F_s6 {R : Type} (w0 w1 : Int) (w2 w3 : List ByteArray) (w4 : Nat) (z : Int) (x0 : Nat) (x1 : List (Int × List Int)) (c0 : Nat → Int → List ByteArray → Option R) (c1 : Nat → List ByteArray → Option R) : Option R :=
  br (decide (w0 < w1))
    (bnd (ix w2 w0) fun e0 =>
    bnd (upTo (min ((e0.size : Nat) : Int) 66) e0.size) fun j0 =>
    grd (Nat.beq w3.length w4) <|
    grd (okN (w4 + 1) 16) <|
    c0 ((w3 ++ [(e0.extract 0 j0)]).length) (IntKind.i64.wrap (w0 + 1)) (w3 ++ [(e0.extract 0 j0)]))
    (c1 w4 w3)
theorem few05F_s6_eq (fuel k : Nat) (K : Ex → St → Option Out) (w0 w1 : Int) (w2 w3 : List ByteArray) (w4 : Nat) (z : Int) (x0 : Nat) (x1 : List (Int × List Int)) : lpN qe2 (qe1 fuel) qe10 qe9 (k + 1) ⟨[qe3, qe11, (5, vN), (9, .sl 3 1 0 w4), (43, .ls w2), (44, vI w1), (45, vI w0)], [(0, some ⟨24, .agg [vI z, .sl 1 2 0 x0], true⟩), (1, some ⟨44, vR x1, true⟩), qe4, (3, some ⟨9, .ls w3, true⟩)], 4, none⟩ K = few05F_s6 w0 w1 w2 w3 w4 z x0 x1 (fun a0 a1 a2 => lpN qe2 (qe1 fuel) qe10 qe9 k ⟨[qe3, qe11, (5, vN), (9, .sl 3 1 0 a0), (43, .ls w2), (44, vI w1), (45, vI a1)], [(0, some ⟨24, .agg [vI z, .sl 1 2 0 x0], true⟩), (1, some ⟨44, vR x1, true⟩), qe4, (3, some ⟨9, .ls a2, true⟩)], 4, none⟩ K) (fun a3 a4 => K (.exit 2) ⟨[qe3, qe11, (5, vN), (9, .sl 3 1 0 a3)], [(0, some ⟨24, .agg [vI z, .sl 1 2 0 x0], true⟩), (1, some ⟨44, vR x1, true⟩), qe4, (3, some ⟨9, .ls a4, true⟩)], 4, none⟩) := by kernel_rfl
noncomputable def few05F_l4 {R : Type} (fuel : Nat) (w0 : List ByteArray) (w1 z : Int) (x0 : Nat) (x1 : List (Int × List Int)) (k0 : Nat → List ByteArray → Option R) : Nat → Nat → Int → List ByteArray → Option R
  | 0, _, _, _ => none
  | k + 1, w2, w3, w4 =>
    (few05F_s6 w3 w1 w0 w4 w2 z x0 x1 (fun a0 a1 a2 => ( few05F_l4 fuel w0 w1 z x0 x1 k0 k a0 a1 a2 )) (fun a3 a4 => k0 a3 a4))
theorem few05F_l4_eq (fuel : Nat) (w0 : List ByteArray) (w1 z : Int) (x0 : Nat) (x1 : List (Int × List Int)) (K : Ex → St → Option Out) : ∀ (k w2 : Nat) (w3 : Int) (w4 : List ByteArray), lpN qe2 (qe1 fuel) qe10 qe9 k ⟨[qe3, qe11, (5, vN), (9, .sl 3 1 0 w2), (43, .ls w0), (44, vI w1), (45, vI w3)], [(0, some ⟨24, .agg [vI z, .sl 1 2 0 x0], true⟩), (1, some ⟨44, vR x1, true⟩), qe4, (3, some ⟨9, .ls w4, true⟩)], 4, none⟩ K = few05F_l4 fuel w0 w1 z x0 x1 (fun y0 y1 => K (.exit 2) ⟨[qe3, qe11, (5, vN), (9, .sl 3 1 0 y0)], [(0, some ⟨24, .agg [vI z, .sl 1 2 0 x0], true⟩), (1, some ⟨44, vR x1, true⟩), qe4, (3, some ⟨9, .ls y1, true⟩)], 4, none⟩) k w2 w3 w4
  | 0, _, _, _ => rfl
  | k + 1, w2, w3, w4 => by
    unfold few05F_l4
    exact (few05F_s6_eq fuel k K w3 w1 w0 w4 w2 z x0 x1).trans (congr (congr (Eq.refl (few05F_s6 (R := Out) w3 w1 w0 w4 w2 z x0 x1)) (funext fun a0 => funext fun a1 => funext fun a2 => few05F_l4_eq fuel w0 w1 z x0 x1 K k a0 a1 a2)) (rfl))
noncomputable def few05F_s5 {R : Type} (w0 : Int) (w1 : List ByteArray) (z : Int) (x0 : Nat) (x1 : List (Int × List Int)) (c0 : Nat → Int → List ByteArray → Option R) (c1 : Option R) : Option R :=
  br (decide (0 < w0))
    (bnd (ix w1 0) fun e0 =>
    bnd (upTo (min ((e0.size : Nat) : Int) 66) e0.size) fun j0 =>
    c0 1 1 ([(e0.extract 0 j0)]))
    (c1)
theorem few05F_s5_eq (fuel k : Nat) (K : Ex → St → Option Out) (w0 : Int) (w1 : List ByteArray) (z : Int) (x0 : Nat) (x1 : List (Int × List Int)) : lpN qe2 (qe1 fuel) qe10 qe9 (k + 1) ⟨[qe3, qe11, (5, vN), (9, vN), (43, .ls w1), (44, vI w0), (45, vI 0)], [(0, some ⟨24, .agg [vI z, .sl 1 2 0 x0], true⟩), (1, some ⟨44, vR x1, true⟩), qe4], 3, none⟩ K = few05F_s5 w0 w1 z x0 x1 (fun a0 a1 a2 => lpN qe2 (qe1 fuel) qe10 qe9 k ⟨[qe3, qe11, (5, vN), (9, .sl 3 1 0 a0), (43, .ls w1), (44, vI w0), (45, vI a1)], [(0, some ⟨24, .agg [vI z, .sl 1 2 0 x0], true⟩), (1, some ⟨44, vR x1, true⟩), qe4, (3, some ⟨9, .ls a2, true⟩)], 4, none⟩ K) (K (.exit 2) ⟨[qe3, qe11, (5, vN), (9, vN)], [(0, some ⟨24, .agg [vI z, .sl 1 2 0 x0], true⟩), (1, some ⟨44, vR x1, true⟩), qe4], 3, none⟩) := by kernel_rfl
noncomputable def few05F_l3 {R : Type} (fuel : Nat) (z : Int) (x0 : Nat) (x1 : List (Int × List Int)) (k0 : Nat → List ByteArray → Option R) (k1 : Option R) : Nat → List ByteArray → Int → Option R
  | 0, _, _ => none
  | k + 1, w0, w1 =>
    (few05F_s5 w1 w0 z x0 x1 (fun a0 a1 a2 => (few05F_l4 fuel w0 w1 z x0 x1 (fun x2 x3 => k0 x2 x3) k a0 a1 a2)) (k1))
theorem few05F_l3_eq (fuel : Nat) (z : Int) (x0 : Nat) (x1 : List (Int × List Int)) (K : Ex → St → Option Out) : ∀ (k : Nat) (w0 : List ByteArray) (w1 : Int), lpN qe2 (qe1 fuel) qe10 qe9 k ⟨[qe3, qe11, (5, vN), (9, vN), (43, .ls w0), (44, vI w1), (45, vI 0)], [(0, some ⟨24, .agg [vI z, .sl 1 2 0 x0], true⟩), (1, some ⟨44, vR x1, true⟩), qe4], 3, none⟩ K = few05F_l3 fuel z x0 x1 (fun y0 y1 => K (.exit 2) ⟨[qe3, qe11, (5, vN), (9, .sl 3 1 0 y0)], [(0, some ⟨24, .agg [vI z, .sl 1 2 0 x0], true⟩), (1, some ⟨44, vR x1, true⟩), qe4, (3, some ⟨9, .ls y1, true⟩)], 4, none⟩) (K (.exit 2) ⟨[qe3, qe11, (5, vN), (9, vN)], [(0, some ⟨24, .agg [vI z, .sl 1 2 0 x0], true⟩), (1, some ⟨44, vR x1, true⟩), qe4], 3, none⟩) k w0 w1
  | 0, _, _ => rfl
  | k + 1, w0, w1 => by
    unfold few05F_l3
    exact (few05F_s5_eq fuel k K w1 w0 z x0 x1).trans (congr (congr (Eq.refl (few05F_s5 (R := Out) w1 w0 z x0 x1)) (funext fun a0 => funext fun a1 => funext fun a2 => few05F_l4_eq fuel w0 w1 z x0 x1 K k a0 a1 a2)) (rfl))
noncomputable def few05F_s7 {R : Type} (z : Int) (x0 : List (Int × List Int)) (x1 : Nat) (x2 : List ByteArray) (x3 : Nat) (c0 : Int → (List (Int × List Int)) → List ByteArray → Option R) : Option R :=
  c0 z ((x0.drop 0).take x1) ((x2.drop 0).take x3)
theorem few05F_s7_eq (fuel : Nat)  (z : Int) (x0 : List (Int × List Int)) (x1 : Nat) (x2 : List ByteArray) (x3 : Nat) : (kont (qe1 fuel) qe8 qe13 48 (endK Tryd.prog 0 0 28)) (.exit 2) ⟨[qe3, qe11, (5, vN), (9, .sl 3 1 0 x3)], [(0, some ⟨24, .agg [vI z, .sl 1 2 0 x1], true⟩), (1, some ⟨44, vR x0, true⟩), qe4, (3, some ⟨9, .ls x2, true⟩)], 4, none⟩ = few05F_s7 z x0 x1 x2 x3 (fun a0 a1 a2 => some (.tup [.agg [vI a0, vR a1], .ls a2], [])) := by kernel_rfl
noncomputable def few05F_s8 {R : Type} (z : Int) (x0 : List (Int × List Int)) (x1 : Nat) (c0 : Int → (List (Int × List Int)) → Option R) : Option R :=
  c0 z ((x0.drop 0).take x1)
theorem few05F_s8_eq (fuel : Nat)  (z : Int) (x0 : List (Int × List Int)) (x1 : Nat) : (kont (qe1 fuel) qe8 qe13 48 (endK Tryd.prog 0 0 28)) (.exit 2) ⟨[qe3, qe11, (5, vN), (9, vN)], [(0, some ⟨24, .agg [vI z, .sl 1 2 0 x1], true⟩), (1, some ⟨44, vR x0, true⟩), qe4], 3, none⟩ = few05F_s8 z x0 x1 (fun a0 a1 => some (.tup [.agg [vI a0, vR a1], vN], [])) := by kernel_rfl
noncomputable def few05F_s4 {R : Type} (l : List ByteArray) (x0 : Nat) (z : Int) (m x1 : List (Int × List Int)) (c0 : List ByteArray → Int → Option R) : Option R :=
  bnd (upTo (min ((l.length : Nat) : Int) 66) l.length) fun j0 =>
  c0 ((l.drop 0).take (j0 - 0)) ((((l.drop 0).take (j0 - 0)).length : Nat) : Int)
theorem few05F_s4_eq (fuel : Nat)  (l : List ByteArray) (x0 : Nat) (z : Int) (m x1 : List (Int × List Int)) : (kont (qe1 fuel) qe8 [1, 1, 0, 1, 0] 48 (endK Tryd.prog 0 0 28)) (.exit 0) ⟨[(1, .ls l), qe3, qe7, (5, vN), (6, .sl 2 2 0 x0)], [(qe6 z m), qe0, (2, some ⟨44, vR x1, true⟩)], 3, none⟩ = few05F_s4 l x0 z m x1 (fun a0 a1 => lpN qe2 (qe1 fuel) qe10 qe9 fuel ⟨[qe3, qe11, (5, vN), (9, vN), (43, .ls a0), (44, vI a1), (45, vI 0)], [(0, some ⟨24, .agg [vI z, .sl 1 2 0 x0], true⟩), (1, some ⟨44, vR x1, true⟩), qe4], 3, none⟩ (kont (qe1 fuel) qe8 qe13 48 (endK Tryd.prog 0 0 28))) := by kernel_rfl
noncomputable def few05F_s11 {R : Type} (w0 w1 : Int) (w2 w3 : List ByteArray) (w4 : Nat) (z : Int) (c0 : Nat → Int → List ByteArray → Option R) (c1 : Nat → List ByteArray → Option R) : Option R :=
  br (decide (w0 < w1))
    (bnd (ix w2 w0) fun e0 =>
    bnd (upTo (min ((e0.size : Nat) : Int) 66) e0.size) fun j0 =>
    grd (Nat.beq w3.length w4) <|
    grd (okN (w4 + 1) 16) <|
    c0 ((w3 ++ [(e0.extract 0 j0)]).length) (IntKind.i64.wrap (w0 + 1)) (w3 ++ [(e0.extract 0 j0)]))
    (c1 w4 w3)
theorem few05F_s11_eq (fuel k : Nat) (K : Ex → St → Option Out) (w0 w1 : Int) (w2 w3 : List ByteArray) (w4 : Nat) (z : Int) : lpN qe2 (qe1 fuel) qe10 qe9 (k + 1) ⟨[qe3, qe7, (5, vN), (9, .sl 2 1 0 w4), (43, .ls w2), (44, vI w1), (45, vI w0)], [(qe5 z), qe0, (2, some ⟨9, .ls w3, true⟩)], 3, none⟩ K = few05F_s11 w0 w1 w2 w3 w4 z (fun a0 a1 a2 => lpN qe2 (qe1 fuel) qe10 qe9 k ⟨[qe3, qe7, (5, vN), (9, .sl 2 1 0 a0), (43, .ls w2), (44, vI w1), (45, vI a1)], [(qe5 z), qe0, (2, some ⟨9, .ls a2, true⟩)], 3, none⟩ K) (fun a3 a4 => K (.exit 2) ⟨[qe3, qe7, (5, vN), (9, .sl 2 1 0 a3)], [(qe5 z), qe0, (2, some ⟨9, .ls a4, true⟩)], 3, none⟩) := by kernel_rfl
noncomputable def few05F_l6 {R : Type} (fuel : Nat) (w0 : List ByteArray) (w1 z : Int) (k0 : Nat → List ByteArray → Option R) : Nat → Nat → Int → List ByteArray → Option R
  | 0, _, _, _ => none
  | k + 1, w2, w3, w4 =>
    (few05F_s11 w3 w1 w0 w4 w2 z (fun a0 a1 a2 => ( few05F_l6 fuel w0 w1 z k0 k a0 a1 a2 )) (fun a3 a4 => k0 a3 a4))
theorem few05F_l6_eq (fuel : Nat) (w0 : List ByteArray) (w1 z : Int) (K : Ex → St → Option Out) : ∀ (k w2 : Nat) (w3 : Int) (w4 : List ByteArray), lpN qe2 (qe1 fuel) qe10 qe9 k ⟨[qe3, qe7, (5, vN), (9, .sl 2 1 0 w2), (43, .ls w0), (44, vI w1), (45, vI w3)], [(qe5 z), qe0, (2, some ⟨9, .ls w4, true⟩)], 3, none⟩ K = few05F_l6 fuel w0 w1 z (fun y0 y1 => K (.exit 2) ⟨[qe3, qe7, (5, vN), (9, .sl 2 1 0 y0)], [(qe5 z), qe0, (2, some ⟨9, .ls y1, true⟩)], 3, none⟩) k w2 w3 w4
  | 0, _, _, _ => rfl
  | k + 1, w2, w3, w4 => by
    unfold few05F_l6
    exact (few05F_s11_eq fuel k K w3 w1 w0 w4 w2 z).trans (congr (congr (Eq.refl (few05F_s11 (R := Out) w3 w1 w0 w4 w2 z)) (funext fun a0 => funext fun a1 => funext fun a2 => few05F_l6_eq fuel w0 w1 z K k a0 a1 a2)) (rfl))
noncomputable def few05F_s10 {R : Type} (w0 : Int) (w1 : List ByteArray) (z : Int) (c0 : Nat → Int → List ByteArray → Option R) (c1 : Option R) : Option R :=
  br (decide (0 < w0))
    (bnd (ix w1 0) fun e0 =>
    bnd (upTo (min ((e0.size : Nat) : Int) 66) e0.size) fun j0 =>
    c0 1 1 ([(e0.extract 0 j0)]))
    (c1)
theorem few05F_s10_eq (fuel k : Nat) (K : Ex → St → Option Out) (w0 : Int) (w1 : List ByteArray) (z : Int) : lpN qe2 (qe1 fuel) qe10 qe9 (k + 1) ⟨[qe3, qe7, (5, vN), (9, vN), (43, .ls w1), (44, vI w0), (45, vI 0)], [(qe5 z), qe0], 2, none⟩ K = few05F_s10 w0 w1 z (fun a0 a1 a2 => lpN qe2 (qe1 fuel) qe10 qe9 k ⟨[qe3, qe7, (5, vN), (9, .sl 2 1 0 a0), (43, .ls w1), (44, vI w0), (45, vI a1)], [(qe5 z), qe0, (2, some ⟨9, .ls a2, true⟩)], 3, none⟩ K) (K (.exit 2) ⟨[qe3, qe7, (5, vN), (9, vN)], [(qe5 z), qe0], 2, none⟩) := by kernel_rfl
noncomputable def few05F_l5 {R : Type} (fuel : Nat) (z : Int) (k0 : Nat → List ByteArray → Option R) (k1 : Option R) : Nat → List ByteArray → Int → Option R
  | 0, _, _ => none
  | k + 1, w0, w1 =>
    (few05F_s10 w1 w0 z (fun a0 a1 a2 => (few05F_l6 fuel w0 w1 z (fun x0 x1 => k0 x0 x1) k a0 a1 a2)) (k1))
theorem few05F_l5_eq (fuel : Nat) (z : Int) (K : Ex → St → Option Out) : ∀ (k : Nat) (w0 : List ByteArray) (w1 : Int), lpN qe2 (qe1 fuel) qe10 qe9 k ⟨[qe3, qe7, (5, vN), (9, vN), (43, .ls w0), (44, vI w1), (45, vI 0)], [(qe5 z), qe0], 2, none⟩ K = few05F_l5 fuel z (fun y0 y1 => K (.exit 2) ⟨[qe3, qe7, (5, vN), (9, .sl 2 1 0 y0)], [(qe5 z), qe0, (2, some ⟨9, .ls y1, true⟩)], 3, none⟩) (K (.exit 2) ⟨[qe3, qe7, (5, vN), (9, vN)], [(qe5 z), qe0], 2, none⟩) k w0 w1
  | 0, _, _ => rfl
  | k + 1, w0, w1 => by
    unfold few05F_l5
    exact (few05F_s10_eq fuel k K w1 w0 z).trans (congr (congr (Eq.refl (few05F_s10 (R := Out) w1 w0 z)) (funext fun a0 => funext fun a1 => funext fun a2 => few05F_l6_eq fuel w0 w1 z K k a0 a1 a2)) (rfl))
noncomputable def few05F_s12 {R : Type} (z : Int) (x0 : List ByteArray) (x1 : Nat) (c0 : Int → List ByteArray → Option R) : Option R :=
  c0 z ((x0.drop 0).take x1)
theorem few05F_s12_eq (fuel : Nat)  (z : Int) (x0 : List ByteArray) (x1 : Nat) : (kont (qe1 fuel) qe8 qe13 48 (endK Tryd.prog 0 0 28)) (.exit 2) ⟨[qe3, qe7, (5, vN), (9, .sl 2 1 0 x1)], [(qe5 z), qe0, (2, some ⟨9, .ls x0, true⟩)], 3, none⟩ = few05F_s12 z x0 x1 (fun a0 a1 => some (.tup [.agg [vI a0, vN], .ls a1], [])) := by kernel_rfl
noncomputable def few05F_s13 {R : Type} (z : Int) (c0 : Int → Option R) : Option R :=
  c0 z
theorem few05F_s13_eq (fuel : Nat)  (z : Int) : (kont (qe1 fuel) qe8 qe13 48 (endK Tryd.prog 0 0 28)) (.exit 2) ⟨[qe3, qe7, (5, vN), (9, vN)], [(qe5 z), qe0], 2, none⟩ = few05F_s13 z (fun a0 => some (.tup [.agg [vI a0, vN], vN], [])) := by kernel_rfl
noncomputable def few05F_s9 {R : Type} (l : List ByteArray) (z : Int) (m : List (Int × List Int)) (c0 : List ByteArray → Int → Option R) : Option R :=
  bnd (upTo (min ((l.length : Nat) : Int) 66) l.length) fun j0 =>
  c0 ((l.drop 0).take (j0 - 0)) ((((l.drop 0).take (j0 - 0)).length : Nat) : Int)
theorem few05F_s9_eq (fuel : Nat)  (l : List ByteArray) (z : Int) (m : List (Int × List Int)) : (kont (qe1 fuel) qe8 [1, 1, 0, 1, 0] 48 (endK Tryd.prog 0 0 28)) (.exit 0) ⟨[(1, .ls l), qe3, qe7, (5, vN), (6, vN)], [(qe6 z m), qe0], 2, none⟩ = few05F_s9 l z m (fun a0 a1 => lpN qe2 (qe1 fuel) qe10 qe9 fuel ⟨[qe3, qe7, (5, vN), (9, vN), (43, .ls a0), (44, vI a1), (45, vI 0)], [(qe5 z), qe0], 2, none⟩ (kont (qe1 fuel) qe8 qe13 48 (endK Tryd.prog 0 0 28))) := by kernel_rfl
noncomputable def few05F_s1 {R : Type} (m : List (Int × List Int)) (z : Int) (l : List ByteArray) (c0 : (List (Int × List Int)) → Int → Option R) : Option R :=
  bnd (upTo (min ((m.length : Nat) : Int) 66) m.length) fun j1 =>
  c0 ((m.drop 0).take (j1 - 0)) ((((m.drop 0).take (j1 - 0)).length : Nat) : Int)
theorem few05F_s1_eq (fuel : Nat)  (m : List (Int × List Int)) (z : Int) (l : List ByteArray) : callN Tryd.prog mode22 T_Rank fuel 28 [.agg [vI z, vR m], .ls l] [] = few05F_s1 m z l (fun a0 a1 => lpN qe12 (qe1 fuel) 1152921367167896182 qe14 fuel ⟨[(1, .ls l), qe3, qe7, (5, vN), (6, vN), (18, vR a0), (19, vI a1), (20, vI 0)], [(qe6 z m), qe0], 2, none⟩ (kont (qe1 fuel) qe8 [1, 1, 0, 1, 0] 48 (endK Tryd.prog 0 0 28))) := by kernel_rfl
noncomputable def few05F {R : Type} (fuel : Nat) (z : Int) (m : List (Int × List Int)) (l : List ByteArray) (r0 : Int → (List (Int × List Int)) → List ByteArray → Option R) (r1 : Int → (List (Int × List Int)) → Option R) (r2 : Int → List ByteArray → Option R) (r3 : Int → Option R) : Option R :=
  (few05F_s1 m z l (fun a0 a1 => (few05F_l1 fuel l z m (fun x0 x1 => (few05F_s4 l x0 z m x1 (fun a2 a3 => (few05F_l3 fuel z x0 x1 (fun x2 x3 => (few05F_s7 z x1 x0 x3 x2 (fun a4 a5 a6 => r0 a4 a5 a6))) ((few05F_s8 z x1 x0 (fun a7 a8 => r1 a7 a8))) fuel a2 a3)))) ((few05F_s9 l z m (fun a9 a10 => (few05F_l5 fuel z (fun x4 x5 => (few05F_s12 z x5 x4 (fun a11 a12 => r2 a11 a12))) ((few05F_s13 z (fun a13 => r3 a13))) fuel a9 a10)))) fuel a0 a1)))
theorem few05F_eq (fuel : Nat) (z : Int) (m : List (Int × List Int)) (l : List ByteArray) : callN Tryd.prog mode22 T_Rank fuel 28 [.agg [.s (.int .i64 z), .lt (.pair (.int .i64) (.sl (.int .u64))) m], .ls l] [] = few05F fuel z m l (fun z0 z1 z2 => some (.tup [.agg [.s (.int .i64 z0), .lt (.pair (.int .i64) (.sl (.int .u64))) z1], .ls z2], [])) (fun z0 z1 => some (.tup [.agg [.s (.int .i64 z0), .lt (.pair (.int .i64) (.sl (.int .u64))) z1], .s (.slice none 0 0)], [])) (fun z0 z1 => some (.tup [.agg [.s (.int .i64 z0), .s (.slice none 0 0)], .ls z1], [])) (fun z0 => some (.tup [.agg [.s (.int .i64 z0), .s (.slice none 0 0)], .s (.slice none 0 0)], [])) := by
  unfold few05F
  exact (few05F_s1_eq fuel  m z l).trans (congr (Eq.refl (few05F_s1 (R := Out) m z l)) (funext fun a0 => funext fun a1 => (few05F_l1_eq fuel l z m (kont (qe1 fuel) qe8 [1, 1, 0, 1, 0] 48 (endK Tryd.prog 0 0 28)) fuel a0 a1).trans (congrFun (congrFun (congrFun (congr (congr (Eq.refl (few05F_l1 (R := Out) fuel l z m)) (funext fun x0 => funext fun x1 => (few05F_s4_eq fuel  l x0 z m x1).trans (congr (Eq.refl (few05F_s4 (R := Out) l x0 z m x1)) (funext fun a2 => funext fun a3 => (few05F_l3_eq fuel z x0 x1 (kont (qe1 fuel) qe8 qe13 48 (endK Tryd.prog 0 0 28)) fuel a2 a3).trans (congrFun (congrFun (congrFun (congr (congr (Eq.refl (few05F_l3 (R := Out) fuel z x0 x1)) (funext fun x2 => funext fun x3 => (few05F_s7_eq fuel  z x1 x0 x3 x2))) ((few05F_s8_eq fuel  z x1 x0))) fuel) a2) a3))))) ((few05F_s9_eq fuel  l z m).trans (congr (Eq.refl (few05F_s9 (R := Out) l z m)) (funext fun a4 => funext fun a5 => (few05F_l5_eq fuel z (kont (qe1 fuel) qe8 qe13 48 (endK Tryd.prog 0 0 28)) fuel a4 a5).trans (congrFun (congrFun (congrFun (congr (congr (Eq.refl (few05F_l5 (R := Out) fuel z)) (funext fun x4 => funext fun x5 => (few05F_s12_eq fuel  z x5 x4))) ((few05F_s13_eq fuel  z))) fuel) a4) a5))))) fuel) a0) a1)))
theorem cut3_of (r : Rw) : (r.1, (r.2.drop 0).take (min r.2.length 3 - 0)) = (r.1, r.2.take 3) := by
  rw [List.drop_zero, Nat.sub_zero]
  by_cases h : r.2.length ≤ 3
  · rw [Nat.min_eq_left h, List.take_length, List.take_of_length_le h]
  · rw [Nat.min_eq_right (by omega)]
theorem up_to (n : Nat) (k : Nat) {c : Int} (h : c = (k : Int)) : upTo (min ((n : Nat) : Int) c) n = some (min n k) := by subst h; rw [upTo_of (by omega) (by omega)]; congr 1; omega
theorem take_to {α : Type} (l : List α) (k : Nat) : (l.drop 0).take (min l.length k - 0) = l.take k := by
  rw [List.drop_zero, Nat.sub_zero]
  by_cases h : l.length ≤ k
  · rw [Nat.min_eq_left h, List.take_length, List.take_of_length_le h]
  · rw [Nat.min_eq_right (by omega)]
theorem few05_rows {R : Type} (fuel : Nat) (l : List ByteArray) (w : List Rw) (hw : w.length ≤ 66) (z : Int) (m : List Rw) (k0 : Nat → List Rw → Option R) : ∀ (k j : Nat) (acc : List Rw), j ≤ w.length → w.length < j + k → acc.length ≤ j →
    few05F_l2 fuel l w (w.length : Int) z m k0 k acc.length (j : Int) acc = k0 (acc ++ (w.drop j).map (fun r => (r.1, r.2.take 3))).length (acc ++ (w.drop j).map (fun r => (r.1, r.2.take 3)))
  | 0, j, acc, h1, h2, _ => by omega
  | k + 1, j, acc, h1, h2, ha => by
    unfold few05F_l2 few05F_s3
    rw [br_if]
    by_cases hc : j < w.length
    · rw [if_pos (by simpa using hc), bnd_of ((ix_nat w j).trans (List.getElem?_eq_getElem hc)), bnd_of (up_to _ 3 (c := 3) rfl), grd_of (beq_self _), grd_of (okN_of (by omega) (by omega)), cut3_of, wrap_i64 (by omega) (by omega), show (j : Int) + 1 = ((j + 1 : Nat) : Int) by omega, List.drop_eq_getElem_cons hc, List.map_cons]
      have := few05_rows fuel l w hw z m k0 k (j + 1) (acc ++ [((w[j]).1, (w[j]).2.take 3)]) (by omega) (by omega) (by simp; omega)
      rw [List.append_assoc] at this
      exact this
    · rw [if_neg (by simpa using hc), List.drop_eq_nil_of_le (by omega)]
      simp
theorem few05_rows1 {R : Type} (fuel : Nat) (l : List ByteArray) (w : List Rw) (hw : w.length ≤ 66) (z : Int) (m : List Rw) (k0 : Nat → List Rw → Option R) (k1 : Option R) (k : Nat) (hk : w.length + 1 < k) :
    few05F_l1 fuel l z m k0 k1 k w (w.length : Int) = if w.length = 0 then k1 else k0 (w.map (fun r => (r.1, r.2.take 3))).length (w.map (fun r => (r.1, r.2.take 3))) := by
  cases k with
  | zero => omega
  | succ k =>
    unfold few05F_l1 few05F_s2
    dsimp only
    rw [br_if]
    by_cases hy : 0 < w.length
    · have e0 : ix w 0 = some w[0] := (ix_nat w 0).trans (List.getElem?_eq_getElem hy)
      rw [if_pos (by simpa using hy), if_neg (by omega), bnd_of e0, bnd_of (up_to _ 3 (c := 3) rfl), cut3_of]
      have ho := few05_rows (R := R) fuel l w hw z m k0 k 1 [((w[0]).1, (w[0]).2.take 3)] (by omega) (by omega) (by simp)
      have hy1 : [((w[0]).1, (w[0]).2.take 3)] ++ (w.drop 1).map (fun r => (r.1, r.2.take 3)) = w.map (fun r => (r.1, r.2.take 3)) := by
        cases w with
        | nil => simp at hy
        | cons a t => rfl
      rw [hy1] at ho
      exact ho
    · rw [if_neg (by simpa using hy), if_pos (by omega)]
theorem few05_bA {R : Type} (fuel : Nat) (z : Int) (x44 : Nat) (x45 : List Rw) (w : List ByteArray) (hw : w.length ≤ 66) (k0 : Nat → List ByteArray → Option R) : ∀ (k j : Nat) (acc : List ByteArray), j ≤ w.length → w.length < j + k → acc.length ≤ j →
    few05F_l4 fuel w (w.length : Int) z x44 x45 k0 k acc.length (j : Int) acc = k0 (acc ++ (w.drop j).map (fun s : ByteArray => s.extract 0 (min s.size 66))).length (acc ++ (w.drop j).map (fun s : ByteArray => s.extract 0 (min s.size 66)))
  | 0, j, acc, h1, h2, _ => by omega
  | k + 1, j, acc, h1, h2, ha => by
    unfold few05F_l4 few05F_s6
    rw [br_if]
    by_cases hc : j < w.length
    · rw [if_pos (by simpa using hc), bnd_of ((ix_nat w j).trans (List.getElem?_eq_getElem hc)), bnd_of (up_to _ 66 (c := 66) rfl), grd_of (beq_self _), grd_of (okN_of (by omega) (by omega)), wrap_i64 (by omega) (by omega), show (j : Int) + 1 = ((j + 1 : Nat) : Int) by omega, List.drop_eq_getElem_cons hc, List.map_cons]
      have := few05_bA fuel z x44 x45 w hw k0 k (j + 1) (acc ++ [(w[j]).extract 0 (min (w[j]).size 66)]) (by omega) (by omega) (by simp; omega)
      rw [List.append_assoc] at this
      exact this
    · rw [if_neg (by simpa using hc), List.drop_eq_nil_of_le (by omega)]
      simp
theorem few05_bA1 {R : Type} (fuel : Nat) (z : Int) (x44 : Nat) (x45 : List Rw) (w : List ByteArray) (hw : w.length ≤ 66) (k0 : Nat → List ByteArray → Option R) (k1 : Option R) (k : Nat) (hk : w.length + 1 < k) :
    few05F_l3 fuel z x44 x45 k0 k1 k w (w.length : Int) = if w.length = 0 then k1 else k0 (w.map (fun s : ByteArray => s.extract 0 (min s.size 66))).length (w.map (fun s : ByteArray => s.extract 0 (min s.size 66))) := by
  cases k with
  | zero => omega
  | succ k =>
    unfold few05F_l3 few05F_s5
    dsimp only
    rw [br_if]
    by_cases hy : 0 < w.length
    · have e0 : ix w 0 = some w[0] := (ix_nat w 0).trans (List.getElem?_eq_getElem hy)
      rw [if_pos (by simpa using hy), if_neg (by omega), bnd_of e0, bnd_of (up_to _ 66 (c := 66) rfl)]
      have ho := few05_bA (R := R) fuel z x44 x45 w hw k0 k 1 [(w[0]).extract 0 (min (w[0]).size 66)] (by omega) (by omega) (by simp)
      have hy1 : [(w[0]).extract 0 (min (w[0]).size 66)] ++ (w.drop 1).map (fun s : ByteArray => s.extract 0 (min s.size 66)) = w.map (fun s : ByteArray => s.extract 0 (min s.size 66)) := by
        cases w with
        | nil => simp at hy
        | cons a t => rfl
      rw [hy1] at ho
      exact ho
    · rw [if_neg (by simpa using hy), if_pos (by omega)]
theorem few05_bB {R : Type} (fuel : Nat) (z : Int) (w : List ByteArray) (hw : w.length ≤ 66) (k0 : Nat → List ByteArray → Option R) : ∀ (k j : Nat) (acc : List ByteArray), j ≤ w.length → w.length < j + k → acc.length ≤ j →
    few05F_l6 fuel w (w.length : Int) z k0 k acc.length (j : Int) acc = k0 (acc ++ (w.drop j).map (fun s : ByteArray => s.extract 0 (min s.size 66))).length (acc ++ (w.drop j).map (fun s : ByteArray => s.extract 0 (min s.size 66)))
  | 0, j, acc, h1, h2, _ => by omega
  | k + 1, j, acc, h1, h2, ha => by
    unfold few05F_l6 few05F_s11
    rw [br_if]
    by_cases hc : j < w.length
    · rw [if_pos (by simpa using hc), bnd_of ((ix_nat w j).trans (List.getElem?_eq_getElem hc)), bnd_of (up_to _ 66 (c := 66) rfl), grd_of (beq_self _), grd_of (okN_of (by omega) (by omega)), wrap_i64 (by omega) (by omega), show (j : Int) + 1 = ((j + 1 : Nat) : Int) by omega, List.drop_eq_getElem_cons hc, List.map_cons]
      have := few05_bB fuel z w hw k0 k (j + 1) (acc ++ [(w[j]).extract 0 (min (w[j]).size 66)]) (by omega) (by omega) (by simp; omega)
      rw [List.append_assoc] at this
      exact this
    · rw [if_neg (by simpa using hc), List.drop_eq_nil_of_le (by omega)]
      simp
theorem few05_bB1 {R : Type} (fuel : Nat) (z : Int) (w : List ByteArray) (hw : w.length ≤ 66) (k0 : Nat → List ByteArray → Option R) (k1 : Option R) (k : Nat) (hk : w.length + 1 < k) :
    few05F_l5 fuel z k0 k1 k w (w.length : Int) = if w.length = 0 then k1 else k0 (w.map (fun s : ByteArray => s.extract 0 (min s.size 66))).length (w.map (fun s : ByteArray => s.extract 0 (min s.size 66))) := by
  cases k with
  | zero => omega
  | succ k =>
    unfold few05F_l5 few05F_s10
    dsimp only
    rw [br_if]
    by_cases hy : 0 < w.length
    · have e0 : ix w 0 = some w[0] := (ix_nat w 0).trans (List.getElem?_eq_getElem hy)
      rw [if_pos (by simpa using hy), if_neg (by omega), bnd_of e0, bnd_of (up_to _ 66 (c := 66) rfl)]
      have ho := few05_bB (R := R) fuel z w hw k0 k 1 [(w[0]).extract 0 (min (w[0]).size 66)] (by omega) (by omega) (by simp)
      have hy1 : [(w[0]).extract 0 (min (w[0]).size 66)] ++ (w.drop 1).map (fun s : ByteArray => s.extract 0 (min s.size 66)) = w.map (fun s : ByteArray => s.extract 0 (min s.size 66)) := by
        cases w with
        | nil => simp at hy
        | cons a t => rfl
      rw [hy1] at ho
      exact ho
    · rw [if_neg (by simpa using hy), if_pos (by omega)]

theorem few05_fact (z : Int) (m : List (Int × List Int)) (l : List ByteArray) : Fact Tryd.prog gTab 28 [.agg [.s (.int .i64 z), .lt (.pair (.int .i64) (.sl (.int .u64))) m], .ls l] [] (.tup [.agg [.s (.int .i64 z), .lt (.pair (.int .i64) (.sl (.int .u64))) ((fewRS m) : List (Int × List Int))], .ls (fewBS l)], []) := by
  have hx : (m.take 66).length ≤ 66 := by rw [List.length_take]; omega
  have hy : (l.take 66).length ≤ 66 := by rw [List.length_take]; omega
  have hwalk : callN Tryd.prog mode22 T_Rank 70 28 [.agg [.s (.int .i64 z), .lt (.pair (.int .i64) (.sl (.int .u64))) m], .ls l] [] =
      if (m.take 66).length = 0 then (if (l.take 66).length = 0 then some (.tup [.agg [.s (.int .i64 z), .s (.slice none 0 0)], .s (.slice none 0 0)], []) else some (.tup [.agg [.s (.int .i64 z), .s (.slice none 0 0)], .ls (fewBS l)], []))
      else (if (l.take 66).length = 0 then some (.tup [.agg [.s (.int .i64 z), .lt (.pair (.int .i64) (.sl (.int .u64))) (fewRS m)], .s (.slice none 0 0)], []) else some (.tup [.agg [.s (.int .i64 z), .lt (.pair (.int .i64) (.sl (.int .u64))) (fewRS m)], .ls (fewBS l)], [])) := by
    rw [few05F_eq]
    unfold few05F few05F_s1
    rw [bnd_of (up_to _ 66 (c := 66) rfl), take_to]
    dsimp only
    rw [few05_rows1 (R := Out) 70 l (m.take 66) hx z m _ _ 70 (by omega)]
    have e1 : (m.take 66).map (fun r => (r.1, r.2.take 3)) = fewRS m := by rw [fewRS_eq]; rfl
    have e2 : (l.take 66).map (fun s => s.extract 0 (min s.size 66)) = fewBS l := by rw [fewBS_eq]; rfl
    by_cases h : (m.take 66).length = 0
    · rw [if_pos h, if_pos h]
      unfold few05F_s9
      rw [bnd_of (up_to _ 66 (c := 66) rfl), take_to]
      dsimp only
      rw [few05_bB1 (R := Out) 70 z (l.take 66) hy _ _ 70 (by omega), e2]
      by_cases g : (l.take 66).length = 0
      · rw [if_pos g, if_pos g]; rfl
      · rw [if_neg g, if_neg g]
        unfold few05F_s12
        rw [List.drop_zero, List.take_length]
    · rw [if_neg h, if_neg h, e1]
      unfold few05F_s4
      rw [bnd_of (up_to _ 66 (c := 66) rfl), take_to]
      dsimp only
      rw [few05_bA1 (R := Out) 70 z _ _ (l.take 66) hy _ _ 70 (by omega), e2]
      by_cases g : (l.take 66).length = 0
      · rw [if_pos g, if_pos g]
        unfold few05F_s8
        rw [List.drop_zero, List.take_length]
      · rw [if_neg g, if_neg g]
        unfold few05F_s7
        rw [List.drop_zero, List.take_length, List.drop_zero, List.take_length]
  have n1 : (m.take 66).length = 0 → fewRS m = [] := fun h => by rw [fewRS_eq]; unfold fewRI; rw [List.eq_nil_of_length_eq_zero h]; rfl
  have n2 : (l.take 66).length = 0 → fewBS l = [] := fun h => by rw [fewBS_eq]; unfold fewBI; rw [List.eq_nil_of_length_eq_zero h]; rfl
  by_cases h : (m.take 66).length = 0
  · rw [if_pos h] at hwalk
    rw [n1 h]
    by_cases g : (l.take 66).length = 0
    · rw [if_pos g] at hwalk
      rw [n2 g]
      exact (callN_fact hN hM T_Rank_ok hwalk).out fun _ _ _ x h => RV_tup_two (fun _ h => RVs_two (fun _ h => RV_agg_two (fun _ h => RVs_two (fun _ h => h) (fun _ h => RVs_two (fun _ h => RV_nil_sl (s := .pair (.int .i64) (.sl (.int .u64))) h) (fun _ h => h) h) h) h) (fun _ h => RVs_two (fun _ h => RV_nil_ls h) (fun _ h => h) h) h) h
    · rw [if_neg g] at hwalk
      exact (callN_fact hN hM T_Rank_ok hwalk).out fun _ _ _ x h => RV_tup_two (fun _ h => RVs_two (fun _ h => RV_agg_two (fun _ h => RVs_two (fun _ h => h) (fun _ h => RVs_two (fun _ h => RV_nil_sl (s := .pair (.int .i64) (.sl (.int .u64))) h) (fun _ h => h) h) h) h) (fun _ h => h) h) h
  · rw [if_neg h] at hwalk
    by_cases g : (l.take 66).length = 0
    · rw [if_pos g] at hwalk
      rw [n2 g]
      exact (callN_fact hN hM T_Rank_ok hwalk).out fun _ _ _ x h => RV_tup_two (fun _ h => RVs_two (fun _ h => h) (fun _ h => RVs_two (fun _ h => RV_nil_ls h) (fun _ h => h) h) h) h
    · rw [if_neg g] at hwalk
      exact callN_fact hN hM T_Rank_ok hwalk
noncomputable def few05_ent : List V → List Blk → Option (Bool × Out)
  | [.agg [.s (.int .i64 z), w0], w1], [] => (asSl (.pair (.int .i64) (.sl (.int .u64))) w0).bind fun m => (asSl .str w1).bind fun l => some (true, (.tup [.agg [.s (.int .i64 z), .lt (.pair (.int .i64) (.sl (.int .u64))) ((fewRS m) : List (Int × List Int))], .ls (fewBS l)], []))
  | _, _ => none
theorem few05_ok : ∀ args bs out, few05_ent args bs = some (true, out) → Fact Tryd.prog gTab 28 args bs out := by
  intro args bs out h
  unfold few05_ent at h
  split at h
  · rename_i z w0 w1
    obtain ⟨m, h_m, h⟩ := Option.bind_eq_some_iff.1 h
    obtain ⟨l, h_l, h⟩ := Option.bind_eq_some_iff.1 h
    simp only [Option.some.injEq, Prod.mk.injEq] at h
    obtain ⟨_, rfl⟩ := h
    exact (few05_fact z m l).args (fun _ _ _ => fun _ h => RVs_two (fun _ h => RV_agg_two (fun _ h => RVs_two (fun _ h => h) (fun _ h => RVs_two (fun _ h => RV_sl (s := (.pair (.int .i64) (.sl (.int .u64)))) h_m h) (fun _ h => h) h) h) h) (fun _ h => RVs_two (fun _ h => RV_ls h_l h) (fun _ h => h) h) h)
  · cases h
noncomputable def T_few05 : Tbl := Tbl.cons 28 few05_ent T_Rank
theorem T_few05_ok : CallOk Tryd.prog gTab T_few05 := cons_ok T_Rank_ok few05_ok
/-! downpour/downpourlaw05.alive -/
noncomputable def bsaliveF_s1 {R : Type}  (c0 : Bool → Option R) : Option R :=
  grd (okM ([(2, [3]), (2, [2])]) && decide (([(2, [3]), (2, [2])]).length ≤ 1000)) <|
  br (((slE 2 ([(2, [3]), (2, [2])]) 1 ([(⟨#[97]⟩ : ByteArray), (⟨#[98]⟩ : ByteArray)])) : Int) == 0)
    (br (((((slL 2 ([(2, [3]), (2, [2])]) 1 ([(⟨#[97]⟩ : ByteArray), (⟨#[98]⟩ : ByteArray)])).length : Nat) : Int) : Int) == 2)
      (bnd (ix (slL 2 ([(2, [3]), (2, [2])]) 1 ([(⟨#[97]⟩ : ByteArray), (⟨#[98]⟩ : ByteArray)])) 0) fun e1 =>
      br (eqS e1 (⟨#[3]⟩ : ByteArray))
        (bnd (ix (slL 2 ([(2, [3]), (2, [2])]) 1 ([(⟨#[97]⟩ : ByteArray), (⟨#[98]⟩ : ByteArray)])) 1) fun e2 =>
        c0 (eqS e2 (⟨#[98]⟩ : ByteArray)))
        (c0 false))
      (c0 false))
    (c0 false)
theorem bsaliveF_s1_eq (fuel : Nat)   : callN Tryd.prog mode22 T_few05 fuel 33 [] [] = bsaliveF_s1  (fun a3 => some (vB a3, [])) := by kernel_rfl
noncomputable def bsaliveF {R : Type} (fuel : Nat)  (r0 : Bool → Option R) : Option R :=
  (bsaliveF_s1 (fun a3 => r0 a3))
theorem bsaliveF_eq (fuel : Nat)  : callN Tryd.prog mode22 T_few05 fuel 33 [] [] = bsaliveF fuel  (fun z0 => some (.s (.bool z0), [])) := by
  unfold bsaliveF
  exact (bsaliveF_s1_eq fuel  )
theorem sa_ok : okM [(2, [3]), (2, [2])] = true := by rw [okM_eq]; unfold okMI; rw [okW_eq]; decide +kernel
theorem sa_may : mrt 2 [(2, [3]), (2, [2])] = true := by rw [mrt_eq]; unfold mrtI; rw [badR_eq]; unfold badI; rw [rtS_eq]; unfold rtI; rw [nw_eq]; decide +kernel
theorem sa_bm : bmayE 2 [(2, [3]), (2, [2])] 1 [(⟨#[97]⟩ : ByteArray), (⟨#[98]⟩ : ByteArray)] = 0 := by
  refine bmay_iff.2 ⟨sa_may, ?_, rfl⟩
  rw [bok_eq]; decide +kernel
theorem sa_augs : augs 2 [(2, [3]), (2, [2])] [(⟨#[97]⟩ : ByteArray), (⟨#[98]⟩ : ByteArray)] = [391, 394] := by decide +kernel
theorem sa_red : red [391, 394] = [(0, 13), (1, 394)] := by
  refine red_eq ⟨⟨fun x hx => ?_, ?_, fun x hx y hy hne => ?_⟩, fun w => ⟨Sp.mono fun a ha => ?_, Sp.mono fun a ha => ?_⟩⟩
  · simp only [List.mem_cons, List.not_mem_nil, or_false] at hx
    rcases hx with rfl | rfl
    · exact ⟨by decide +kernel, fun q hq => by omega⟩
    · exact ⟨by decide +kernel, fun q hq => by
        have : q = 0 := by omega
        subst this; decide +kernel⟩
  · simp
  · simp only [List.mem_cons, List.not_mem_nil, or_false] at hx hy
    rcases hx with rfl | rfl <;> rcases hy with rfl | rfl
    · exact absurd rfl hne
    · decide +kernel
    · decide +kernel
    · exact absurd rfl hne
  · simp only [List.mem_map, List.mem_cons, List.not_mem_nil, or_false] at ha
    obtain ⟨x, rfl | rfl, rfl⟩ := ha
    · have h1 : Sp [391, 394] 391 := .of_mem (by simp)
      have h2 : Sp [391, 394] 394 := .of_mem (by simp)
      exact h1.xor h2
    · exact .of_mem (by simp)
  · simp only [List.mem_cons, List.not_mem_nil, or_false] at ha
    have h1 : Sp (Lin.rows [(0, 13), (1, 394)]) 13 := .of_mem (by simp)
    have h2 : Sp (Lin.rows [(0, 13), (1, 394)]) 394 := .of_mem (by simp)
    rcases ha with rfl | rfl
    · exact h1.xor h2
    · exact h2
theorem sa_fit : fitB 2 [(2, [3]), (2, [2])] [(⟨#[97]⟩ : ByteArray), (⟨#[98]⟩ : ByteArray)] = true := by
  refine fit_iff.2 ?_
  rw [sa_augs]
  intro u hu h0
  have hR := red_is [391, 394]
  refine hR.1.eq_zero ((hR.2 u).2 hu) fun x hx => ?_
  rw [sa_red] at hx
  have hb : ∀ i, i < 2 → u.testBit i = false := fun i hi => by
    have := lo_bit (2 : Int).toNat u i
    rw [h0, Nat.zero_testBit] at this
    have h2 : i < (2 : Int).toNat := hi
    rw [decide_eq_true h2, Bool.true_and] at this
    exact this.symm
  simp only [List.mem_cons, List.not_mem_nil, or_false] at hx
  rcases hx with rfl | rfl
  · exact hb 0 (by decide)
  · exact hb 1 (by decide)
theorem sa_kn : knE 2 [(2, [3]), (2, [2])] 1 [(⟨#[97]⟩ : ByteArray), (⟨#[98]⟩ : ByteArray)] = 0 := by rw [knE_eq]; unfold knEI; rw [if_pos sa_bm, if_pos sa_fit]
theorem sa_sl : slE 2 [(2, [3]), (2, [2])] 1 [(⟨#[97]⟩ : ByteArray), (⟨#[98]⟩ : ByteArray)] = 0 ∧ slL 2 [(2, [3]), (2, [2])] 1 [(⟨#[97]⟩ : ByteArray), (⟨#[98]⟩ : ByteArray)] = [(⟨#[3]⟩ : ByteArray), (⟨#[98]⟩ : ByteArray)] := by
  have hA : knA 2 [(2, [3]), (2, [2])] 1 [(⟨#[97]⟩ : ByteArray), (⟨#[98]⟩ : ByteArray)] = [0, 1] := by
    rw [knA_eq]; unfold knAI; rw [if_pos sa_kn, sa_augs, sa_red]; decide +kernel
  have hL : knL 2 [(2, [3]), (2, [2])] 1 [(⟨#[97]⟩ : ByteArray), (⟨#[98]⟩ : ByteArray)] = [(⟨#[3]⟩ : ByteArray), (⟨#[98]⟩ : ByteArray)] := by
    rw [knL_eq]; unfold knLI; rw [if_pos sa_kn, sa_augs, sa_red]; decide +kernel
  have hS : slE 2 [(2, [3]), (2, [2])] 1 [(⟨#[97]⟩ : ByteArray), (⟨#[98]⟩ : ByteArray)] = 0 := by
    rw [slE_eq]; unfold slEI; rw [if_pos sa_kn, hA]; decide
  refine ⟨hS, ?_⟩
  rw [slL_eq]; unfold slLI; rw [if_pos hS, hL]
theorem bsalive_fact  : Fact Tryd.prog gTab 33 [] [] (.s (.bool true), []) := by
  refine callN_fact hN hM T_few05_ok (n := 0) (mode := mode22) ?_
  rw [bsaliveF_eq]
  unfold bsaliveF bsaliveF_s1
  obtain ⟨h1, h2⟩ := sa_sl
  have i0 : ix [(⟨#[3]⟩ : ByteArray), (⟨#[98]⟩ : ByteArray)] 0 = some (⟨#[3]⟩ : ByteArray) := rfl
  have i1 : ix [(⟨#[3]⟩ : ByteArray), (⟨#[98]⟩ : ByteArray)] 1 = some (⟨#[98]⟩ : ByteArray) := rfl
  have e1 : eqS (⟨#[3]⟩ : ByteArray) (⟨#[3]⟩ : ByteArray) = true := eqS_iff.2 rfl
  have e2 : eqS (⟨#[98]⟩ : ByteArray) (⟨#[98]⟩ : ByteArray) = true := eqS_iff.2 rfl
  rw [grd_of (by rw [sa_ok]; rfl), h1, h2, bnd_of i0, e1, br_tt, bnd_of i1, e2]
  rfl
noncomputable def bsalive_ent : List V → List Blk → Option (Bool × Out)
  | [], [] => some (true, (.s (.bool true), []))
  | _, _ => none
theorem bsalive_ok : ∀ args bs out, bsalive_ent args bs = some (true, out) → Fact Tryd.prog gTab 33 args bs out := by
  intro args bs out h
  unfold bsalive_ent at h
  split at h
  · simp only [Option.some.injEq, Prod.mk.injEq] at h
    obtain ⟨_, rfl⟩ := h
    exact bsalive_fact 
  · cases h
noncomputable def T_bsalive : Tbl := Tbl.cons 33 bsalive_ent T_few05
theorem T_bsalive_ok : CallOk Tryd.prog gTab T_bsalive := cons_ok T_few05_ok bsalive_ok
def mode23 : FuncId → Nat := fun f => 0
/-! Sums of blocks by rows: the sum by two rows' xor is both sums' xor. -/
theorem xb_nat {a b : List Int} (ha : ByteOk a) (hb : ByteOk b) (hl : a.length = b.length) (i : Nat) : ((xb a b).getD i 0).toNat = (a.getD i 0).toNat ^^^ (b.getD i 0).toNat := by
  have h1 := getD_ok ha i
  have h2 := getD_ok hb i
  by_cases h : i < a.length
  · rw [xb_getD h (by omega), x8_nat h1.1 h1.2 h2.1 h2.2, Int.toNat_natCast]
  · have e : ∀ l : List Int, l.length ≤ i → l.getD i 0 = 0 := fun l hl => by rw [List.getD_eq_getElem?_getD, List.getElem?_eq_none hl]; rfl
    rw [e _ (by rw [xb_len]; omega), e _ (by omega), e _ (by omega)]; rfl
theorem xb_leneq {a b : List Int} (hl : a.length = b.length) : (xb a b).length = a.length := by rw [xb_len]; omega
theorem bytes_ext {a b : List Int} (ha : ByteOk a) (hb : ByteOk b) (hl : a.length = b.length) (h : ∀ i, (a.getD i 0).toNat = (b.getD i 0).toNat) : a = b := by
  refine ext_getD hl fun i _ => ?_
  have h1 := getD_ok ha i
  have h2 := getD_ok hb i
  have := h i
  omega
theorem xb_four {a b c d : List Int} (ha : ByteOk a) (hb : ByteOk b) (hc : ByteOk c) (hd : ByteOk d) (h1 : a.length = b.length) (h2 : a.length = c.length) (h3 : a.length = d.length) : xb (xb a b) (xb c d) = xb (xb a c) (xb b d) := by
  have e1 := xb_leneq h1
  have e2 := xb_leneq (a := c) (b := d) (by omega)
  have e3 := xb_leneq h2
  have e4 := xb_leneq (a := b) (b := d) (by omega)
  refine bytes_ext (xb_ok (xb_ok ha hb) (xb_ok hc hd)) (xb_ok (xb_ok ha hc) (xb_ok hb hd)) (by have e5 := xb_leneq (a := xb a b) (b := xb c d) (by omega); have e6 := xb_leneq (a := xb a c) (b := xb b d) (by omega); omega) fun i => ?_
  rw [xb_nat (xb_ok ha hb) (xb_ok hc hd) (by omega), xb_nat ha hb h1, xb_nat hc hd (by omega), xb_nat (xb_ok ha hc) (xb_ok hb hd) (by omega), xb_nat ha hc h2, xb_nat hb hd (by omega)]
  rw [Nat.xor_assoc, Nat.xor_assoc, ← Nat.xor_assoc (b.getD i 0).toNat, Nat.xor_comm (b.getD i 0).toNat, Nat.xor_assoc (c.getD i 0).toNat]
/-- The sum of those of some blocks whose bits are 1 in a number. -/
noncomputable def selI (n : Nat) (x : List ByteArray) (v : Nat) : Nat → List Int
  | 0 => zb n
  | k + 1 => xb (selI n x v k) (if v.testBit k = true then bytesL (x.getD k ByteArray.empty) else zb n)
theorem zb_len (n : Nat) : (zb n).length = n := by unfold zb; simp
theorem sel_ok (n : Nat) (x : List ByteArray) (v : Nat) : ∀ k, ByteOk (selI n x v k)
  | 0 => zb_ok n
  | k + 1 => by
    rw [selI]
    refine xb_ok (sel_ok n x v k) ?_
    split
    · exact bytes_ok _
    · exact zb_ok n
theorem sel_part {n : Nat} {x : List ByteArray} (hs : ∀ s, s ∈ x → s.size = n) (v : Nat) {k : Nat} (hk : k < x.length) : (if v.testBit k = true then bytesL (x.getD k ByteArray.empty) else zb n).length = n := by
  split
  · rw [bytes_len, List.getD_eq_getElem?_getD, List.getElem?_eq_getElem hk]; exact hs _ (List.getElem_mem hk)
  · exact zb_len n
theorem sel_len {n : Nat} {x : List ByteArray} (hs : ∀ s, s ∈ x → s.size = n) (v : Nat) : ∀ k, k ≤ x.length → (selI n x v k).length = n
  | 0, _ => zb_len n
  | k + 1, h => by
    have := sel_len hs v k (by omega)
    rw [selI, xb_leneq (by rw [this, sel_part hs v (by omega)])]; exact this
theorem sel_xor {n : Nat} {x : List ByteArray} (hs : ∀ s, s ∈ x → s.size = n) (v w : Nat) : ∀ k, k ≤ x.length → selI n x (v ^^^ w) k = xb (selI n x v k) (selI n x w k)
  | 0, _ => by
    have := xb_self (zb_ok n)
    rw [zb_len] at this
    exact this.symm
  | k + 1, h => by
    have l1 := sel_len hs v k (by omega)
    have l2 := sel_len hs w k (by omega)
    have l3 := sel_part hs v (k := k) (by omega)
    have l4 := sel_part hs w (k := k) (by omega)
    have o : ∀ v : Nat, ByteOk (if v.testBit k = true then bytesL (x.getD k ByteArray.empty) else zb n) := fun v => by
      split
      · exact bytes_ok _
      · exact zb_ok n
    rw [selI, selI, selI, sel_xor hs v w k (by omega), xb_four (sel_ok n x v k) (o v) (sel_ok n x w k) (o w) (by omega) (by omega) (by omega)]
    congr 1
    rw [Nat.testBit_xor]
    have lx : (bytesL (x.getD k ByteArray.empty)).length = n := by
      rw [bytes_len, List.getD_eq_getElem?_getD, List.getElem?_eq_getElem (by omega)]; exact hs _ (List.getElem_mem _)
    have hx := bytes_ok (x.getD k ByteArray.empty)
    generalize bytesL (x.getD k ByteArray.empty) = q at lx hx
    have a1 := xb_self hx
    have a2 := xb_zero hx
    have a3 := zero_xb hx
    have a4 := xb_self (zb_ok n)
    rw [lx] at a1 a2 a3
    rw [zb_len] at a4
    cases hv : v.testBit k <;> cases hw : w.testBit k <;> simp [a1, a2, a3, a4]
theorem sel_plc {n : Nat} {x : List ByteArray} (hs : ∀ s, s ∈ x → s.size = n) (v : Nat) : ∀ k, k ≤ x.length → sumL (zb n) ((plc v k).map fun i => x.getD i.toNat ByteArray.empty) = selI n x v k
  | 0, _ => by simp [plc, selI, sumL]
  | k + 1, h => by
    have ih := sel_plc hs v k (by omega)
    rw [plc_succ, List.map_append, selI, ← ih]
    unfold sumL
    rw [List.foldl_append]
    by_cases hb : v.testBit k = true
    · rw [if_pos hb, if_pos hb]
      rfl
    · rw [if_neg hb, if_neg hb]
      have := xb_zero (sel_ok n x v k)
      rw [sel_len hs v k (by omega), ← ih] at this
      exact this.symm
/-- What a row picks of blocks of n bytes. -/
theorem pick_sel {n m : Int} {x : List ByteArray} {ws : List Int} (hok : okW ws = true) (h : rtS m ws = true) (hm : m = (x.length : Int)) (hs : ∀ s, s ∈ x → s.size = n.toNat) : sumS n (pickL x ws) = selI n.toNat x (val ws) x.length := by
  rw [sumS_eq, pickL_eq]
  unfold sumI pickLI
  rw [pl_plc hok h, hm, Int.toNat_natCast]
  exact sel_plc hs (val ws) x.length (Nat.le_refl _)
theorem sel_zero {n : Nat} {x : List ByteArray} (v : Nat) : ∀ k, (∀ b, b < k → v.testBit b = false) → selI n x v k = zb n
  | 0, _ => rfl
  | k + 1, h => by
    rw [selI, sel_zero v k (fun b hb => h b (by omega)), h k (by omega), if_neg (by decide)]
    have := xb_self (zb_ok n)
    rwa [zb_len] at this
theorem sel_one {n : Nat} {x : List ByteArray} (hs : ∀ s, s ∈ x → s.size = n) (i : Nat) : ∀ k, k ≤ x.length → selI n x (2 ^ i) k = if i < k then bytesL (x.getD i ByteArray.empty) else zb n
  | 0, _ => rfl
  | k + 1, h => by
    rw [selI, sel_one hs i k (by omega), Nat.testBit_two_pow]
    have z := xb_self (zb_ok n)
    rw [zb_len] at z
    have hl : ∀ j, j < x.length → (bytesL (x.getD j ByteArray.empty)).length = n := fun j hj => by
      rw [bytes_len, List.getD_eq_getElem?_getD, List.getElem?_eq_getElem hj]; exact hs _ (List.getElem_mem _)
    by_cases h1 : i = k
    · subst h1
      rw [if_neg (Nat.lt_irrefl i), if_pos (decide_eq_true rfl), if_pos (by omega)]
      have := zero_xb (bytes_ok (x.getD i ByteArray.empty))
      rwa [hl i (by omega)] at this
    · rw [if_neg (c := decide (i = k) = true) (by simp [h1])]
      by_cases h2 : i < k
      · rw [if_pos h2, if_pos (by omega)]
        have := xb_zero (bytes_ok (x.getD i ByteArray.empty))
        rwa [hl i (by omega)] at this
      · rw [if_neg h2, if_neg (by omega)]; exact z
/-! Equations that blocks make. -/
section
variable {z n : Int} {u : List Rw} {y : List ByteArray}
theorem applyE_iff : applyE z u n y = 0 ↔ mrt z u = true ∧ bok n y = true ∧ (y.length : Int) = z := by
  rw [applyE_eq]; unfold applyEI
  by_cases hm : mrt z u = true
  · by_cases hb : bok n y = true ∧ (y.length : Int) = z
    · rw [if_pos hm, if_pos hb]; simp [hm, hb]
    · rw [if_pos hm, if_neg hb]; simp; intro _ h1 h2; exact hb ⟨h1, h2⟩
  · rw [if_neg hm]; simp [hm]
variable (hok : okM u = true) (hE : applyE z u n y = 0)
include hE
theorem tl_basic : mrt z u = true ∧ (0 ≤ z ∧ z ≤ 64) ∧ z.toNat = y.length ∧ (∀ s, s ∈ y → s.size = n.toNat) ∧ (0 ≤ n ∧ n ≤ 64) ∧ y.length ≤ 64 ∧ u.length ≤ 64 ∧ applyS z u n y = u.map (fun r => pickT n y r.1 r.2) := by
  obtain ⟨hm, hb, hy⟩ := applyE_iff.1 hE
  obtain ⟨⟨n0, n1⟩, b2, b3⟩ := bok_iff.1 hb
  obtain ⟨hz, hx, _⟩ := mrt_iff.1 hm
  refine ⟨hm, hz, by omega, fun s hs => by have := b3 s hs; omega, ⟨n0, n1⟩, b2, hx, ?_⟩
  rw [applyS_eq]; unfold applyI
  rw [if_pos hE]
theorem tl_one {p : Nat} (hp : p < z.toNat) : txt (byts n.toNat (hi z.toNat (aug z.toNat (2 ^ p) (bval (selI n.toNat y (2 ^ p) y.length))))) = y.getD p ByteArray.empty := by
  obtain ⟨hm, hz, hzn, hs, hn, hy, hx, e⟩ := tl_basic hE
  have hlt : 2 ^ p < 2 ^ z.toNat := Nat.pow_lt_pow_right (by decide) hp
  rw [hi_aug hlt, sel_one hs _ _ (Nat.le_refl _), if_pos (by omega)]
  have e := byts_bval (bytes_ok (y.getD p ByteArray.empty))
  have hl : (bytesL (y.getD p ByteArray.empty)).length = n.toNat := by
    rw [bytes_len, List.getD_eq_getElem?_getD, List.getElem?_eq_getElem (by omega)]; exact hs _ (List.getElem_mem _)
  rw [hl] at e
  rw [e, txt_bytes]
include hok
theorem tl_pick {r : Rw} (hr : r ∈ u) : pickT n y r.1 r.2 = txt (selI n.toNat y (val r.2) y.length) := by
  obtain ⟨hm, hb, hy⟩ := applyE_iff.1 hE
  obtain ⟨_, _, _, hs, _, _, _, _⟩ := tl_basic hE
  obtain ⟨_, _, hrows⟩ := mrt_iff.1 hm
  obtain ⟨h1, h2⟩ := hrows r hr
  have h3 : pickE n y r.1 r.2 = 0 := by
    rw [pickE_eq]; unfold pickEI
    rw [if_pos hb, if_pos ⟨h2, by omega⟩]
  rw [pickT_eq]; unfold pickTI
  rw [if_pos h3, pick_sel (okM_iff.1 hok r hr) h2 (by omega) hs]
theorem tl_may : bmayE z u n (applyS z u n y) = 0 := by
  obtain ⟨hm, hz, hzn, hs, hn, hy, hx, e⟩ := tl_basic hE
  refine bmay_iff.2 ⟨hm, bok_iff.2 ⟨hn, by rw [e, List.length_map]; exact hx, fun s h => ?_⟩, by rw [e, List.length_map]⟩
  rw [e] at h
  obtain ⟨r, hr, rfl⟩ := List.mem_map.1 h
  rw [tl_pick hok hE hr, txt_size, sel_len hs _ _ (Nat.le_refl _)]
  omega
theorem tl_augs : augs z u (applyS z u n y) = (vals u).map fun v => aug z.toNat v (bval (selI n.toNat y v y.length)) := by
  obtain ⟨hm, hz, hzn, hs, hn, hy, hx, e⟩ := tl_basic hE
  rw [e]
  have key : ∀ t : List Rw, (∀ r, r ∈ t → r ∈ u) → t.zipWith (fun r s => aug z.toNat (val r.2) (bval (bytesL s))) (t.map fun r => pickT n y r.1 r.2) = (t.map fun r => val r.2).map fun v => aug z.toNat v (bval (selI n.toNat y v y.length)) := by
    intro t
    induction t with
    | nil => intro _; rfl
    | cons r t ih =>
      intro h
      rw [List.map_cons, List.zipWith_cons_cons, ih fun r hr => h r (List.mem_cons_of_mem _ hr), List.map_cons, List.map_cons, tl_pick hok hE (h r List.mem_cons_self), bytes_txt (sel_ok _ _ _ _)]
  exact key u fun r h => h
theorem tl_span {w : Nat} (hw : Sp (augs z u (applyS z u n y)) w) : w = aug z.toNat (lo z.toNat w) (bval (selI n.toNat y (lo z.toNat w) y.length)) := by
  obtain ⟨hm, hz, hzn, hs, hn, hy, hx, e⟩ := tl_basic hE
  obtain ⟨_, hv, _⟩ := mrt_vals hok hm
  rw [tl_augs hok hE] at hw
  induction hw with
  | zero =>
    rw [lo_zero, sel_zero _ _ (fun b _ => Nat.zero_testBit b), bval_zb]; simp [aug]
  | @step a v ha _ ih =>
    obtain ⟨b, hb, rfl⟩ := List.mem_map.1 ha
    have hb' := hv.mem hb
    rw [lo_xor, lo_aug hb', sel_xor hs _ _ _ (Nat.le_refl _), bval_xb (sel_ok _ _ _ _) (sel_ok _ _ _ _) (by rw [sel_len hs _ _ (Nat.le_refl _), sel_len hs _ _ (Nat.le_refl _)]), ← aug_xor (lo_lt _ _) hb', ← ih]
theorem tl_fit : Fit z.toNat (augs z u (applyS z u n y)) := fun w hw h0 => by
  have := tl_span hok hE hw
  rw [h0, sel_zero _ _ (fun b _ => Nat.zero_testBit b), bval_zb] at this
  rw [this]; simp [aug]
theorem tl_lo : (augs z u (applyS z u n y)).map (lo z.toNat) = vals u := by
  obtain ⟨hm, hz, hzn, hs, hn, hy, hx, e⟩ := tl_basic hE
  obtain ⟨_, hv, _⟩ := mrt_vals hok hm
  rw [tl_augs hok hE, List.map_map]
  refine (List.map_congr_left fun v h => ?_).trans (List.map_id _)
  exact lo_aug (hv.mem h)
theorem tl_kn : knE z u n (applyS z u n y) = 0 ∧ ftB z u n (applyS z u n y) = true := by
  have h1 := tl_may hok hE
  have h2 := fit_iff.2 (tl_fit hok hE)
  rw [knE_eq, ftB_eq]; unfold knEI ftBI
  rw [if_pos h1, if_pos h2, h1, h2]
  exact ⟨rfl, rfl⟩
theorem tl_mem {x : Nat × Nat} (hx : x ∈ (red (augs z u (applyS z u n y))).filter (isTold z)) : x.1 < z.toNat ∧ lo z.toNat x.2 = 2 ^ x.1 ∧ x.2 = aug z.toNat (2 ^ x.1) (bval (selI n.toNat y (2 ^ x.1) y.length)) := by
  obtain ⟨h1, h2⟩ := List.mem_filter.1 hx
  have h3 : lo z.toNat x.2 = 2 ^ x.1 := of_decide_eq_true h2
  refine ⟨(fit_places (tl_fit hok hE) h1).1, h3, ?_⟩
  have := tl_span hok hE (((red_is _).2 _).1 (.of_mem (List.mem_map.2 ⟨x, h1, rfl⟩)))
  rwa [h3] at this
theorem tl_known : knA z u n (applyS z u n y) = ((red (augs z u (applyS z u n y))).filter (isTold z)).map (fun x => (x.1 : Int)) ∧ knL z u n (applyS z u n y) = (knA z u n (applyS z u n y)).map fun i => y.getD i.toNat ByteArray.empty := by
  obtain ⟨h1, _⟩ := tl_kn hok hE
  have hA : knA z u n (applyS z u n y) = ((red (augs z u (applyS z u n y))).filter (isTold z)).map (fun x => (x.1 : Int)) := by rw [knA_eq]; unfold knAI; rw [if_pos h1]
  refine ⟨hA, ?_⟩
  rw [hA, knL_eq]; unfold knLI
  rw [if_pos h1, List.map_map]
  refine List.map_congr_left fun x hx => ?_
  obtain ⟨a, b, c⟩ := tl_mem hok hE hx
  show txt (byts n.toNat (hi z.toNat x.2)) = y.getD ((x.1 : Nat) : Int).toNat ByteArray.empty
  rw [Int.toNat_natCast, c]
  exact tl_one hE a
theorem tl_range {i : Int} (h : i ∈ knA z u n (applyS z u n y)) : 0 ≤ i ∧ i < (y.length : Int) := by
  obtain ⟨hm, hz, hzn, hs, hn, hy, hx, e⟩ := tl_basic hE
  rw [(tl_known hok hE).1] at h
  obtain ⟨x, hx, rfl⟩ := List.mem_map.1 h
  have := (tl_mem hok hE hx).1
  omega
theorem tl_rise : (knA z u n (applyS z u n y)).Pairwise (· < ·) := by
  rw [(tl_known hok hE).1, List.pairwise_map]
  refine (List.Pairwise.filter _ (red_is _).1.inc).imp fun h => ?_
  omega
theorem tl_iff (p : Nat) : (p : Int) ∈ knA z u n (applyS z u n y) ↔ p < z.toNat ∧ Sp (vals u) (2 ^ p) := by
  rw [(tl_known hok hE).1, List.mem_map]
  have hlo := tl_lo hok hE
  constructor
  · rintro ⟨x, hx, e⟩
    obtain rfl : x.1 = p := by omega
    obtain ⟨a, b, c⟩ := tl_mem hok hE hx
    refine ⟨a, ?_⟩
    have := Sp.lo (N := z.toNat) (((red_is (augs z u (applyS z u n y))).2 x.2).1 (.of_mem (List.mem_map.2 ⟨x, (List.mem_filter.1 hx).1, rfl⟩)))
    rwa [b, hlo] at this
  · rintro ⟨hp, hsp⟩
    have hR := red_is (vals u)
    have hf : IsFst (2 ^ p) p := ⟨by rw [Nat.testBit_two_pow]; simp, fun q hq => by rw [Nat.testBit_two_pow, decide_eq_false (by omega)]⟩
    have hspr := (hR.2 _).2 hsp
    obtain ⟨x, hx, e⟩ := hR.1.fst_mem hspr hf
    have hc := hR.1.comb_self hspr
    rw [comb_one hR.1.nodup hx (by rw [e]; exact hf.1) fun w hw hne => by
      rw [Nat.testBit_two_pow]
      exact decide_eq_false fun e2 => hne (hR.1.places_inj hw hx (by omega))] at hc
    rw [← hlo, fit_red (tl_fit hok hE)] at hx
    obtain ⟨w, hw, rfl⟩ := List.mem_map.1 hx
    have hc : lo z.toNat w.2 = 2 ^ p := hc
    have e : w.1 = p := e
    exact ⟨w, List.mem_filter.2 ⟨hw, decide_eq_true (by rw [hc, e])⟩, by rw [e]⟩
theorem tl_rank : (echP z u).length = (red (vals u)).length ∧ (red (vals u)).length ≤ z.toNat ∧ (knA z u n (applyS z u n y)).length ≤ (red (vals u)).length := by
  obtain ⟨hm, hz, hzn, hs, hn, hy, hx, e⟩ := tl_basic hE
  obtain ⟨_, hv, _⟩ := mrt_vals hok hm
  refine ⟨by rw [echP_eq]; unfold echPI; rw [if_pos hm, pcast_len], (red_is _).len fun v h => hv.mem h, ?_⟩
  rw [(tl_known hok hE).1, List.length_map, ← tl_lo hok hE, fit_red (tl_fit hok hE), List.length_map]
  exact List.length_filter_le _ _
/-- All are told, if the rank is as many as columns; else the answer is that it is too early. -/
theorem tl_full (h : (red (vals u)).length = z.toNat) : slE z u n (applyS z u n y) = 0 ∧ slL z u n (applyS z u n y) = y := by
  obtain ⟨hm, hz, hzn, hs, hn, hy, hx, e⟩ := tl_basic hE
  obtain ⟨_, hv, _⟩ := mrt_vals hok hm
  have hR := red_is (vals u)
  have hpl : Lin.places (red (vals u)) = List.range z.toNat := by
    have := inc_full (red (vals u)) 0 z.toNat hR.1.inc (fun x hx => ⟨Nat.zero_le _, (hR.lt (fun v h => hv.mem h) hx).2⟩) (Nat.zero_le _) h
    refine this.trans ?_
    show (List.range (z.toNat - 0)).map (fun x => x + 0) = _
    simp
  have hall : ∀ x, x ∈ red (augs z u (applyS z u n y)) → isTold z x = true := fun x hx => by
    have h1 : (x.1, lo z.toNat x.2) ∈ red (vals u) := by
      rw [← tl_lo hok hE, fit_red (tl_fit hok hE)]; exact List.mem_map.2 ⟨x, hx, rfl⟩
    exact decide_eq_true (hR.1.alone hpl (fun w hw => (hR.lt (fun v h => hv.mem h) hw).1) h1)
  have hA : knA z u n (applyS z u n y) = (List.range z.toNat).map fun (i : Nat) => (i : Int) := by
    rw [(tl_known hok hE).1, List.filter_eq_self.2 hall, ← hpl, ← tl_lo hok hE, fit_red (tl_fit hok hE)]
    unfold Lin.places
    rw [List.map_map, List.map_map]
    rfl
  have hL : knL z u n (applyS z u n y) = y := by
    rw [(tl_known hok hE).2, hA, List.map_map, hzn]
    refine List.ext_getElem (by simp) fun i h1 h2 => ?_
    rw [List.getElem_map, List.getElem_range]
    show y.getD ((i : Nat) : Int).toNat ByteArray.empty = _
    rw [Int.toNat_natCast, List.getD_eq_getElem?_getD, List.getElem?_eq_getElem h2]; rfl
  have hS : slE z u n (applyS z u n y) = 0 := by
    rw [slE_eq]; unfold slEI
    rw [if_pos (tl_kn hok hE).1, hA, List.length_map, List.length_range, if_neg (by omega)]
  refine ⟨hS, ?_⟩
  rw [slL_eq]; unfold slLI
  rw [if_pos hS, hL]
theorem tl_early (h : (red (vals u)).length ≠ z.toNat) : slE z u n (applyS z u n y) = 9 ∧ slL z u n (applyS z u n y) = [] := by
  obtain ⟨_, r1, r2⟩ := tl_rank hok hE
  have hS : slE z u n (applyS z u n y) = 9 := by
    rw [slE_eq]; unfold slEI
    rw [if_pos (tl_kn hok hE).1, if_pos (by omega)]
  refine ⟨hS, ?_⟩
  rw [slL_eq]; unfold slLI
  rw [hS, if_neg (by decide)]
end
/-- Fewer equations. -/
theorem tl_take {z n : Int} {u : List Rw} {y : List ByteArray} (hok : okM u = true) (hE : applyE z u n y = 0) (j : Nat) : okM (u.take j) = true ∧ applyE z (u.take j) n y = 0 ∧ (applyS z u n y).take j = applyS z (u.take j) n y ∧ (knA z (u.take j) n (applyS z (u.take j) n y)).length ≤ (knA z u n (applyS z u n y)).length := by
  obtain ⟨hm, hb, hy⟩ := applyE_iff.1 hE
  obtain ⟨hz, hx, hr⟩ := mrt_iff.1 hm
  have h1 : okM (u.take j) = true := okM_iff.2 fun r h => okM_iff.1 hok r (List.mem_of_mem_take h)
  have h2 : applyE z (u.take j) n y = 0 := applyE_iff.2 ⟨mrt_iff.2 ⟨hz, by rw [List.length_take]; omega, fun r h => hr r (List.mem_of_mem_take h)⟩, hb, hy⟩
  refine ⟨h1, h2, by rw [(tl_basic hE).2.2.2.2.2.2.2, (tl_basic h2).2.2.2.2.2.2.2, List.map_take], length_le_of_sub ((tl_rise h1 h2).imp fun h e => by omega) fun i hi => ?_⟩
  obtain ⟨p, rfl⟩ : ∃ p : Nat, i = (p : Int) := ⟨i.toNat, by have := tl_range h1 h2 hi; omega⟩
  obtain ⟨a, b⟩ := (tl_iff h1 h2 p).1 hi
  refine (tl_iff hok hE p).2 ⟨a, b.sub fun v hv => ?_⟩
  obtain ⟨r, hr, rfl⟩ := List.mem_map.1 hv
  exact List.mem_map.2 ⟨r, List.mem_of_mem_take hr, rfl⟩
theorem tmodT (a : Int) {b : Int} (hb : 0 < b) : -b < a.tmod b ∧ a.tmod b < b := ⟨Int.lt_tmod_of_pos a hb, Int.tmod_lt_of_pos a hb⟩
theorem remT (a : Int) {b : Int} (hb : 0 < b) : ∃ v, divI .rem .i64 a b = some v ∧ -b < v ∧ v < b := ⟨_, divI_rem (by omega), tmodT a hb⟩
theorem remU {a b : Int} (ha : 0 ≤ a) (hb : 0 < b) : ∃ v, divI .rem .i64 a b = some v ∧ 0 ≤ v ∧ v < b := ⟨_, rem_pos ha hb, Int.emod_nonneg _ (by omega), Int.emod_lt_of_pos _ hb⟩
theorem ix_map {y : List ByteArray} {at' : List Int} {j : Nat} (hc : j < at'.length) (hr : 0 ≤ at'[j] ∧ at'[j] < (y.length : Int)) : ∃ s, ix (at'.map fun i => y.getD i.toNat ByteArray.empty) (j : Int) = some s ∧ ix y at'[j] = some s := by
  obtain ⟨i, hi⟩ : ∃ i : Nat, at'[j] = (i : Int) := ⟨(at'[j]).toNat, by omega⟩
  have hil : i < y.length := by omega
  refine ⟨y[i], ?_, ?_⟩
  · rw [ix_nat, List.getElem?_map, List.getElem?_eq_getElem hc, hi]
    show some (y.getD ((i : Int)).toNat ByteArray.empty) = _
    rw [Int.toNat_natCast, List.getD_eq_getElem?_getD, List.getElem?_eq_getElem hil]; rfl
  · rw [hi, ix_nat, List.getElem?_eq_getElem hil]
/-! downpour/downpourlaw05.BacksubTold -/
noncomputable abbrev qe15 (fuel : Nat) : Ctx Out := (fnX Tryd.prog mode23 T_bsalive fuel 234 0)
noncomputable abbrev qe16 : Code := (bodyOf Tryd.prog 7)
noncomputable abbrev qe17 : List Nat := [1, 1, 1, 1, 1, 1, 1, 1, 1, 1, 1, 1, 1, 1, 0, 1, 0]
noncomputable abbrev qe18 : List Nat := [1, 1, 1, 1, 1, 1, 1, 1, 1, 1, 0, 1, 0]
noncomputable abbrev qe19 : Nat := 27606985387162255148990734610794679515684149254330809314586259693273886
noncomputable abbrev qe20 : Nat × V := (8, vB false)
noncomputable abbrev qe21 : Code := (sub qe16 [1, 1, 1, 1, 1, 1, 1, 1, 1, 1, 1, 1, 1, 1, 0, 1, 0, 0])
noncomputable abbrev qe22 : Code := (sub qe16 [1, 1, 1, 1, 1, 1, 1, 1, 1, 1, 0, 1, 0, 0])
noncomputable abbrev qe23 : Nat × V := (4, .ptr 0 2 0 0)
noncomputable abbrev qe24 : List Nat := [1, 2, 3, 4, 8, 9, 15, 16, 129, 130, 131]
noncomputable abbrev qe25 : List Nat := [2, 8, 24, 207, 208, 209]
noncomputable def lawToldF_s2 {R : Type} (w0 w1 : Int) (w2 : List Int) (w3 w4 : List ByteArray) (w5 : List (Int × List Int)) (w6 : List ByteArray) (n q z : Int) (c0 c1 c2 c3 : List ByteArray → List ByteArray → List Int → (List (Int × List Int)) → Option R) (c4 c5 : List ByteArray → List ByteArray → List Int → List ByteArray → Int → Int → (List (Int × List Int)) → Option R) (c6 : List ByteArray → List ByteArray → List Int → (List (Int × List Int)) → Option R) : Option R :=
  br (decide (w0 < w1))
    (bnd (ix w2 w0) fun e0 =>
    br (decide (e0 < 0))
      (c0 w3 w4 w2 w5)
      (br (decide (e0 ≥ ((w3.length : Nat) : Int)))
        (c1 w3 w4 w2 w5)
        (bnd (ix w6 w0) fun e1 =>
        bnd (ix w3 e0) fun e2 =>
        br (!(eqS e1 e2))
          (c2 w3 w4 w2 w5)
          (br (decide (w0 > 0))
            (bnd (ix w2 (IntKind.i64.wrap (w0 - 1))) fun e3 =>
            br (decide (e3 ≥ e0))
              (c3 w3 w4 w2 w5)
              (c4 w3 w4 w2 w6 w1 (IntKind.i64.wrap (w0 + 1)) w5))
            (c5 w3 w4 w2 w6 w1 (IntKind.i64.wrap (w0 + 1)) w5)))))
    (c6 w3 w4 w2 w5)
theorem lawToldF_s2_eq (fuel k : Nat) (K : Ex → St → Option Out) (w0 w1 : Int) (w2 : List Int) (w3 w4 : List ByteArray) (w5 : List (Int × List Int)) (w6 : List ByteArray) (n q z : Int) : lpN qe22 (qe15 fuel) qe19 qe24 (k + 1) ⟨[(1, vI n), (2, .ls w3), (3, vI q), qe23, qe20, (9, .ls w4), (15, vL w2), (16, .ls w6), (129, vL w2), (130, vI w1), (131, vI w0)], [(0, some ⟨24, .agg [vI z, vR w5], true⟩)], 1, none⟩ K = lawToldF_s2 w0 w1 w2 w3 w4 w5 w6 n q z (fun a0 a1 a2 a3 => K .ret ⟨[(1, vI n), (2, .ls a0), (3, vI q), qe23, qe20, (9, .ls a1), (15, vL a2)], [(0, some ⟨24, .agg [vI z, vR a3], true⟩)], 1, none⟩) (fun a4 a5 a6 a7 => K .ret ⟨[(1, vI n), (2, .ls a4), (3, vI q), qe23, qe20, (9, .ls a5), (15, vL a6)], [(0, some ⟨24, .agg [vI z, vR a7], true⟩)], 1, none⟩) (fun a8 a9 a52 a53 => K .ret ⟨[(1, vI n), (2, .ls a8), (3, vI q), qe23, qe20, (9, .ls a9), (15, vL a52)], [(0, some ⟨24, .agg [vI z, vR a53], true⟩)], 1, none⟩) (fun a55 a56 a57 a58 => K .ret ⟨[(1, vI n), (2, .ls a55), (3, vI q), qe23, qe20, (9, .ls a56), (15, vL a57)], [(0, some ⟨24, .agg [vI z, vR a58], true⟩)], 1, none⟩) (fun a59 a60 a61 a62 a63 a64 a65 => lpN qe22 (qe15 fuel) qe19 qe24 k ⟨[(1, vI n), (2, .ls a59), (3, vI q), qe23, qe20, (9, .ls a60), (15, vL a61), (16, .ls a62), (129, vL a61), (130, vI a63), (131, vI a64)], [(0, some ⟨24, .agg [vI z, vR a65], true⟩)], 1, none⟩ K) (fun a66 a67 a68 a69 a70 a71 a72 => lpN qe22 (qe15 fuel) qe19 qe24 k ⟨[(1, vI n), (2, .ls a66), (3, vI q), qe23, qe20, (9, .ls a67), (15, vL a68), (16, .ls a69), (129, vL a68), (130, vI a70), (131, vI a71)], [(0, some ⟨24, .agg [vI z, vR a72], true⟩)], 1, none⟩ K) (fun a73 a74 a75 a76 => K (.exit 0) ⟨[(1, vI n), (2, .ls a73), (3, vI q), qe23, qe20, (9, .ls a74), (15, vL a75)], [(0, some ⟨24, .agg [vI z, vR a76], true⟩)], 1, none⟩) := by kernel_rfl
noncomputable def lawToldF_l1 {R : Type} (fuel : Nat) (n q z : Int) (k0 k1 : List ByteArray → List ByteArray → List Int → (List (Int × List Int)) → Option R) : Nat → List ByteArray → List ByteArray → List Int → List ByteArray → Int → Int → (List (Int × List Int)) → Option R
  | 0, _, _, _, _, _, _, _ => none
  | k + 1, w0, w1, w2, w3, w4, w5, w6 =>
    (lawToldF_s2 w5 w4 w2 w0 w1 w6 w3 n q z (fun a0 a1 a2 a3 => k0 a0 a1 a2 a3) (fun a4 a5 a6 a7 => k0 a4 a5 a6 a7) (fun a8 a9 a52 a53 => k0 a8 a9 a52 a53) (fun a55 a56 a57 a58 => k0 a55 a56 a57 a58) (fun a59 a60 a61 a62 a63 a64 a65 => ( lawToldF_l1 fuel n q z k0 k1 k a59 a60 a61 a62 a63 a64 a65 )) (fun a66 a67 a68 a69 a70 a71 a72 => ( lawToldF_l1 fuel n q z k0 k1 k a66 a67 a68 a69 a70 a71 a72 )) (fun a73 a74 a75 a76 => k1 a73 a74 a75 a76))
theorem lawToldF_l1_eq (fuel : Nat) (n q z : Int) (K : Ex → St → Option Out) : ∀ (k : Nat) (w0 w1 : List ByteArray) (w2 : List Int) (w3 : List ByteArray) (w4 w5 : Int) (w6 : List (Int × List Int)), lpN qe22 (qe15 fuel) qe19 qe24 k ⟨[(1, vI n), (2, .ls w0), (3, vI q), qe23, qe20, (9, .ls w1), (15, vL w2), (16, .ls w3), (129, vL w2), (130, vI w4), (131, vI w5)], [(0, some ⟨24, .agg [vI z, vR w6], true⟩)], 1, none⟩ K = lawToldF_l1 fuel n q z (fun y0 y1 y2 y3 => K .ret ⟨[(1, vI n), (2, .ls y0), (3, vI q), qe23, qe20, (9, .ls y1), (15, vL y2)], [(0, some ⟨24, .agg [vI z, vR y3], true⟩)], 1, none⟩) (fun y4 y5 y6 y7 => K (.exit 0) ⟨[(1, vI n), (2, .ls y4), (3, vI q), qe23, qe20, (9, .ls y5), (15, vL y6)], [(0, some ⟨24, .agg [vI z, vR y7], true⟩)], 1, none⟩) k w0 w1 w2 w3 w4 w5 w6
  | 0, _, _, _, _, _, _, _ => rfl
  | k + 1, w0, w1, w2, w3, w4, w5, w6 => by
    unfold lawToldF_l1
    exact (lawToldF_s2_eq fuel k K w5 w4 w2 w0 w1 w6 w3 n q z).trans (congr (congr (congr (congr (congr (congr (congr (Eq.refl (lawToldF_s2 (R := Out) w5 w4 w2 w0 w1 w6 w3 n q z)) (rfl)) (rfl)) (rfl)) (rfl)) (funext fun a0 => funext fun a1 => funext fun a2 => funext fun a3 => funext fun a4 => funext fun a5 => funext fun a6 => lawToldF_l1_eq fuel n q z K k a0 a1 a2 a3 a4 a5 a6)) (funext fun a7 => funext fun a8 => funext fun a9 => funext fun a69 => funext fun a70 => funext fun a71 => funext fun a72 => lawToldF_l1_eq fuel n q z K k a7 a8 a9 a69 a70 a71 a72)) (rfl))
noncomputable def lawToldF_s3 {R : Type} (n : Int) (x0 : List ByteArray) (q : Int) (x1 : List ByteArray) (x2 : List Int) (z : Int) (x3 : List (Int × List Int)) (c0 : Bool → Option R) : Option R :=
  c0 false
theorem lawToldF_s3_eq (fuel : Nat)  (n : Int) (x0 : List ByteArray) (q : Int) (x1 : List ByteArray) (x2 : List Int) (z : Int) (x3 : List (Int × List Int)) : (kont (qe15 fuel) qe16 qe18 256 (endK Tryd.prog 0 0 7)) .ret ⟨[(1, vI n), (2, .ls x0), (3, vI q), qe23, qe20, (9, .ls x1), (15, vL x2)], [(0, some ⟨24, .agg [vI z, vR x3], true⟩)], 1, none⟩ = lawToldF_s3 n x0 q x1 x2 z x3 (fun a0 => some (vB a0, [])) := by kernel_rfl
noncomputable def lawToldF_s5 {R : Type} (w0 w1 : Int) (w2 : List Int) (x0 w3 : List ByteArray) (c0 c1 c2 : Option R) (c3 : List ByteArray → List Int → Int → Int → Option R) (c4 : Option R) : Option R :=
  br (decide (w0 < w1))
    (bnd (ix w2 w0) fun e0 =>
    br (decide (e0 < 0))
      (c0)
      (br (decide (e0 ≥ ((x0.length : Nat) : Int)))
        (c1)
        (bnd (ix w3 w0) fun e1 =>
        bnd (ix x0 e0) fun e2 =>
        br (!(eqS e1 e2))
          (c2)
          (c3 w3 w2 w1 (IntKind.i64.wrap (w0 + 1))))))
    (c4)
theorem lawToldF_s5_eq (fuel k : Nat) (K : Ex → St → Option Out) (w0 w1 : Int) (w2 : List Int) (x0 w3 : List ByteArray) : lpN qe21 (qe15 fuel) 256 qe25 (k + 1) ⟨[(2, .ls x0), qe20, (24, .ls w3), (207, vL w2), (208, vI w1), (209, vI w0)], [], 0, none⟩ K = lawToldF_s5 w0 w1 w2 x0 w3 (K .ret ⟨[qe20], [], 0, none⟩) (K .ret ⟨[qe20], [], 0, none⟩) (K .ret ⟨[qe20], [], 0, none⟩) (fun a0 a1 a2 a3 => lpN qe21 (qe15 fuel) 256 qe25 k ⟨[(2, .ls x0), qe20, (24, .ls a0), (207, vL a1), (208, vI a2), (209, vI a3)], [], 0, none⟩ K) (K (.exit 2) ⟨[qe20], [], 0, none⟩) := by kernel_rfl
noncomputable def lawToldF_l2 {R : Type} (fuel : Nat) (x0 : List ByteArray) (k0 k1 : Option R) : Nat → List ByteArray → List Int → Int → Int → Option R
  | 0, _, _, _, _ => none
  | k + 1, w0, w1, w2, w3 =>
    (lawToldF_s5 w3 w2 w1 x0 w0 (k0) (k0) (k0) (fun a0 a1 a2 a3 => ( lawToldF_l2 fuel x0 k0 k1 k a0 a1 a2 a3 )) (k1))
theorem lawToldF_l2_eq (fuel : Nat) (x0 : List ByteArray) (K : Ex → St → Option Out) : ∀ (k : Nat) (w0 : List ByteArray) (w1 : List Int) (w2 w3 : Int), lpN qe21 (qe15 fuel) 256 qe25 k ⟨[(2, .ls x0), qe20, (24, .ls w0), (207, vL w1), (208, vI w2), (209, vI w3)], [], 0, none⟩ K = lawToldF_l2 fuel x0 (K .ret ⟨[qe20], [], 0, none⟩) (K (.exit 2) ⟨[qe20], [], 0, none⟩) k w0 w1 w2 w3
  | 0, _, _, _, _ => rfl
  | k + 1, w0, w1, w2, w3 => by
    unfold lawToldF_l2
    exact (lawToldF_s5_eq fuel k K w3 w2 w1 x0 w0).trans (congr (congr (congr (congr (congr (Eq.refl (lawToldF_s5 (R := Out) w3 w2 w1 x0 w0)) (rfl)) (rfl)) (rfl)) (funext fun a0 => funext fun a1 => funext fun a2 => funext fun a3 => lawToldF_l2_eq fuel x0 K k a0 a1 a2 a3)) (rfl))
noncomputable def lawToldF_s6 {R : Type}  (c0 : Bool → Option R) : Option R :=
  c0 false
theorem lawToldF_s6_eq (fuel : Nat)   : (kont (qe15 fuel) qe16 qe17 256 (endK Tryd.prog 0 0 7)) .ret ⟨[qe20], [], 0, none⟩ = lawToldF_s6  (fun a0 => some (vB a0, [])) := by kernel_rfl
noncomputable def lawToldF_s7 {R : Type}  (c0 : Bool → Option R) : Option R :=
  c0 true
theorem lawToldF_s7_eq (fuel : Nat)   : (kont (qe15 fuel) qe16 qe17 256 (endK Tryd.prog 0 0 7)) (.exit 2) ⟨[qe20], [], 0, none⟩ = lawToldF_s7  (fun a0 => some (vB a0, [])) := by kernel_rfl
noncomputable def lawToldF_s4 {R : Type} (q : Int) (x0 : List ByteArray) (x1 : List (Int × List Int)) (z n : Int) (x2 : List Int) (x3 : List ByteArray) (c0 : Bool → Option R) (c1 : List ByteArray → List Int → Int → Int → Option R) : Option R :=
  bnd (divI .rem .i64 q (IntKind.i64.wrap (((x0.length : Nat) : Int) + 1))) fun v93 =>
  bnd (divI .rem .i64 (IntKind.i64.wrap ((IntKind.i64.wrap (v93 + ((x0.length : Nat) : Int))) + 1)) (IntKind.i64.wrap (((x0.length : Nat) : Int) + 1))) fun v94 =>
  bnd (upTo v94 x1.length) fun j0 =>
  bnd (upTo v94 x0.length) fun j1 =>
  grd (okM ((x1.drop 0).take (j0 - 0)) && decide (((x1.drop 0).take (j0 - 0)).length ≤ 1000)) <|
  br (((knE z ((x1.drop 0).take (j0 - 0)) n ((x0.drop 0).take (j1 - 0))) : Int) != 0)
    (c0 false)
    (br (decide (((((knA z ((x1.drop 0).take (j0 - 0)) n ((x0.drop 0).take (j1 - 0))).length : Nat) : Int) : Int) > ((x2.length : Nat) : Int)))
      (c0 false)
      (c1 (knL z ((x1.drop 0).take (j0 - 0)) n ((x0.drop 0).take (j1 - 0))) (knA z ((x1.drop 0).take (j0 - 0)) n ((x0.drop 0).take (j1 - 0))) (((knA z ((x1.drop 0).take (j0 - 0)) n ((x0.drop 0).take (j1 - 0))).length : Nat) : Int) 0))
theorem lawToldF_s4_eq (fuel : Nat)  (q : Int) (x0 : List ByteArray) (x1 : List (Int × List Int)) (z n : Int) (x2 : List Int) (x3 : List ByteArray) : (kont (qe15 fuel) qe16 qe18 256 (endK Tryd.prog 0 0 7)) (.exit 0) ⟨[(1, vI n), (2, .ls x3), (3, vI q), qe23, qe20, (9, .ls x0), (15, vL x2)], [(0, some ⟨24, .agg [vI z, vR x1], true⟩)], 1, none⟩ = lawToldF_s4 q x0 x1 z n x2 x3 (fun a0 => some (vB a0, [])) (fun a1 a2 a3 a4 => lpN qe21 (qe15 fuel) 256 qe25 fuel ⟨[(2, .ls x3), qe20, (24, .ls a1), (207, vL a2), (208, vI a3), (209, vI a4)], [], 0, none⟩ (kont (qe15 fuel) qe16 qe17 256 (endK Tryd.prog 0 0 7))) := by kernel_rfl
noncomputable def lawToldF_s8 {R : Type} (n : Int) (x0 : List ByteArray) (q : Int) (x1 : List ByteArray) (x2 : List Int) (z : Int) (x3 : List (Int × List Int)) (c0 : Bool → Option R) : Option R :=
  c0 false
theorem lawToldF_s8_eq (fuel : Nat)  (n : Int) (x0 : List ByteArray) (q : Int) (x1 : List ByteArray) (x2 : List Int) (z : Int) (x3 : List (Int × List Int)) : (kont (qe15 fuel) qe16 qe18 256 (endK Tryd.prog 0 0 7)) .ret ⟨[(1, vI n), (2, .ls x0), (3, vI q), qe23, qe20, (9, .ls x1), (15, vL x2)], [(0, some ⟨24, .agg [vI z, vR x3], true⟩)], 1, none⟩ = lawToldF_s8 n x0 q x1 x2 z x3 (fun a0 => some (vB a0, [])) := by kernel_rfl
noncomputable def lawToldF_s10 {R : Type}  (c0 : Bool → Option R) : Option R :=
  c0 false
theorem lawToldF_s10_eq (fuel : Nat)   : (kont (qe15 fuel) qe16 qe17 256 (endK Tryd.prog 0 0 7)) .ret ⟨[qe20], [], 0, none⟩ = lawToldF_s10  (fun a0 => some (vB a0, [])) := by kernel_rfl
noncomputable def lawToldF_s11 {R : Type}  (c0 : Bool → Option R) : Option R :=
  c0 true
theorem lawToldF_s11_eq (fuel : Nat)   : (kont (qe15 fuel) qe16 qe17 256 (endK Tryd.prog 0 0 7)) (.exit 2) ⟨[qe20], [], 0, none⟩ = lawToldF_s11  (fun a0 => some (vB a0, [])) := by kernel_rfl
noncomputable def lawToldF_s9 {R : Type} (q : Int) (x0 : List ByteArray) (x1 : List (Int × List Int)) (z n : Int) (x2 : List Int) (x3 : List ByteArray) (c0 : Bool → Option R) (c1 : List ByteArray → List Int → Int → Int → Option R) : Option R :=
  bnd (divI .rem .i64 q (IntKind.i64.wrap (((x0.length : Nat) : Int) + 1))) fun v141 =>
  bnd (divI .rem .i64 (IntKind.i64.wrap ((IntKind.i64.wrap (v141 + ((x0.length : Nat) : Int))) + 1)) (IntKind.i64.wrap (((x0.length : Nat) : Int) + 1))) fun v142 =>
  bnd (upTo v142 x1.length) fun j0 =>
  bnd (upTo v142 x0.length) fun j1 =>
  grd (okM ((x1.drop 0).take (j0 - 0)) && decide (((x1.drop 0).take (j0 - 0)).length ≤ 1000)) <|
  br (((knE z ((x1.drop 0).take (j0 - 0)) n ((x0.drop 0).take (j1 - 0))) : Int) != 0)
    (c0 false)
    (br (decide (((((knA z ((x1.drop 0).take (j0 - 0)) n ((x0.drop 0).take (j1 - 0))).length : Nat) : Int) : Int) > ((x2.length : Nat) : Int)))
      (c0 false)
      (c1 (knL z ((x1.drop 0).take (j0 - 0)) n ((x0.drop 0).take (j1 - 0))) (knA z ((x1.drop 0).take (j0 - 0)) n ((x0.drop 0).take (j1 - 0))) (((knA z ((x1.drop 0).take (j0 - 0)) n ((x0.drop 0).take (j1 - 0))).length : Nat) : Int) 0))
theorem lawToldF_s9_eq (fuel : Nat)  (q : Int) (x0 : List ByteArray) (x1 : List (Int × List Int)) (z n : Int) (x2 : List Int) (x3 : List ByteArray) : (kont (qe15 fuel) qe16 qe18 256 (endK Tryd.prog 0 0 7)) (.exit 0) ⟨[(1, vI n), (2, .ls x3), (3, vI q), qe23, qe20, (9, .ls x0), (15, vL x2)], [(0, some ⟨24, .agg [vI z, vR x1], true⟩)], 1, none⟩ = lawToldF_s9 q x0 x1 z n x2 x3 (fun a0 => some (vB a0, [])) (fun a1 a2 a3 a4 => lpN qe21 (qe15 fuel) 256 qe25 fuel ⟨[(2, .ls x3), qe20, (24, .ls a1), (207, vL a2), (208, vI a3), (209, vI a4)], [], 0, none⟩ (kont (qe15 fuel) qe16 qe17 256 (endK Tryd.prog 0 0 7))) := by kernel_rfl
noncomputable def lawToldF_s12 {R : Type} (n : Int) (x0 : List ByteArray) (q : Int) (x1 : List ByteArray) (x2 : List Int) (z : Int) (x3 : List (Int × List Int)) (c0 : Bool → Option R) : Option R :=
  c0 false
theorem lawToldF_s12_eq (fuel : Nat)  (n : Int) (x0 : List ByteArray) (q : Int) (x1 : List ByteArray) (x2 : List Int) (z : Int) (x3 : List (Int × List Int)) : (kont (qe15 fuel) qe16 qe18 256 (endK Tryd.prog 0 0 7)) .ret ⟨[(1, vI n), (2, .ls x0), (3, vI q), qe23, qe20, (9, .ls x1), (15, vL x2)], [(0, some ⟨24, .agg [vI z, vR x3], true⟩)], 1, none⟩ = lawToldF_s12 n x0 q x1 x2 z x3 (fun a0 => some (vB a0, [])) := by kernel_rfl
noncomputable def lawToldF_s14 {R : Type}  (c0 : Bool → Option R) : Option R :=
  c0 false
theorem lawToldF_s14_eq (fuel : Nat)   : (kont (qe15 fuel) qe16 qe17 256 (endK Tryd.prog 0 0 7)) .ret ⟨[qe20], [], 0, none⟩ = lawToldF_s14  (fun a0 => some (vB a0, [])) := by kernel_rfl
noncomputable def lawToldF_s15 {R : Type}  (c0 : Bool → Option R) : Option R :=
  c0 true
theorem lawToldF_s15_eq (fuel : Nat)   : (kont (qe15 fuel) qe16 qe17 256 (endK Tryd.prog 0 0 7)) (.exit 2) ⟨[qe20], [], 0, none⟩ = lawToldF_s15  (fun a0 => some (vB a0, [])) := by kernel_rfl
noncomputable def lawToldF_s13 {R : Type} (q : Int) (x0 : List ByteArray) (x1 : List (Int × List Int)) (z n : Int) (x2 : List Int) (x3 : List ByteArray) (c0 : Bool → Option R) (c1 : List ByteArray → List Int → Int → Int → Option R) : Option R :=
  bnd (divI .rem .i64 q (IntKind.i64.wrap (((x0.length : Nat) : Int) + 1))) fun v171 =>
  bnd (divI .rem .i64 (IntKind.i64.wrap ((IntKind.i64.wrap (v171 + ((x0.length : Nat) : Int))) + 1)) (IntKind.i64.wrap (((x0.length : Nat) : Int) + 1))) fun v172 =>
  bnd (upTo v172 x1.length) fun j0 =>
  bnd (upTo v172 x0.length) fun j1 =>
  grd (okM ((x1.drop 0).take (j0 - 0)) && decide (((x1.drop 0).take (j0 - 0)).length ≤ 1000)) <|
  br (((knE z ((x1.drop 0).take (j0 - 0)) n ((x0.drop 0).take (j1 - 0))) : Int) != 0)
    (c0 false)
    (br (decide (((((knA z ((x1.drop 0).take (j0 - 0)) n ((x0.drop 0).take (j1 - 0))).length : Nat) : Int) : Int) > ((x2.length : Nat) : Int)))
      (c0 false)
      (c1 (knL z ((x1.drop 0).take (j0 - 0)) n ((x0.drop 0).take (j1 - 0))) (knA z ((x1.drop 0).take (j0 - 0)) n ((x0.drop 0).take (j1 - 0))) (((knA z ((x1.drop 0).take (j0 - 0)) n ((x0.drop 0).take (j1 - 0))).length : Nat) : Int) 0))
theorem lawToldF_s13_eq (fuel : Nat)  (q : Int) (x0 : List ByteArray) (x1 : List (Int × List Int)) (z n : Int) (x2 : List Int) (x3 : List ByteArray) : (kont (qe15 fuel) qe16 qe18 256 (endK Tryd.prog 0 0 7)) (.exit 0) ⟨[(1, vI n), (2, .ls x3), (3, vI q), qe23, qe20, (9, .ls x0), (15, vL x2)], [(0, some ⟨24, .agg [vI z, vR x1], true⟩)], 1, none⟩ = lawToldF_s13 q x0 x1 z n x2 x3 (fun a0 => some (vB a0, [])) (fun a1 a2 a3 a4 => lpN qe21 (qe15 fuel) 256 qe25 fuel ⟨[(2, .ls x3), qe20, (24, .ls a1), (207, vL a2), (208, vI a3), (209, vI a4)], [], 0, none⟩ (kont (qe15 fuel) qe16 qe17 256 (endK Tryd.prog 0 0 7))) := by kernel_rfl
noncomputable def lawToldF_s16 {R : Type} (n : Int) (x0 : List ByteArray) (q : Int) (x1 : List ByteArray) (x2 : List Int) (z : Int) (x3 : List (Int × List Int)) (c0 : Bool → Option R) : Option R :=
  c0 false
theorem lawToldF_s16_eq (fuel : Nat)  (n : Int) (x0 : List ByteArray) (q : Int) (x1 : List ByteArray) (x2 : List Int) (z : Int) (x3 : List (Int × List Int)) : (kont (qe15 fuel) qe16 qe18 256 (endK Tryd.prog 0 0 7)) .ret ⟨[(1, vI n), (2, .ls x0), (3, vI q), qe23, qe20, (9, .ls x1), (15, vL x2)], [(0, some ⟨24, .agg [vI z, vR x3], true⟩)], 1, none⟩ = lawToldF_s16 n x0 q x1 x2 z x3 (fun a0 => some (vB a0, [])) := by kernel_rfl
noncomputable def lawToldF_s18 {R : Type}  (c0 : Bool → Option R) : Option R :=
  c0 false
theorem lawToldF_s18_eq (fuel : Nat)   : (kont (qe15 fuel) qe16 qe17 256 (endK Tryd.prog 0 0 7)) .ret ⟨[qe20], [], 0, none⟩ = lawToldF_s18  (fun a0 => some (vB a0, [])) := by kernel_rfl
noncomputable def lawToldF_s19 {R : Type}  (c0 : Bool → Option R) : Option R :=
  c0 true
theorem lawToldF_s19_eq (fuel : Nat)   : (kont (qe15 fuel) qe16 qe17 256 (endK Tryd.prog 0 0 7)) (.exit 2) ⟨[qe20], [], 0, none⟩ = lawToldF_s19  (fun a0 => some (vB a0, [])) := by kernel_rfl
noncomputable def lawToldF_s17 {R : Type} (q : Int) (x0 : List ByteArray) (x1 : List (Int × List Int)) (z n : Int) (x2 : List Int) (x3 : List ByteArray) (c0 : Bool → Option R) (c1 : List ByteArray → List Int → Int → Int → Option R) : Option R :=
  bnd (divI .rem .i64 q (IntKind.i64.wrap (((x0.length : Nat) : Int) + 1))) fun v199 =>
  bnd (divI .rem .i64 (IntKind.i64.wrap ((IntKind.i64.wrap (v199 + ((x0.length : Nat) : Int))) + 1)) (IntKind.i64.wrap (((x0.length : Nat) : Int) + 1))) fun v200 =>
  bnd (upTo v200 x1.length) fun j0 =>
  bnd (upTo v200 x0.length) fun j1 =>
  grd (okM ((x1.drop 0).take (j0 - 0)) && decide (((x1.drop 0).take (j0 - 0)).length ≤ 1000)) <|
  br (((knE z ((x1.drop 0).take (j0 - 0)) n ((x0.drop 0).take (j1 - 0))) : Int) != 0)
    (c0 false)
    (br (decide (((((knA z ((x1.drop 0).take (j0 - 0)) n ((x0.drop 0).take (j1 - 0))).length : Nat) : Int) : Int) > ((x2.length : Nat) : Int)))
      (c0 false)
      (c1 (knL z ((x1.drop 0).take (j0 - 0)) n ((x0.drop 0).take (j1 - 0))) (knA z ((x1.drop 0).take (j0 - 0)) n ((x0.drop 0).take (j1 - 0))) (((knA z ((x1.drop 0).take (j0 - 0)) n ((x0.drop 0).take (j1 - 0))).length : Nat) : Int) 0))
theorem lawToldF_s17_eq (fuel : Nat)  (q : Int) (x0 : List ByteArray) (x1 : List (Int × List Int)) (z n : Int) (x2 : List Int) (x3 : List ByteArray) : (kont (qe15 fuel) qe16 qe18 256 (endK Tryd.prog 0 0 7)) (.exit 0) ⟨[(1, vI n), (2, .ls x3), (3, vI q), qe23, qe20, (9, .ls x0), (15, vL x2)], [(0, some ⟨24, .agg [vI z, vR x1], true⟩)], 1, none⟩ = lawToldF_s17 q x0 x1 z n x2 x3 (fun a0 => some (vB a0, [])) (fun a1 a2 a3 a4 => lpN qe21 (qe15 fuel) 256 qe25 fuel ⟨[(2, .ls x3), qe20, (24, .ls a1), (207, vL a2), (208, vI a3), (209, vI a4)], [], 0, none⟩ (kont (qe15 fuel) qe16 qe17 256 (endK Tryd.prog 0 0 7))) := by kernel_rfl
noncomputable def lawToldF_s1 {R : Type} (m : List (Int × List Int)) (z n : Int) (x : List ByteArray) (q : Int) (c0 : Bool → Option R) (c1 c2 c3 c4 : List ByteArray → List ByteArray → List Int → List ByteArray → Int → Int → (List (Int × List Int)) → Option R) : Option R :=
  grd (okM (fewRS m)) <|
  br (((applyE z (fewRS m) n (fewBS x)) : Int) != 0)
    (c0 (((((applyS z (fewRS m) n (fewBS x)).length : Nat) : Int) : Int) == 0))
    (grd (okM (fewRS m) && decide ((fewRS m).length ≤ 1000)) <|
    grd (okM (fewRS m) && decide ((fewRS m).length ≤ 1000)) <|
    grd (okM (fewRS m) && decide ((fewRS m).length ≤ 1000)) <|
    grd (okM (fewRS m) && decide ((fewRS m).length ≤ 1000)) <|
    br (((if mrt z (fewRS m) = true then 0 else 1) : Int) != 0)
      (c0 false)
      (br (((knE z (fewRS m) n (applyS z (fewRS m) n (fewBS x))) : Int) != 0)
        (c0 false)
        (br (((bmayE z (fewRS m) n (applyS z (fewRS m) n (fewBS x))) : Int) != 0)
          (c0 false)
          (br (!(ftB z (fewRS m) n (applyS z (fewRS m) n (fewBS x))))
            (c0 false)
            (br (((((knA z (fewRS m) n (applyS z (fewRS m) n (fewBS x))).length : Nat) : Int) : Int) != (((knL z (fewRS m) n (applyS z (fewRS m) n (fewBS x))).length : Nat) : Int))
              (c0 false)
              (br (((((echP z (fewRS m)).length : Nat)) : Int) == z)
                (br (((slE z (fewRS m) n (applyS z (fewRS m) n (fewBS x))) : Int) != 0)
                  (c0 false)
                  (grd (decide ((slL z (fewRS m) n (applyS z (fewRS m) n (fewBS x))).length ≤ 1000000)) <|
                  br (!(eqTS (slL z (fewRS m) n (applyS z (fewRS m) n (fewBS x))) (fewBS x)))
                    (c0 false)
                    (br (!(((((echP z (fewRS m)).length : Nat)) : Int) == z))
                      (br (((slE z (fewRS m) n (applyS z (fewRS m) n (fewBS x))) : Int) != 9)
                        (c0 false)
                        (br (decide (((((slL z (fewRS m) n (applyS z (fewRS m) n (fewBS x))).length : Nat) : Int) : Int) > 0))
                          (c0 false)
                          (c1 (fewBS x) (applyS z (fewRS m) n (fewBS x)) (knA z (fewRS m) n (applyS z (fewRS m) n (fewBS x))) (knL z (fewRS m) n (applyS z (fewRS m) n (fewBS x))) (((knA z (fewRS m) n (applyS z (fewRS m) n (fewBS x))).length : Nat) : Int) 0 (fewRS m))))
                      (c2 (fewBS x) (applyS z (fewRS m) n (fewBS x)) (knA z (fewRS m) n (applyS z (fewRS m) n (fewBS x))) (knL z (fewRS m) n (applyS z (fewRS m) n (fewBS x))) (((knA z (fewRS m) n (applyS z (fewRS m) n (fewBS x))).length : Nat) : Int) 0 (fewRS m)))))
                (br (!(((((echP z (fewRS m)).length : Nat)) : Int) == z))
                  (br (((slE z (fewRS m) n (applyS z (fewRS m) n (fewBS x))) : Int) != 9)
                    (c0 false)
                    (br (decide (((((slL z (fewRS m) n (applyS z (fewRS m) n (fewBS x))).length : Nat) : Int) : Int) > 0))
                      (c0 false)
                      (c3 (fewBS x) (applyS z (fewRS m) n (fewBS x)) (knA z (fewRS m) n (applyS z (fewRS m) n (fewBS x))) (knL z (fewRS m) n (applyS z (fewRS m) n (fewBS x))) (((knA z (fewRS m) n (applyS z (fewRS m) n (fewBS x))).length : Nat) : Int) 0 (fewRS m))))
                  (c4 (fewBS x) (applyS z (fewRS m) n (fewBS x)) (knA z (fewRS m) n (applyS z (fewRS m) n (fewBS x))) (knL z (fewRS m) n (applyS z (fewRS m) n (fewBS x))) (((knA z (fewRS m) n (applyS z (fewRS m) n (fewBS x))).length : Nat) : Int) 0 (fewRS m)))))))))
theorem lawToldF_s1_eq (fuel : Nat)  (m : List (Int × List Int)) (z n : Int) (x : List ByteArray) (q : Int) : callN Tryd.prog mode23 T_bsalive fuel 7 [.agg [vI z, vR m], vI n, .ls x, vI q] [] = lawToldF_s1 m z n x q (fun a1 => some (vB a1, [])) (fun a0 a2 a3 a4 a5 a6 a7 => lpN qe22 (qe15 fuel) qe19 qe24 fuel ⟨[(1, vI n), (2, .ls a0), (3, vI q), qe23, qe20, (9, .ls a2), (15, vL a3), (16, .ls a4), (129, vL a3), (130, vI a5), (131, vI a6)], [(0, some ⟨24, .agg [vI z, vR a7], true⟩)], 1, none⟩ (kont (qe15 fuel) qe16 qe18 256 (endK Tryd.prog 0 0 7))) (fun a8 a9 a10 a11 a12 a13 a14 => lpN qe22 (qe15 fuel) qe19 qe24 fuel ⟨[(1, vI n), (2, .ls a8), (3, vI q), qe23, qe20, (9, .ls a9), (15, vL a10), (16, .ls a11), (129, vL a10), (130, vI a12), (131, vI a13)], [(0, some ⟨24, .agg [vI z, vR a14], true⟩)], 1, none⟩ (kont (qe15 fuel) qe16 qe18 256 (endK Tryd.prog 0 0 7))) (fun a15 a16 a17 a18 a19 a20 a21 => lpN qe22 (qe15 fuel) qe19 qe24 fuel ⟨[(1, vI n), (2, .ls a15), (3, vI q), qe23, qe20, (9, .ls a16), (15, vL a17), (16, .ls a18), (129, vL a17), (130, vI a19), (131, vI a20)], [(0, some ⟨24, .agg [vI z, vR a21], true⟩)], 1, none⟩ (kont (qe15 fuel) qe16 qe18 256 (endK Tryd.prog 0 0 7))) (fun a22 a23 a24 a25 a26 a27 a28 => lpN qe22 (qe15 fuel) qe19 qe24 fuel ⟨[(1, vI n), (2, .ls a22), (3, vI q), qe23, qe20, (9, .ls a23), (15, vL a24), (16, .ls a25), (129, vL a24), (130, vI a26), (131, vI a27)], [(0, some ⟨24, .agg [vI z, vR a28], true⟩)], 1, none⟩ (kont (qe15 fuel) qe16 qe18 256 (endK Tryd.prog 0 0 7))) := by kernel_rfl
noncomputable def lawToldF {R : Type} (fuel : Nat) (z : Int) (m : List (Int × List Int)) (n : Int) (x : List ByteArray) (q : Int) (r0 : Bool → Option R) : Option R :=
  (lawToldF_s1 m z n x q (fun a1 => r0 a1) (fun a0 a2 a3 a4 a5 a6 a7 => (lawToldF_l1 fuel n q z (fun x0 x1 x2 x3 => (lawToldF_s3 n x0 q x1 x2 z x3 (fun a8 => r0 a8))) (fun x4 x5 x6 x7 => (lawToldF_s4 q x5 x7 z n x6 x4 (fun a9 => r0 a9) (fun a10 a11 a12 a13 => (lawToldF_l2 fuel x4 ((lawToldF_s6 (fun a14 => r0 a14))) ((lawToldF_s7 (fun a15 => r0 a15))) fuel a10 a11 a12 a13)))) fuel a0 a2 a3 a4 a5 a6 a7)) (fun a16 a17 a18 a19 a20 a21 a22 => (lawToldF_l1 fuel n q z (fun x8 x9 x10 x11 => (lawToldF_s8 n x8 q x9 x10 z x11 (fun a23 => r0 a23))) (fun x12 x13 x14 x15 => (lawToldF_s9 q x13 x15 z n x14 x12 (fun a24 => r0 a24) (fun a25 a26 a27 a28 => (lawToldF_l2 fuel x12 ((lawToldF_s10 (fun a29 => r0 a29))) ((lawToldF_s11 (fun a30 => r0 a30))) fuel a25 a26 a27 a28)))) fuel a16 a17 a18 a19 a20 a21 a22)) (fun a31 a32 a33 a34 a35 a36 a37 => (lawToldF_l1 fuel n q z (fun x16 x17 x18 x19 => (lawToldF_s12 n x16 q x17 x18 z x19 (fun a38 => r0 a38))) (fun x20 x21 x22 x23 => (lawToldF_s13 q x21 x23 z n x22 x20 (fun a39 => r0 a39) (fun a40 a41 a42 a43 => (lawToldF_l2 fuel x20 ((lawToldF_s14 (fun a44 => r0 a44))) ((lawToldF_s15 (fun a45 => r0 a45))) fuel a40 a41 a42 a43)))) fuel a31 a32 a33 a34 a35 a36 a37)) (fun a46 a47 a48 a49 a50 a51 a52 => (lawToldF_l1 fuel n q z (fun x24 x25 x26 x27 => (lawToldF_s16 n x24 q x25 x26 z x27 (fun a53 => r0 a53))) (fun x28 x29 x30 x31 => (lawToldF_s17 q x29 x31 z n x30 x28 (fun a54 => r0 a54) (fun a55 a56 a57 a58 => (lawToldF_l2 fuel x28 ((lawToldF_s18 (fun a59 => r0 a59))) ((lawToldF_s19 (fun a60 => r0 a60))) fuel a55 a56 a57 a58)))) fuel a46 a47 a48 a49 a50 a51 a52)))
theorem lawToldF_eq (fuel : Nat) (z : Int) (m : List (Int × List Int)) (n : Int) (x : List ByteArray) (q : Int) : callN Tryd.prog mode23 T_bsalive fuel 7 [.agg [.s (.int .i64 z), .lt (.pair (.int .i64) (.sl (.int .u64))) m], .s (.int .i64 n), .ls x, .s (.int .i64 q)] [] = lawToldF fuel z m n x q (fun z0 => some (.s (.bool z0), [])) := by
  unfold lawToldF
  exact (lawToldF_s1_eq fuel  m z n x q).trans (congr (congr (congr (congr (congr (Eq.refl (lawToldF_s1 (R := Out) m z n x q)) (rfl)) (funext fun a0 => funext fun a1 => funext fun a2 => funext fun a3 => funext fun a4 => funext fun a5 => funext fun a6 => (lawToldF_l1_eq fuel n q z (kont (qe15 fuel) qe16 qe18 256 (endK Tryd.prog 0 0 7)) fuel a0 a1 a2 a3 a4 a5 a6).trans (congrFun (congrFun (congrFun (congrFun (congrFun (congrFun (congrFun (congrFun (congr (congr (Eq.refl (lawToldF_l1 (R := Out) fuel n q z)) (funext fun x0 => funext fun x1 => funext fun x2 => funext fun x3 => (lawToldF_s3_eq fuel  n x0 q x1 x2 z x3))) (funext fun x4 => funext fun x5 => funext fun x6 => funext fun x7 => (lawToldF_s4_eq fuel  q x5 x7 z n x6 x4).trans (congr (congr (Eq.refl (lawToldF_s4 (R := Out) q x5 x7 z n x6 x4)) (rfl)) (funext fun a7 => funext fun a8 => funext fun a9 => funext fun a10 => (lawToldF_l2_eq fuel x4 (kont (qe15 fuel) qe16 qe17 256 (endK Tryd.prog 0 0 7)) fuel a7 a8 a9 a10).trans (congrFun (congrFun (congrFun (congrFun (congrFun (congr (congr (Eq.refl (lawToldF_l2 (R := Out) fuel x4)) ((lawToldF_s6_eq fuel  ))) ((lawToldF_s7_eq fuel  ))) fuel) a7) a8) a9) a10))))) fuel) a0) a1) a2) a3) a4) a5) a6))) (funext fun a11 => funext fun a12 => funext fun a13 => funext fun a14 => funext fun a15 => funext fun a16 => funext fun a17 => (lawToldF_l1_eq fuel n q z (kont (qe15 fuel) qe16 qe18 256 (endK Tryd.prog 0 0 7)) fuel a11 a12 a13 a14 a15 a16 a17).trans (congrFun (congrFun (congrFun (congrFun (congrFun (congrFun (congrFun (congrFun (congr (congr (Eq.refl (lawToldF_l1 (R := Out) fuel n q z)) (funext fun x8 => funext fun x9 => funext fun x10 => funext fun x11 => (lawToldF_s8_eq fuel  n x8 q x9 x10 z x11))) (funext fun x12 => funext fun x13 => funext fun x14 => funext fun x15 => (lawToldF_s9_eq fuel  q x13 x15 z n x14 x12).trans (congr (congr (Eq.refl (lawToldF_s9 (R := Out) q x13 x15 z n x14 x12)) (rfl)) (funext fun a18 => funext fun a19 => funext fun a20 => funext fun a21 => (lawToldF_l2_eq fuel x12 (kont (qe15 fuel) qe16 qe17 256 (endK Tryd.prog 0 0 7)) fuel a18 a19 a20 a21).trans (congrFun (congrFun (congrFun (congrFun (congrFun (congr (congr (Eq.refl (lawToldF_l2 (R := Out) fuel x12)) ((lawToldF_s10_eq fuel  ))) ((lawToldF_s11_eq fuel  ))) fuel) a18) a19) a20) a21))))) fuel) a11) a12) a13) a14) a15) a16) a17))) (funext fun a22 => funext fun a23 => funext fun a24 => funext fun a25 => funext fun a26 => funext fun a27 => funext fun a28 => (lawToldF_l1_eq fuel n q z (kont (qe15 fuel) qe16 qe18 256 (endK Tryd.prog 0 0 7)) fuel a22 a23 a24 a25 a26 a27 a28).trans (congrFun (congrFun (congrFun (congrFun (congrFun (congrFun (congrFun (congrFun (congr (congr (Eq.refl (lawToldF_l1 (R := Out) fuel n q z)) (funext fun x16 => funext fun x17 => funext fun x18 => funext fun x19 => (lawToldF_s12_eq fuel  n x16 q x17 x18 z x19))) (funext fun x20 => funext fun x21 => funext fun x22 => funext fun x23 => (lawToldF_s13_eq fuel  q x21 x23 z n x22 x20).trans (congr (congr (Eq.refl (lawToldF_s13 (R := Out) q x21 x23 z n x22 x20)) (rfl)) (funext fun a29 => funext fun a30 => funext fun a31 => funext fun a32 => (lawToldF_l2_eq fuel x20 (kont (qe15 fuel) qe16 qe17 256 (endK Tryd.prog 0 0 7)) fuel a29 a30 a31 a32).trans (congrFun (congrFun (congrFun (congrFun (congrFun (congr (congr (Eq.refl (lawToldF_l2 (R := Out) fuel x20)) ((lawToldF_s14_eq fuel  ))) ((lawToldF_s15_eq fuel  ))) fuel) a29) a30) a31) a32))))) fuel) a22) a23) a24) a25) a26) a27) a28))) (funext fun a33 => funext fun a34 => funext fun a35 => funext fun a36 => funext fun a37 => funext fun a38 => funext fun a39 => (lawToldF_l1_eq fuel n q z (kont (qe15 fuel) qe16 qe18 256 (endK Tryd.prog 0 0 7)) fuel a33 a34 a35 a36 a37 a38 a39).trans (congrFun (congrFun (congrFun (congrFun (congrFun (congrFun (congrFun (congrFun (congr (congr (Eq.refl (lawToldF_l1 (R := Out) fuel n q z)) (funext fun x24 => funext fun x25 => funext fun x26 => funext fun x27 => (lawToldF_s16_eq fuel  n x24 q x25 x26 z x27))) (funext fun x28 => funext fun x29 => funext fun x30 => funext fun x31 => (lawToldF_s17_eq fuel  q x29 x31 z n x30 x28).trans (congr (congr (Eq.refl (lawToldF_s17 (R := Out) q x29 x31 z n x30 x28)) (rfl)) (funext fun a40 => funext fun a41 => funext fun a42 => funext fun a43 => (lawToldF_l2_eq fuel x28 (kont (qe15 fuel) qe16 qe17 256 (endK Tryd.prog 0 0 7)) fuel a40 a41 a42 a43).trans (congrFun (congrFun (congrFun (congrFun (congrFun (congr (congr (Eq.refl (lawToldF_l2 (R := Out) fuel x28)) ((lawToldF_s18_eq fuel  ))) ((lawToldF_s19_eq fuel  ))) fuel) a40) a41) a42) a43))))) fuel) a33) a34) a35) a36) a37) a38) a39)))
theorem lawTold_at {R : Type} (fuel : Nat) (n q z : Int) (y l : List ByteArray) (at' : List Int) (hl : at'.length ≤ 64) (hr : ∀ i, i ∈ at' → 0 ≤ i ∧ i < (y.length : Int)) (hs : at'.Pairwise (· < ·)) (u : List Rw) (k0 k1 : List ByteArray → List ByteArray → List Int → List Rw → Option R) : ∀ (k j : Nat), j ≤ at'.length → at'.length < j + k →
    lawToldF_l1 fuel n q z k0 k1 k y l at' (at'.map fun i => y.getD i.toNat ByteArray.empty) (at'.length : Int) (j : Int) u = k1 y l at' u
  | 0, j, h1, h2 => by omega
  | k + 1, j, h1, h2 => by
    unfold lawToldF_l1 lawToldF_s2
    rw [br_if]
    by_cases hc : j < at'.length
    · obtain ⟨r1, r2⟩ := hr _ (List.getElem_mem hc)
      obtain ⟨s, e1, e2⟩ := ix_map hc ⟨r1, r2⟩
      have ih := lawTold_at fuel n q z y l at' hl hr hs u k0 k1 k (j + 1) (by omega) (by omega)
      rw [if_pos (by simpa using hc), bnd_of ((ix_nat at' j).trans (List.getElem?_eq_getElem hc)), br_if, if_neg (by simp; omega), br_if, if_neg (by simp; omega), bnd_of e1, bnd_of e2, br_if, if_neg (by rw [eqS_iff.2 rfl]; decide), br_if, wrap_i64 (x := (j : Int) + 1) (by omega) (by omega), show (j : Int) + 1 = ((j + 1 : Nat) : Int) by omega]
      cases j with
      | zero => rw [if_neg (by simp)]; exact ih
      | succ i =>
        have hlt := List.pairwise_iff_getElem.1 hs i (i + 1) (by omega) hc (by omega)
        rw [if_pos (by simp), wrap_i64 (by omega) (by omega), show ((i + 1 : Nat) : Int) - 1 = (i : Int) by omega, bnd_of ((ix_nat at' i).trans (List.getElem?_eq_getElem (by omega))), br_if, if_neg (by simp; omega)]
        exact ih
    · rw [if_neg (by simpa using hc)]
theorem lawTold_few {R : Type} (fuel : Nat) (y : List ByteArray) (at' : List Int) (hl : at'.length ≤ 64) (hr : ∀ i, i ∈ at' → 0 ≤ i ∧ i < (y.length : Int)) (k0 k1 : Option R) : ∀ (k j : Nat), j ≤ at'.length → at'.length < j + k →
    lawToldF_l2 fuel y k0 k1 k (at'.map fun i => y.getD i.toNat ByteArray.empty) at' (at'.length : Int) (j : Int) = k1
  | 0, j, h1, h2 => by omega
  | k + 1, j, h1, h2 => by
    unfold lawToldF_l2 lawToldF_s5
    rw [br_if]
    by_cases hc : j < at'.length
    · obtain ⟨r1, r2⟩ := hr _ (List.getElem_mem hc)
      obtain ⟨s, e1, e2⟩ := ix_map hc ⟨r1, r2⟩
      rw [if_pos (by simpa using hc), bnd_of ((ix_nat at' j).trans (List.getElem?_eq_getElem hc)), br_if, if_neg (by simp; omega), br_if, if_neg (by simp; omega), bnd_of e1, bnd_of e2, br_if, if_neg (by rw [eqS_iff.2 rfl]; decide), wrap_i64 (by omega) (by omega), show (j : Int) + 1 = ((j + 1 : Nat) : Int) by omega]
      exact lawTold_few fuel y at' hl hr k0 k1 k (j + 1) (by omega) (by omega)
    · rw [if_neg (by simpa using hc)]
theorem lawTold_fact (z : Int) (m : List (Int × List Int)) (n : Int) (x : List ByteArray) (q : Int) (hg : (okM m) = true) : Fact Tryd.prog gTab 7 [.agg [.s (.int .i64 z), .lt (.pair (.int .i64) (.sl (.int .u64))) m], .s (.int .i64 n), .ls x, .s (.int .i64 q)] [] (.s (.bool true), []) := by
  refine callN_fact hN hM T_bsalive_ok (n := 80) (mode := mode23) ?_
  rw [lawToldF_eq]
  unfold lawToldF lawToldF_s1
  obtain ⟨hok, hlen⟩ := fewR_ok hg
  generalize fewRS m = u at *
  generalize fewBS x = y at *
  rw [grd_of hok, br_if]
  by_cases hE : applyE z u n y = 0
  · obtain ⟨hm, hz, hzn, hs, hn, hy, hx, eA⟩ := tl_basic hE
    obtain ⟨k1, k2⟩ := tl_kn hok hE
    obtain ⟨a1, a2⟩ := tl_known hok hE
    obtain ⟨r1, r2, r3⟩ := tl_rank hok hE
    have hgu : (okM u && decide (u.length ≤ 1000)) = true := by rw [hok]; simp; omega
    have hrg := fun i (h : i ∈ knA z u n (applyS z u n y)) => tl_range hok hE h
    have hrs := tl_rise hok hE
    have hal : (applyS z u n y).length = u.length := by rw [eA, List.length_map]
    have hlenA : (((((knA z u n (applyS z u n y)).length : Nat) : Int) : Int) != (((knL z u n (applyS z u n y)).length : Nat) : Int)) = false := by rw [a2, List.length_map]; simp
    have key : ∀ v94 : Int, 0 ≤ v94 → v94 < ((applyS z u n y).length : Int) + 1 → ∃ j : Nat, upTo v94 u.length = some j ∧ upTo v94 (applyS z u n y).length = some j := fun v h1 h2 => ⟨v.toNat, upTo_of h1 (by omega), upTo_of h1 (by omega)⟩
    rw [if_neg (by simp [hE]), grd_of hgu, grd_of hgu, grd_of hgu, grd_of hgu, br_if, if_pos hm, if_neg (by decide), br_if, k1, if_neg (by decide), br_if, tl_may hok hE, if_neg (by decide), br_if, k2, if_neg (by decide), hlenA, br_ff]
    have hat := fun k0 k1 => lawTold_at (R := Out) 80 n q z y (applyS z u n y) _ (by omega) hrg hrs u k0 k1 80 0 (by omega) (by omega)
    have hfw := fun (a : List Int) ha hr k0 k1 => lawTold_few (R := Out) 80 y a ha hr k0 k1 80 0 (by omega) (by omega)
    rw [show ((0 : Nat) : Int) = 0 from rfl] at hat
    simp only [show ((0 : Nat) : Int) = 0 from rfl] at hfw
    by_cases hf : (red (vals u)).length = z.toNat
    · obtain ⟨f1, f2⟩ := tl_full hok hE hf
      have hfz : ((((echP z u).length : Nat) : Int) == z) = true := by rw [beq_iff_eq]; omega
      rw [hfz, br_tt, f1, f2, br_if, if_neg (by decide), grd_of (by simp; omega), show eqTS y y = true by rw [eqTS_eq]; exact decide_eq_true rfl]
      simp only [Bool.not_true, br_ff]
      rw [a2, hat]
      unfold lawToldF_s9
      obtain ⟨v, e1, v1, v2⟩ := remT q (b := ((applyS z u n y).length : Int) + 1) (by omega)
      obtain ⟨w, e2, w1, w2⟩ := remU (a := v + ((applyS z u n y).length : Int) + 1) (b := ((applyS z u n y).length : Int) + 1) (by omega) (by omega)
      obtain ⟨j, j1, j2⟩ := key w w1 w2
      obtain ⟨t1, t2, t3, t4⟩ := tl_take hok hE j
      obtain ⟨kk1, _⟩ := tl_kn t1 t2
      obtain ⟨_, aa2⟩ := tl_known t1 t2
      obtain ⟨_, rr2, rr3⟩ := tl_rank t1 t2
      rw [wrap_i64 (x := (((applyS z u n y).length : Nat) : Int) + 1) (by omega) (by omega), bnd_of e1, wrap_i64 (x := v + (((applyS z u n y).length : Nat) : Int)) (by omega) (by omega), wrap_i64 (x := v + (((applyS z u n y).length : Nat) : Int) + 1) (by omega) (by omega), bnd_of e2, bnd_of j1, bnd_of j2, List.drop_zero, List.drop_zero, Nat.sub_zero, t3, grd_of (by rw [t1, List.length_take]; simp; omega), br_if, kk1, if_neg (by decide), br_if, if_neg (by simp; omega), aa2]
      refine (hfw _ (by omega) (fun i h => tl_range t1 t2 h) _ _).trans ?_
      rfl
    · obtain ⟨f1, f2⟩ := tl_early hok hE hf
      have hfz : ((((echP z u).length : Nat) : Int) == z) = false := by rw [beq_eq_false_iff_ne]; omega
      rw [hfz, br_ff]
      simp only [Bool.not_false, br_tt]
      rw [f1, f2, br_if, if_neg (by decide), br_if, if_neg (by decide), a2, hat]
      unfold lawToldF_s13
      obtain ⟨v, e1, v1, v2⟩ := remT q (b := ((applyS z u n y).length : Int) + 1) (by omega)
      obtain ⟨w, e2, w1, w2⟩ := remU (a := v + ((applyS z u n y).length : Int) + 1) (b := ((applyS z u n y).length : Int) + 1) (by omega) (by omega)
      obtain ⟨j, j1, j2⟩ := key w w1 w2
      obtain ⟨t1, t2, t3, t4⟩ := tl_take hok hE j
      obtain ⟨kk1, _⟩ := tl_kn t1 t2
      obtain ⟨_, aa2⟩ := tl_known t1 t2
      obtain ⟨_, rr2, rr3⟩ := tl_rank t1 t2
      rw [wrap_i64 (x := (((applyS z u n y).length : Nat) : Int) + 1) (by omega) (by omega), bnd_of e1, wrap_i64 (x := v + (((applyS z u n y).length : Nat) : Int)) (by omega) (by omega), wrap_i64 (x := v + (((applyS z u n y).length : Nat) : Int) + 1) (by omega) (by omega), bnd_of e2, bnd_of j1, bnd_of j2, List.drop_zero, List.drop_zero, Nat.sub_zero, t3, grd_of (by rw [t1, List.length_take]; simp; omega), br_if, kk1, if_neg (by decide), br_if, if_neg (by simp; omega), aa2]
      refine (hfw _ (by omega) (fun i h => tl_range t1 t2 h) _ _).trans ?_
      rfl
  · have hS : applyS z u n y = [] := by rw [applyS_eq]; unfold applyI; rw [if_neg hE]
    rw [if_pos (by simp [hE]), hS]
    rfl
noncomputable def lawTold_ent : List V → List Blk → Option (Bool × Out)
  | [.agg [.s (.int .i64 z), w0], .s (.int .i64 n), w1, .s (.int .i64 q)], [] => (asSl (.pair (.int .i64) (.sl (.int .u64))) w0).bind fun m => (asSl .str w1).bind fun x => some ((okM m), (.s (.bool true), []))
  | _, _ => none
theorem lawTold_ok : ∀ args bs out, lawTold_ent args bs = some (true, out) → Fact Tryd.prog gTab 7 args bs out := by
  intro args bs out h
  unfold lawTold_ent at h
  split at h
  · rename_i z w0 n w1 q
    obtain ⟨m, h_m, h⟩ := Option.bind_eq_some_iff.1 h
    obtain ⟨x, h_x, h⟩ := Option.bind_eq_some_iff.1 h
    simp only [Option.some.injEq, Prod.mk.injEq] at h
    obtain ⟨hg, rfl⟩ := h
    exact (lawTold_fact z m n x q hg).args (fun _ _ _ => fun _ h => RVs_two (fun _ h => RV_agg_two (fun _ h => RVs_two (fun _ h => h) (fun _ h => RVs_two (fun _ h => RV_sl (s := (.pair (.int .i64) (.sl (.int .u64)))) h_m h) (fun _ h => h) h) h) h) (fun _ h => RVs_two (fun _ h => h) (fun _ h => RVs_two (fun _ h => RV_ls h_x h) (fun _ h => h) h) h) h)
  · cases h
noncomputable def T_lawTold : Tbl := Tbl.cons 7 lawTold_ent T_bsalive
theorem T_lawTold_ok : CallOk Tryd.prog gTab T_lawTold := cons_ok T_bsalive_ok lawTold_ok
end Go.Proofs.YtfpdcfgjhkiklaaDoor
