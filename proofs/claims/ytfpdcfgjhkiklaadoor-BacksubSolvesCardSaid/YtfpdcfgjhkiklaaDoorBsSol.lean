/- Blocks that equations tell, and the documents own: the law. -/
import Derived.Test.YtfpdcfgjhkiklaaDoorPmTab
import Derived.KernelRfl
import Derived.Test.YtfpdcfgjhkiklaaDoorProg
import Derived.Test.YtfpdcfgjhkiklaaDoorSol5
set_option autoImplicit false
set_option maxRecDepth 100000
set_option maxHeartbeats 4000000
set_option linter.unusedVariables false
set_option linter.unusedSimpArgs false
namespace Go.Proofs.YtfpdcfgjhkiklaaDoor
open Go Go.PM Go.Proofs Go.Shelf Go.PM.Row Go.PM.Bits Go.PM.Bit Go.PM.Blk Go.PM.Lin
def mode25 : FuncId → Nat := fun f => 0
/-! The laws of layer 5: what they cut. -/
noncomputable def fewRI (m : List Rw) : List Rw := (m.take 66).map fun r => (r.1, r.2.take 3)
noncomputable def fewRS : List Rw → List Rw := Classical.choose (⟨fewRI, rfl⟩ : ∃ f, f = fewRI)
theorem fewRS_eq : fewRS = fewRI := Classical.choose_spec (⟨fewRI, rfl⟩ : ∃ f, f = fewRI)
noncomputable def fewBI (l : List ByteArray) : List ByteArray := (l.take 66).map fun s => s.extract 0 (min s.size 66)
noncomputable def fewBS : List ByteArray → List ByteArray := Classical.choose (⟨fewBI, rfl⟩ : ∃ f, f = fewBI)
theorem fewBS_eq : fewBS = fewBI := Classical.choose_spec (⟨fewBI, rfl⟩ : ∃ f, f = fewBI)
theorem fewR_ok {m : List Rw} (h : okM m = true) : okM (fewRS m) = true ∧ (fewRS m).length ≤ 66 := by
  rw [fewRS_eq]; unfold fewRI
  refine ⟨okM_iff.2 fun r hr => ?_, by rw [List.length_map, List.length_take]; omega⟩
  obtain ⟨x, hx, rfl⟩ := List.mem_map.1 hr
  exact okW_iff.2 (ok_take (okW_iff.1 (okM_iff.1 h _ (List.mem_of_mem_take hx))) 3)
/-! downpour/downpourlaw05.few -/
noncomputable abbrev qg0 : Nat × Option Blk := (1, some ⟨24, .agg [vI 0, vN], true⟩)
noncomputable abbrev qg1 (fuel : Nat) : Ctx Out := (fnX Tryd.prog mode25 T_r5Known fuel 60 0)
noncomputable abbrev qg2 : Code := (sub (bodyOf Tryd.prog 28) [1, 1, 1, 1, 1, 0, 1, 0, 0])
noncomputable abbrev qg3 : Nat × V := (2, .ptr 0 2 0 0)
noncomputable abbrev qg4 : Nat × Option Blk := (2, some ⟨24, .agg [vI 0, vN], true⟩)
noncomputable abbrev qg5 (z : Int) : Nat × Option Blk := (0, some ⟨24, .agg [vI z, vN], true⟩)
noncomputable abbrev qg6 (z : Int) (m : List (Int × List Int)) : Nat × Option Blk := (0, some ⟨24, .agg [vI z, vR m], true⟩)
noncomputable abbrev qg7 : Nat × V := (4, .ptr 1 2 0 0)
noncomputable abbrev qg8 : Code := (bodyOf Tryd.prog 28)
noncomputable abbrev qg9 : List Nat := [2, 4, 5, 9, 43, 44, 45]
noncomputable abbrev qg10 : Nat := 864691128455135796
noncomputable abbrev qg11 : Nat × V := (4, .ptr 2 2 0 0)
noncomputable abbrev qg12 : Code := (sub qg8 [1, 1, 0, 1, 0, 0])
noncomputable abbrev qg13 : List Nat := [1, 1, 1, 1, 1, 0, 1, 0]
noncomputable abbrev qg14 : List Nat := [1, 2, 4, 5, 6, 18, 19, 20]
noncomputable def few05F_s3 {R : Type} (w0 w3 : Int) (w2 w1 : List (Int × List Int)) (w4 : Nat) (l : List ByteArray) (z : Int) (m : List (Int × List Int)) (c0 : Nat → Int → (List (Int × List Int)) → Option R) (c1 : Nat → (List (Int × List Int)) → Option R) : Option R :=
  br (decide (w0 < w3))
    (bnd (ix w2 w0) fun e0 =>
    bnd (upTo (min ((e0.2.length : Nat) : Int) 3) e0.2.length) fun j0 =>
    grd (Nat.beq w1.length w4) <|
    grd (okN (w4 + 1) 32) <|
    c0 ((w1 ++ [(e0.1, ((e0.2.drop 0).take (j0 - 0)))]).length) (IntKind.i64.wrap (w0 + 1)) (w1 ++ [(e0.1, ((e0.2.drop 0).take (j0 - 0)))]))
    (c1 w4 w1)
theorem few05F_s3_eq (fuel k : Nat) (K : Ex → St → Option Out) (w0 w3 : Int) (w2 w1 : List (Int × List Int)) (w4 : Nat) (l : List ByteArray) (z : Int) (m : List (Int × List Int)) : lpN qg12 (qg1 fuel) 1152921367167896182 qg14 (k + 1) ⟨[(1, .ls l), qg3, qg7, (5, vN), (6, .sl 2 2 0 w4), (18, vR w2), (19, vI w3), (20, vI w0)], [(qg6 z m), qg0, (2, some ⟨44, vR w1, true⟩)], 3, none⟩ K = few05F_s3 w0 w3 w2 w1 w4 l z m (fun a0 a1 a2 => lpN qg12 (qg1 fuel) 1152921367167896182 qg14 k ⟨[(1, .ls l), qg3, qg7, (5, vN), (6, .sl 2 2 0 a0), (18, vR w2), (19, vI w3), (20, vI a1)], [(qg6 z m), qg0, (2, some ⟨44, vR a2, true⟩)], 3, none⟩ K) (fun a3 a4 => K (.exit 0) ⟨[(1, .ls l), qg3, qg7, (5, vN), (6, .sl 2 2 0 a3)], [(qg6 z m), qg0, (2, some ⟨44, vR a4, true⟩)], 3, none⟩) := by kernel_rfl
noncomputable def few05F_l2 {R : Type} (fuel : Nat) (l : List ByteArray) (w2 : List (Int × List Int)) (w3 z : Int) (m : List (Int × List Int)) (k0 : Nat → (List (Int × List Int)) → Option R) : Nat → Nat → Int → (List (Int × List Int)) → Option R
  | 0, _, _, _ => none
  | k + 1, w0, w1, w4 =>
    (few05F_s3 w1 w3 w2 w4 w0 l z m (fun a0 a1 a2 => ( few05F_l2 fuel l w2 w3 z m k0 k a0 a1 a2 )) (fun a3 a4 => k0 a3 a4))
theorem few05F_l2_eq (fuel : Nat) (l : List ByteArray) (w2 : List (Int × List Int)) (w3 z : Int) (m : List (Int × List Int)) (K : Ex → St → Option Out) : ∀ (k w0 : Nat) (w1 : Int) (w4 : List (Int × List Int)), lpN qg12 (qg1 fuel) 1152921367167896182 qg14 k ⟨[(1, .ls l), qg3, qg7, (5, vN), (6, .sl 2 2 0 w0), (18, vR w2), (19, vI w3), (20, vI w1)], [(qg6 z m), qg0, (2, some ⟨44, vR w4, true⟩)], 3, none⟩ K = few05F_l2 fuel l w2 w3 z m (fun y0 y1 => K (.exit 0) ⟨[(1, .ls l), qg3, qg7, (5, vN), (6, .sl 2 2 0 y0)], [(qg6 z m), qg0, (2, some ⟨44, vR y1, true⟩)], 3, none⟩) k w0 w1 w4
  | 0, _, _, _ => rfl
  | k + 1, w0, w1, w4 => by
    unfold few05F_l2
    exact (few05F_s3_eq fuel k K w1 w3 w2 w4 w0 l z m).trans (congr (congr (Eq.refl (few05F_s3 (R := Out) w1 w3 w2 w4 w0 l z m)) (funext fun a0 => funext fun a1 => funext fun a2 => few05F_l2_eq fuel l w2 w3 z m K k a0 a1 a2)) (rfl))
noncomputable def few05F_s2 {R : Type} (w3 : Int) (w2 : List (Int × List Int)) (l : List ByteArray) (z : Int) (m : List (Int × List Int)) (c0 : Nat → Int → (List (Int × List Int)) → Option R) (c1 : Option R) : Option R :=
  br (decide (0 < w3))
    (bnd (ix w2 0) fun e0 =>
    bnd (upTo (min ((e0.2.length : Nat) : Int) 3) e0.2.length) fun j0 =>
    c0 1 1 ([(e0.1, ((e0.2.drop 0).take (j0 - 0)))]))
    (c1)
theorem few05F_s2_eq (fuel k : Nat) (K : Ex → St → Option Out) (w3 : Int) (w2 : List (Int × List Int)) (l : List ByteArray) (z : Int) (m : List (Int × List Int)) : lpN qg12 (qg1 fuel) 1152921367167896182 qg14 (k + 1) ⟨[(1, .ls l), qg3, qg7, (5, vN), (6, vN), (18, vR w2), (19, vI w3), (20, vI 0)], [(qg6 z m), qg0], 2, none⟩ K = few05F_s2 w3 w2 l z m (fun a0 a1 a2 => lpN qg12 (qg1 fuel) 1152921367167896182 qg14 k ⟨[(1, .ls l), qg3, qg7, (5, vN), (6, .sl 2 2 0 a0), (18, vR w2), (19, vI w3), (20, vI a1)], [(qg6 z m), qg0, (2, some ⟨44, vR a2, true⟩)], 3, none⟩ K) (K (.exit 0) ⟨[(1, .ls l), qg3, qg7, (5, vN), (6, vN)], [(qg6 z m), qg0], 2, none⟩) := by kernel_rfl
noncomputable def few05F_l1 {R : Type} (fuel : Nat) (l : List ByteArray) (z : Int) (m : List (Int × List Int)) (k0 : Nat → (List (Int × List Int)) → Option R) (k1 : Option R) : Nat → (List (Int × List Int)) → Int → Option R
  | 0, _, _ => none
  | k + 1, w2, w3 =>
    (few05F_s2 w3 w2 l z m (fun a0 a1 a2 => (few05F_l2 fuel l w2 w3 z m (fun x0 x1 => k0 x0 x1) k a0 a1 a2)) (k1))
theorem few05F_l1_eq (fuel : Nat) (l : List ByteArray) (z : Int) (m : List (Int × List Int)) (K : Ex → St → Option Out) : ∀ (k : Nat) (w2 : List (Int × List Int)) (w3 : Int), lpN qg12 (qg1 fuel) 1152921367167896182 qg14 k ⟨[(1, .ls l), qg3, qg7, (5, vN), (6, vN), (18, vR w2), (19, vI w3), (20, vI 0)], [(qg6 z m), qg0], 2, none⟩ K = few05F_l1 fuel l z m (fun y0 y1 => K (.exit 0) ⟨[(1, .ls l), qg3, qg7, (5, vN), (6, .sl 2 2 0 y0)], [(qg6 z m), qg0, (2, some ⟨44, vR y1, true⟩)], 3, none⟩) (K (.exit 0) ⟨[(1, .ls l), qg3, qg7, (5, vN), (6, vN)], [(qg6 z m), qg0], 2, none⟩) k w2 w3
  | 0, _, _ => rfl
  | k + 1, w2, w3 => by
    unfold few05F_l1
    exact (few05F_s2_eq fuel k K w3 w2 l z m).trans (congr (congr (Eq.refl (few05F_s2 (R := Out) w3 w2 l z m)) (funext fun a0 => funext fun a1 => funext fun a2 => few05F_l2_eq fuel l w2 w3 z m K k a0 a1 a2)) (rfl))
noncomputable def few05F_s6 {R : Type} (w0 w1 : Int) (w2 w3 : List ByteArray) (w4 : Nat) (z : Int) (x0 : Nat) (x1 : List (Int × List Int)) (c0 : Nat → Int → List ByteArray → Option R) (c1 : Nat → List ByteArray → Option R) : Option R :=
  br (decide (w0 < w1))
    (bnd (ix w2 w0) fun e0 =>
    bnd (upTo (min ((e0.size : Nat) : Int) 66) e0.size) fun j0 =>
    grd (Nat.beq w3.length w4) <|
    grd (okN (w4 + 1) 16) <|
    c0 ((w3 ++ [(e0.extract 0 j0)]).length) (IntKind.i64.wrap (w0 + 1)) (w3 ++ [(e0.extract 0 j0)]))
    (c1 w4 w3)
theorem few05F_s6_eq (fuel k : Nat) (K : Ex → St → Option Out) (w0 w1 : Int) (w2 w3 : List ByteArray) (w4 : Nat) (z : Int) (x0 : Nat) (x1 : List (Int × List Int)) : lpN qg2 (qg1 fuel) qg10 qg9 (k + 1) ⟨[qg3, qg11, (5, vN), (9, .sl 3 1 0 w4), (43, .ls w2), (44, vI w1), (45, vI w0)], [(0, some ⟨24, .agg [vI z, .sl 1 2 0 x0], true⟩), (1, some ⟨44, vR x1, true⟩), qg4, (3, some ⟨9, .ls w3, true⟩)], 4, none⟩ K = few05F_s6 w0 w1 w2 w3 w4 z x0 x1 (fun a0 a1 a2 => lpN qg2 (qg1 fuel) qg10 qg9 k ⟨[qg3, qg11, (5, vN), (9, .sl 3 1 0 a0), (43, .ls w2), (44, vI w1), (45, vI a1)], [(0, some ⟨24, .agg [vI z, .sl 1 2 0 x0], true⟩), (1, some ⟨44, vR x1, true⟩), qg4, (3, some ⟨9, .ls a2, true⟩)], 4, none⟩ K) (fun a3 a4 => K (.exit 2) ⟨[qg3, qg11, (5, vN), (9, .sl 3 1 0 a3)], [(0, some ⟨24, .agg [vI z, .sl 1 2 0 x0], true⟩), (1, some ⟨44, vR x1, true⟩), qg4, (3, some ⟨9, .ls a4, true⟩)], 4, none⟩) := by kernel_rfl
noncomputable def few05F_l4 {R : Type} (fuel : Nat) (w0 : List ByteArray) (w1 z : Int) (x0 : Nat) (x1 : List (Int × List Int)) (k0 : Nat → List ByteArray → Option R) : Nat → Nat → Int → List ByteArray → Option R
  | 0, _, _, _ => none
  | k + 1, w2, w3, w4 =>
    (few05F_s6 w3 w1 w0 w4 w2 z x0 x1 (fun a0 a1 a2 => ( few05F_l4 fuel w0 w1 z x0 x1 k0 k a0 a1 a2 )) (fun a3 a4 => k0 a3 a4))
theorem few05F_l4_eq (fuel : Nat) (w0 : List ByteArray) (w1 z : Int) (x0 : Nat) (x1 : List (Int × List Int)) (K : Ex → St → Option Out) : ∀ (k w2 : Nat) (w3 : Int) (w4 : List ByteArray), lpN qg2 (qg1 fuel) qg10 qg9 k ⟨[qg3, qg11, (5, vN), (9, .sl 3 1 0 w2), (43, .ls w0), (44, vI w1), (45, vI w3)], [(0, some ⟨24, .agg [vI z, .sl 1 2 0 x0], true⟩), (1, some ⟨44, vR x1, true⟩), qg4, (3, some ⟨9, .ls w4, true⟩)], 4, none⟩ K = few05F_l4 fuel w0 w1 z x0 x1 (fun y0 y1 => K (.exit 2) ⟨[qg3, qg11, (5, vN), (9, .sl 3 1 0 y0)], [(0, some ⟨24, .agg [vI z, .sl 1 2 0 x0], true⟩), (1, some ⟨44, vR x1, true⟩), qg4, (3, some ⟨9, .ls y1, true⟩)], 4, none⟩) k w2 w3 w4
  | 0, _, _, _ => rfl
  | k + 1, w2, w3, w4 => by
    unfold few05F_l4
    exact (few05F_s6_eq fuel k K w3 w1 w0 w4 w2 z x0 x1).trans (congr (congr (Eq.refl (few05F_s6 (R := Out) w3 w1 w0 w4 w2 z x0 x1)) (funext fun a0 => funext fun a1 => funext fun a2 => few05F_l4_eq fuel w0 w1 z x0 x1 K k a0 a1 a2)) (rfl))
noncomputable def few05F_s5 {R : Type} (w0 : Int) (w1 : List ByteArray) (z : Int) (x0 : Nat) (x1 : List (Int × List Int)) (c0 : Nat → Int → List ByteArray → Option R) (c1 : Option R) : Option R :=
  br (decide (0 < w0))
    (bnd (ix w1 0) fun e0 =>
    bnd (upTo (min ((e0.size : Nat) : Int) 66) e0.size) fun j0 =>
    c0 1 1 ([(e0.extract 0 j0)]))
    (c1)
theorem few05F_s5_eq (fuel k : Nat) (K : Ex → St → Option Out) (w0 : Int) (w1 : List ByteArray) (z : Int) (x0 : Nat) (x1 : List (Int × List Int)) : lpN qg2 (qg1 fuel) qg10 qg9 (k + 1) ⟨[qg3, qg11, (5, vN), (9, vN), (43, .ls w1), (44, vI w0), (45, vI 0)], [(0, some ⟨24, .agg [vI z, .sl 1 2 0 x0], true⟩), (1, some ⟨44, vR x1, true⟩), qg4], 3, none⟩ K = few05F_s5 w0 w1 z x0 x1 (fun a0 a1 a2 => lpN qg2 (qg1 fuel) qg10 qg9 k ⟨[qg3, qg11, (5, vN), (9, .sl 3 1 0 a0), (43, .ls w1), (44, vI w0), (45, vI a1)], [(0, some ⟨24, .agg [vI z, .sl 1 2 0 x0], true⟩), (1, some ⟨44, vR x1, true⟩), qg4, (3, some ⟨9, .ls a2, true⟩)], 4, none⟩ K) (K (.exit 2) ⟨[qg3, qg11, (5, vN), (9, vN)], [(0, some ⟨24, .agg [vI z, .sl 1 2 0 x0], true⟩), (1, some ⟨44, vR x1, true⟩), qg4], 3, none⟩) := by kernel_rfl
noncomputable def few05F_l3 {R : Type} (fuel : Nat) (z : Int) (x0 : Nat) (x1 : List (Int × List Int)) (k0 : Nat → List ByteArray → Option R) (k1 : Option R) : Nat → List ByteArray → Int → Option R
  | 0, _, _ => none
  | k + 1, w0, w1 =>
    (few05F_s5 w1 w0 z x0 x1 (fun a0 a1 a2 => (few05F_l4 fuel w0 w1 z x0 x1 (fun x2 x3 => k0 x2 x3) k a0 a1 a2)) (k1))
theorem few05F_l3_eq (fuel : Nat) (z : Int) (x0 : Nat) (x1 : List (Int × List Int)) (K : Ex → St → Option Out) : ∀ (k : Nat) (w0 : List ByteArray) (w1 : Int), lpN qg2 (qg1 fuel) qg10 qg9 k ⟨[qg3, qg11, (5, vN), (9, vN), (43, .ls w0), (44, vI w1), (45, vI 0)], [(0, some ⟨24, .agg [vI z, .sl 1 2 0 x0], true⟩), (1, some ⟨44, vR x1, true⟩), qg4], 3, none⟩ K = few05F_l3 fuel z x0 x1 (fun y0 y1 => K (.exit 2) ⟨[qg3, qg11, (5, vN), (9, .sl 3 1 0 y0)], [(0, some ⟨24, .agg [vI z, .sl 1 2 0 x0], true⟩), (1, some ⟨44, vR x1, true⟩), qg4, (3, some ⟨9, .ls y1, true⟩)], 4, none⟩) (K (.exit 2) ⟨[qg3, qg11, (5, vN), (9, vN)], [(0, some ⟨24, .agg [vI z, .sl 1 2 0 x0], true⟩), (1, some ⟨44, vR x1, true⟩), qg4], 3, none⟩) k w0 w1
  | 0, _, _ => rfl
  | k + 1, w0, w1 => by
    unfold few05F_l3
    exact (few05F_s5_eq fuel k K w1 w0 z x0 x1).trans (congr (congr (Eq.refl (few05F_s5 (R := Out) w1 w0 z x0 x1)) (funext fun a0 => funext fun a1 => funext fun a2 => few05F_l4_eq fuel w0 w1 z x0 x1 K k a0 a1 a2)) (rfl))
noncomputable def few05F_s7 {R : Type} (z : Int) (x0 : List (Int × List Int)) (x1 : Nat) (x2 : List ByteArray) (x3 : Nat) (c0 : Int → (List (Int × List Int)) → List ByteArray → Option R) : Option R :=
  c0 z ((x0.drop 0).take x1) ((x2.drop 0).take x3)
theorem few05F_s7_eq (fuel : Nat)  (z : Int) (x0 : List (Int × List Int)) (x1 : Nat) (x2 : List ByteArray) (x3 : Nat) : (kont (qg1 fuel) qg8 qg13 48 (endK Tryd.prog 0 0 28)) (.exit 2) ⟨[qg3, qg11, (5, vN), (9, .sl 3 1 0 x3)], [(0, some ⟨24, .agg [vI z, .sl 1 2 0 x1], true⟩), (1, some ⟨44, vR x0, true⟩), qg4, (3, some ⟨9, .ls x2, true⟩)], 4, none⟩ = few05F_s7 z x0 x1 x2 x3 (fun a0 a1 a2 => some (.tup [.agg [vI a0, vR a1], .ls a2], [])) := by kernel_rfl
noncomputable def few05F_s8 {R : Type} (z : Int) (x0 : List (Int × List Int)) (x1 : Nat) (c0 : Int → (List (Int × List Int)) → Option R) : Option R :=
  c0 z ((x0.drop 0).take x1)
theorem few05F_s8_eq (fuel : Nat)  (z : Int) (x0 : List (Int × List Int)) (x1 : Nat) : (kont (qg1 fuel) qg8 qg13 48 (endK Tryd.prog 0 0 28)) (.exit 2) ⟨[qg3, qg11, (5, vN), (9, vN)], [(0, some ⟨24, .agg [vI z, .sl 1 2 0 x1], true⟩), (1, some ⟨44, vR x0, true⟩), qg4], 3, none⟩ = few05F_s8 z x0 x1 (fun a0 a1 => some (.tup [.agg [vI a0, vR a1], vN], [])) := by kernel_rfl
noncomputable def few05F_s4 {R : Type} (l : List ByteArray) (x0 : Nat) (z : Int) (m x1 : List (Int × List Int)) (c0 : List ByteArray → Int → Option R) : Option R :=
  bnd (upTo (min ((l.length : Nat) : Int) 66) l.length) fun j0 =>
  c0 ((l.drop 0).take (j0 - 0)) ((((l.drop 0).take (j0 - 0)).length : Nat) : Int)
theorem few05F_s4_eq (fuel : Nat)  (l : List ByteArray) (x0 : Nat) (z : Int) (m x1 : List (Int × List Int)) : (kont (qg1 fuel) qg8 [1, 1, 0, 1, 0] 48 (endK Tryd.prog 0 0 28)) (.exit 0) ⟨[(1, .ls l), qg3, qg7, (5, vN), (6, .sl 2 2 0 x0)], [(qg6 z m), qg0, (2, some ⟨44, vR x1, true⟩)], 3, none⟩ = few05F_s4 l x0 z m x1 (fun a0 a1 => lpN qg2 (qg1 fuel) qg10 qg9 fuel ⟨[qg3, qg11, (5, vN), (9, vN), (43, .ls a0), (44, vI a1), (45, vI 0)], [(0, some ⟨24, .agg [vI z, .sl 1 2 0 x0], true⟩), (1, some ⟨44, vR x1, true⟩), qg4], 3, none⟩ (kont (qg1 fuel) qg8 qg13 48 (endK Tryd.prog 0 0 28))) := by kernel_rfl
noncomputable def few05F_s11 {R : Type} (w0 w1 : Int) (w2 w3 : List ByteArray) (w4 : Nat) (z : Int) (c0 : Nat → Int → List ByteArray → Option R) (c1 : Nat → List ByteArray → Option R) : Option R :=
  br (decide (w0 < w1))
    (bnd (ix w2 w0) fun e0 =>
    bnd (upTo (min ((e0.size : Nat) : Int) 66) e0.size) fun j0 =>
    grd (Nat.beq w3.length w4) <|
    grd (okN (w4 + 1) 16) <|
    c0 ((w3 ++ [(e0.extract 0 j0)]).length) (IntKind.i64.wrap (w0 + 1)) (w3 ++ [(e0.extract 0 j0)]))
    (c1 w4 w3)
theorem few05F_s11_eq (fuel k : Nat) (K : Ex → St → Option Out) (w0 w1 : Int) (w2 w3 : List ByteArray) (w4 : Nat) (z : Int) : lpN qg2 (qg1 fuel) qg10 qg9 (k + 1) ⟨[qg3, qg7, (5, vN), (9, .sl 2 1 0 w4), (43, .ls w2), (44, vI w1), (45, vI w0)], [(qg5 z), qg0, (2, some ⟨9, .ls w3, true⟩)], 3, none⟩ K = few05F_s11 w0 w1 w2 w3 w4 z (fun a0 a1 a2 => lpN qg2 (qg1 fuel) qg10 qg9 k ⟨[qg3, qg7, (5, vN), (9, .sl 2 1 0 a0), (43, .ls w2), (44, vI w1), (45, vI a1)], [(qg5 z), qg0, (2, some ⟨9, .ls a2, true⟩)], 3, none⟩ K) (fun a3 a4 => K (.exit 2) ⟨[qg3, qg7, (5, vN), (9, .sl 2 1 0 a3)], [(qg5 z), qg0, (2, some ⟨9, .ls a4, true⟩)], 3, none⟩) := by kernel_rfl
noncomputable def few05F_l6 {R : Type} (fuel : Nat) (w0 : List ByteArray) (w1 z : Int) (k0 : Nat → List ByteArray → Option R) : Nat → Nat → Int → List ByteArray → Option R
  | 0, _, _, _ => none
  | k + 1, w2, w3, w4 =>
    (few05F_s11 w3 w1 w0 w4 w2 z (fun a0 a1 a2 => ( few05F_l6 fuel w0 w1 z k0 k a0 a1 a2 )) (fun a3 a4 => k0 a3 a4))
theorem few05F_l6_eq (fuel : Nat) (w0 : List ByteArray) (w1 z : Int) (K : Ex → St → Option Out) : ∀ (k w2 : Nat) (w3 : Int) (w4 : List ByteArray), lpN qg2 (qg1 fuel) qg10 qg9 k ⟨[qg3, qg7, (5, vN), (9, .sl 2 1 0 w2), (43, .ls w0), (44, vI w1), (45, vI w3)], [(qg5 z), qg0, (2, some ⟨9, .ls w4, true⟩)], 3, none⟩ K = few05F_l6 fuel w0 w1 z (fun y0 y1 => K (.exit 2) ⟨[qg3, qg7, (5, vN), (9, .sl 2 1 0 y0)], [(qg5 z), qg0, (2, some ⟨9, .ls y1, true⟩)], 3, none⟩) k w2 w3 w4
  | 0, _, _, _ => rfl
  | k + 1, w2, w3, w4 => by
    unfold few05F_l6
    exact (few05F_s11_eq fuel k K w3 w1 w0 w4 w2 z).trans (congr (congr (Eq.refl (few05F_s11 (R := Out) w3 w1 w0 w4 w2 z)) (funext fun a0 => funext fun a1 => funext fun a2 => few05F_l6_eq fuel w0 w1 z K k a0 a1 a2)) (rfl))
noncomputable def few05F_s10 {R : Type} (w0 : Int) (w1 : List ByteArray) (z : Int) (c0 : Nat → Int → List ByteArray → Option R) (c1 : Option R) : Option R :=
  br (decide (0 < w0))
    (bnd (ix w1 0) fun e0 =>
    bnd (upTo (min ((e0.size : Nat) : Int) 66) e0.size) fun j0 =>
    c0 1 1 ([(e0.extract 0 j0)]))
    (c1)
theorem few05F_s10_eq (fuel k : Nat) (K : Ex → St → Option Out) (w0 : Int) (w1 : List ByteArray) (z : Int) : lpN qg2 (qg1 fuel) qg10 qg9 (k + 1) ⟨[qg3, qg7, (5, vN), (9, vN), (43, .ls w1), (44, vI w0), (45, vI 0)], [(qg5 z), qg0], 2, none⟩ K = few05F_s10 w0 w1 z (fun a0 a1 a2 => lpN qg2 (qg1 fuel) qg10 qg9 k ⟨[qg3, qg7, (5, vN), (9, .sl 2 1 0 a0), (43, .ls w1), (44, vI w0), (45, vI a1)], [(qg5 z), qg0, (2, some ⟨9, .ls a2, true⟩)], 3, none⟩ K) (K (.exit 2) ⟨[qg3, qg7, (5, vN), (9, vN)], [(qg5 z), qg0], 2, none⟩) := by kernel_rfl
noncomputable def few05F_l5 {R : Type} (fuel : Nat) (z : Int) (k0 : Nat → List ByteArray → Option R) (k1 : Option R) : Nat → List ByteArray → Int → Option R
  | 0, _, _ => none
  | k + 1, w0, w1 =>
    (few05F_s10 w1 w0 z (fun a0 a1 a2 => (few05F_l6 fuel w0 w1 z (fun x0 x1 => k0 x0 x1) k a0 a1 a2)) (k1))
theorem few05F_l5_eq (fuel : Nat) (z : Int) (K : Ex → St → Option Out) : ∀ (k : Nat) (w0 : List ByteArray) (w1 : Int), lpN qg2 (qg1 fuel) qg10 qg9 k ⟨[qg3, qg7, (5, vN), (9, vN), (43, .ls w0), (44, vI w1), (45, vI 0)], [(qg5 z), qg0], 2, none⟩ K = few05F_l5 fuel z (fun y0 y1 => K (.exit 2) ⟨[qg3, qg7, (5, vN), (9, .sl 2 1 0 y0)], [(qg5 z), qg0, (2, some ⟨9, .ls y1, true⟩)], 3, none⟩) (K (.exit 2) ⟨[qg3, qg7, (5, vN), (9, vN)], [(qg5 z), qg0], 2, none⟩) k w0 w1
  | 0, _, _ => rfl
  | k + 1, w0, w1 => by
    unfold few05F_l5
    exact (few05F_s10_eq fuel k K w1 w0 z).trans (congr (congr (Eq.refl (few05F_s10 (R := Out) w1 w0 z)) (funext fun a0 => funext fun a1 => funext fun a2 => few05F_l6_eq fuel w0 w1 z K k a0 a1 a2)) (rfl))
noncomputable def few05F_s12 {R : Type} (z : Int) (x0 : List ByteArray) (x1 : Nat) (c0 : Int → List ByteArray → Option R) : Option R :=
  c0 z ((x0.drop 0).take x1)
theorem few05F_s12_eq (fuel : Nat)  (z : Int) (x0 : List ByteArray) (x1 : Nat) : (kont (qg1 fuel) qg8 qg13 48 (endK Tryd.prog 0 0 28)) (.exit 2) ⟨[qg3, qg7, (5, vN), (9, .sl 2 1 0 x1)], [(qg5 z), qg0, (2, some ⟨9, .ls x0, true⟩)], 3, none⟩ = few05F_s12 z x0 x1 (fun a0 a1 => some (.tup [.agg [vI a0, vN], .ls a1], [])) := by kernel_rfl
noncomputable def few05F_s13 {R : Type} (z : Int) (c0 : Int → Option R) : Option R :=
  c0 z
theorem few05F_s13_eq (fuel : Nat)  (z : Int) : (kont (qg1 fuel) qg8 qg13 48 (endK Tryd.prog 0 0 28)) (.exit 2) ⟨[qg3, qg7, (5, vN), (9, vN)], [(qg5 z), qg0], 2, none⟩ = few05F_s13 z (fun a0 => some (.tup [.agg [vI a0, vN], vN], [])) := by kernel_rfl
noncomputable def few05F_s9 {R : Type} (l : List ByteArray) (z : Int) (m : List (Int × List Int)) (c0 : List ByteArray → Int → Option R) : Option R :=
  bnd (upTo (min ((l.length : Nat) : Int) 66) l.length) fun j0 =>
  c0 ((l.drop 0).take (j0 - 0)) ((((l.drop 0).take (j0 - 0)).length : Nat) : Int)
theorem few05F_s9_eq (fuel : Nat)  (l : List ByteArray) (z : Int) (m : List (Int × List Int)) : (kont (qg1 fuel) qg8 [1, 1, 0, 1, 0] 48 (endK Tryd.prog 0 0 28)) (.exit 0) ⟨[(1, .ls l), qg3, qg7, (5, vN), (6, vN)], [(qg6 z m), qg0], 2, none⟩ = few05F_s9 l z m (fun a0 a1 => lpN qg2 (qg1 fuel) qg10 qg9 fuel ⟨[qg3, qg7, (5, vN), (9, vN), (43, .ls a0), (44, vI a1), (45, vI 0)], [(qg5 z), qg0], 2, none⟩ (kont (qg1 fuel) qg8 qg13 48 (endK Tryd.prog 0 0 28))) := by kernel_rfl
noncomputable def few05F_s1 {R : Type} (m : List (Int × List Int)) (z : Int) (l : List ByteArray) (c0 : (List (Int × List Int)) → Int → Option R) : Option R :=
  bnd (upTo (min ((m.length : Nat) : Int) 66) m.length) fun j1 =>
  c0 ((m.drop 0).take (j1 - 0)) ((((m.drop 0).take (j1 - 0)).length : Nat) : Int)
theorem few05F_s1_eq (fuel : Nat)  (m : List (Int × List Int)) (z : Int) (l : List ByteArray) : callN Tryd.prog mode25 T_r5Known fuel 28 [.agg [vI z, vR m], .ls l] [] = few05F_s1 m z l (fun a0 a1 => lpN qg12 (qg1 fuel) 1152921367167896182 qg14 fuel ⟨[(1, .ls l), qg3, qg7, (5, vN), (6, vN), (18, vR a0), (19, vI a1), (20, vI 0)], [(qg6 z m), qg0], 2, none⟩ (kont (qg1 fuel) qg8 [1, 1, 0, 1, 0] 48 (endK Tryd.prog 0 0 28))) := by kernel_rfl
noncomputable def few05F {R : Type} (fuel : Nat) (z : Int) (m : List (Int × List Int)) (l : List ByteArray) (r0 : Int → (List (Int × List Int)) → List ByteArray → Option R) (r1 : Int → (List (Int × List Int)) → Option R) (r2 : Int → List ByteArray → Option R) (r3 : Int → Option R) : Option R :=
  (few05F_s1 m z l (fun a0 a1 => (few05F_l1 fuel l z m (fun x0 x1 => (few05F_s4 l x0 z m x1 (fun a2 a3 => (few05F_l3 fuel z x0 x1 (fun x2 x3 => (few05F_s7 z x1 x0 x3 x2 (fun a4 a5 a6 => r0 a4 a5 a6))) ((few05F_s8 z x1 x0 (fun a7 a8 => r1 a7 a8))) fuel a2 a3)))) ((few05F_s9 l z m (fun a9 a10 => (few05F_l5 fuel z (fun x4 x5 => (few05F_s12 z x5 x4 (fun a11 a12 => r2 a11 a12))) ((few05F_s13 z (fun a13 => r3 a13))) fuel a9 a10)))) fuel a0 a1)))
theorem few05F_eq (fuel : Nat) (z : Int) (m : List (Int × List Int)) (l : List ByteArray) : callN Tryd.prog mode25 T_r5Known fuel 28 [.agg [.s (.int .i64 z), .lt (.pair (.int .i64) (.sl (.int .u64))) m], .ls l] [] = few05F fuel z m l (fun z0 z1 z2 => some (.tup [.agg [.s (.int .i64 z0), .lt (.pair (.int .i64) (.sl (.int .u64))) z1], .ls z2], [])) (fun z0 z1 => some (.tup [.agg [.s (.int .i64 z0), .lt (.pair (.int .i64) (.sl (.int .u64))) z1], .s (.slice none 0 0)], [])) (fun z0 z1 => some (.tup [.agg [.s (.int .i64 z0), .s (.slice none 0 0)], .ls z1], [])) (fun z0 => some (.tup [.agg [.s (.int .i64 z0), .s (.slice none 0 0)], .s (.slice none 0 0)], [])) := by
  unfold few05F
  exact (few05F_s1_eq fuel  m z l).trans (congr (Eq.refl (few05F_s1 (R := Out) m z l)) (funext fun a0 => funext fun a1 => (few05F_l1_eq fuel l z m (kont (qg1 fuel) qg8 [1, 1, 0, 1, 0] 48 (endK Tryd.prog 0 0 28)) fuel a0 a1).trans (congrFun (congrFun (congrFun (congr (congr (Eq.refl (few05F_l1 (R := Out) fuel l z m)) (funext fun x0 => funext fun x1 => (few05F_s4_eq fuel  l x0 z m x1).trans (congr (Eq.refl (few05F_s4 (R := Out) l x0 z m x1)) (funext fun a2 => funext fun a3 => (few05F_l3_eq fuel z x0 x1 (kont (qg1 fuel) qg8 qg13 48 (endK Tryd.prog 0 0 28)) fuel a2 a3).trans (congrFun (congrFun (congrFun (congr (congr (Eq.refl (few05F_l3 (R := Out) fuel z x0 x1)) (funext fun x2 => funext fun x3 => (few05F_s7_eq fuel  z x1 x0 x3 x2))) ((few05F_s8_eq fuel  z x1 x0))) fuel) a2) a3))))) ((few05F_s9_eq fuel  l z m).trans (congr (Eq.refl (few05F_s9 (R := Out) l z m)) (funext fun a4 => funext fun a5 => (few05F_l5_eq fuel z (kont (qg1 fuel) qg8 qg13 48 (endK Tryd.prog 0 0 28)) fuel a4 a5).trans (congrFun (congrFun (congrFun (congr (congr (Eq.refl (few05F_l5 (R := Out) fuel z)) (funext fun x4 => funext fun x5 => (few05F_s12_eq fuel  z x5 x4))) ((few05F_s13_eq fuel  z))) fuel) a4) a5))))) fuel) a0) a1)))
theorem cut3_of (r : Rw) : (r.1, (r.2.drop 0).take (min r.2.length 3 - 0)) = (r.1, r.2.take 3) := by
  rw [List.drop_zero, Nat.sub_zero]
  by_cases h : r.2.length ≤ 3
  · rw [Nat.min_eq_left h, List.take_length, List.take_of_length_le h]
  · rw [Nat.min_eq_right (by omega)]
theorem up_to (n : Nat) (k : Nat) {c : Int} (h : c = (k : Int)) : upTo (min ((n : Nat) : Int) c) n = some (min n k) := by subst h; rw [upTo_of (by omega) (by omega)]; congr 1; omega
theorem take_to {α : Type} (l : List α) (k : Nat) : (l.drop 0).take (min l.length k - 0) = l.take k := by
  rw [List.drop_zero, Nat.sub_zero]
  by_cases h : l.length ≤ k
  · rw [Nat.min_eq_left h, List.take_length, List.take_of_length_le h]
  · rw [Nat.min_eq_right (by omega)]
theorem few05_rows {R : Type} (fuel : Nat) (l : List ByteArray) (w : List Rw) (hw : w.length ≤ 66) (z : Int) (m : List Rw) (k0 : Nat → List Rw → Option R) : ∀ (k j : Nat) (acc : List Rw), j ≤ w.length → w.length < j + k → acc.length ≤ j →
    few05F_l2 fuel l w (w.length : Int) z m k0 k acc.length (j : Int) acc = k0 (acc ++ (w.drop j).map (fun r => (r.1, r.2.take 3))).length (acc ++ (w.drop j).map (fun r => (r.1, r.2.take 3)))
  | 0, j, acc, h1, h2, _ => by omega
  | k + 1, j, acc, h1, h2, ha => by
    unfold few05F_l2 few05F_s3
    rw [br_if]
    by_cases hc : j < w.length
    · rw [if_pos (by simpa using hc), bnd_of ((ix_nat w j).trans (List.getElem?_eq_getElem hc)), bnd_of (up_to _ 3 (c := 3) rfl), grd_of (beq_self _), grd_of (okN_of (by omega) (by omega)), cut3_of, wrap_i64 (by omega) (by omega), show (j : Int) + 1 = ((j + 1 : Nat) : Int) by omega, List.drop_eq_getElem_cons hc, List.map_cons]
      have := few05_rows fuel l w hw z m k0 k (j + 1) (acc ++ [((w[j]).1, (w[j]).2.take 3)]) (by omega) (by omega) (by simp; omega)
      rw [List.append_assoc] at this
      exact this
    · rw [if_neg (by simpa using hc), List.drop_eq_nil_of_le (by omega)]
      simp
theorem few05_rows1 {R : Type} (fuel : Nat) (l : List ByteArray) (w : List Rw) (hw : w.length ≤ 66) (z : Int) (m : List Rw) (k0 : Nat → List Rw → Option R) (k1 : Option R) (k : Nat) (hk : w.length + 1 < k) :
    few05F_l1 fuel l z m k0 k1 k w (w.length : Int) = if w.length = 0 then k1 else k0 (w.map (fun r => (r.1, r.2.take 3))).length (w.map (fun r => (r.1, r.2.take 3))) := by
  cases k with
  | zero => omega
  | succ k =>
    unfold few05F_l1 few05F_s2
    dsimp only
    rw [br_if]
    by_cases hy : 0 < w.length
    · have e0 : ix w 0 = some w[0] := (ix_nat w 0).trans (List.getElem?_eq_getElem hy)
      rw [if_pos (by simpa using hy), if_neg (by omega), bnd_of e0, bnd_of (up_to _ 3 (c := 3) rfl), cut3_of]
      have ho := few05_rows (R := R) fuel l w hw z m k0 k 1 [((w[0]).1, (w[0]).2.take 3)] (by omega) (by omega) (by simp)
      have hy1 : [((w[0]).1, (w[0]).2.take 3)] ++ (w.drop 1).map (fun r => (r.1, r.2.take 3)) = w.map (fun r => (r.1, r.2.take 3)) := by
        cases w with
        | nil => simp at hy
        | cons a t => rfl
      rw [hy1] at ho
      exact ho
    · rw [if_neg (by simpa using hy), if_pos (by omega)]
theorem few05_bA {R : Type} (fuel : Nat) (z : Int) (x44 : Nat) (x45 : List Rw) (w : List ByteArray) (hw : w.length ≤ 66) (k0 : Nat → List ByteArray → Option R) : ∀ (k j : Nat) (acc : List ByteArray), j ≤ w.length → w.length < j + k → acc.length ≤ j →
    few05F_l4 fuel w (w.length : Int) z x44 x45 k0 k acc.length (j : Int) acc = k0 (acc ++ (w.drop j).map (fun s : ByteArray => s.extract 0 (min s.size 66))).length (acc ++ (w.drop j).map (fun s : ByteArray => s.extract 0 (min s.size 66)))
  | 0, j, acc, h1, h2, _ => by omega
  | k + 1, j, acc, h1, h2, ha => by
    unfold few05F_l4 few05F_s6
    rw [br_if]
    by_cases hc : j < w.length
    · rw [if_pos (by simpa using hc), bnd_of ((ix_nat w j).trans (List.getElem?_eq_getElem hc)), bnd_of (up_to _ 66 (c := 66) rfl), grd_of (beq_self _), grd_of (okN_of (by omega) (by omega)), wrap_i64 (by omega) (by omega), show (j : Int) + 1 = ((j + 1 : Nat) : Int) by omega, List.drop_eq_getElem_cons hc, List.map_cons]
      have := few05_bA fuel z x44 x45 w hw k0 k (j + 1) (acc ++ [(w[j]).extract 0 (min (w[j]).size 66)]) (by omega) (by omega) (by simp; omega)
      rw [List.append_assoc] at this
      exact this
    · rw [if_neg (by simpa using hc), List.drop_eq_nil_of_le (by omega)]
      simp
theorem few05_bA1 {R : Type} (fuel : Nat) (z : Int) (x44 : Nat) (x45 : List Rw) (w : List ByteArray) (hw : w.length ≤ 66) (k0 : Nat → List ByteArray → Option R) (k1 : Option R) (k : Nat) (hk : w.length + 1 < k) :
    few05F_l3 fuel z x44 x45 k0 k1 k w (w.length : Int) = if w.length = 0 then k1 else k0 (w.map (fun s : ByteArray => s.extract 0 (min s.size 66))).length (w.map (fun s : ByteArray => s.extract 0 (min s.size 66))) := by
  cases k with
  | zero => omega
  | succ k =>
    unfold few05F_l3 few05F_s5
    dsimp only
    rw [br_if]
    by_cases hy : 0 < w.length
    · have e0 : ix w 0 = some w[0] := (ix_nat w 0).trans (List.getElem?_eq_getElem hy)
      rw [if_pos (by simpa using hy), if_neg (by omega), bnd_of e0, bnd_of (up_to _ 66 (c := 66) rfl)]
      have ho := few05_bA (R := R) fuel z x44 x45 w hw k0 k 1 [(w[0]).extract 0 (min (w[0]).size 66)] (by omega) (by omega) (by simp)
      have hy1 : [(w[0]).extract 0 (min (w[0]).size 66)] ++ (w.drop 1).map (fun s : ByteArray => s.extract 0 (min s.size 66)) = w.map (fun s : ByteArray => s.extract 0 (min s.size 66)) := by
        cases w with
        | nil => simp at hy
        | cons a t => rfl
      rw [hy1] at ho
      exact ho
    · rw [if_neg (by simpa using hy), if_pos (by omega)]
theorem few05_bB {R : Type} (fuel : Nat) (z : Int) (w : List ByteArray) (hw : w.length ≤ 66) (k0 : Nat → List ByteArray → Option R) : ∀ (k j : Nat) (acc : List ByteArray), j ≤ w.length → w.length < j + k → acc.length ≤ j →
    few05F_l6 fuel w (w.length : Int) z k0 k acc.length (j : Int) acc = k0 (acc ++ (w.drop j).map (fun s : ByteArray => s.extract 0 (min s.size 66))).length (acc ++ (w.drop j).map (fun s : ByteArray => s.extract 0 (min s.size 66)))
  | 0, j, acc, h1, h2, _ => by omega
  | k + 1, j, acc, h1, h2, ha => by
    unfold few05F_l6 few05F_s11
    rw [br_if]
    by_cases hc : j < w.length
    · rw [if_pos (by simpa using hc), bnd_of ((ix_nat w j).trans (List.getElem?_eq_getElem hc)), bnd_of (up_to _ 66 (c := 66) rfl), grd_of (beq_self _), grd_of (okN_of (by omega) (by omega)), wrap_i64 (by omega) (by omega), show (j : Int) + 1 = ((j + 1 : Nat) : Int) by omega, List.drop_eq_getElem_cons hc, List.map_cons]
      have := few05_bB fuel z w hw k0 k (j + 1) (acc ++ [(w[j]).extract 0 (min (w[j]).size 66)]) (by omega) (by omega) (by simp; omega)
      rw [List.append_assoc] at this
      exact this
    · rw [if_neg (by simpa using hc), List.drop_eq_nil_of_le (by omega)]
      simp
theorem few05_bB1 {R : Type} (fuel : Nat) (z : Int) (w : List ByteArray) (hw : w.length ≤ 66) (k0 : Nat → List ByteArray → Option R) (k1 : Option R) (k : Nat) (hk : w.length + 1 < k) :
    few05F_l5 fuel z k0 k1 k w (w.length : Int) = if w.length = 0 then k1 else k0 (w.map (fun s : ByteArray => s.extract 0 (min s.size 66))).length (w.map (fun s : ByteArray => s.extract 0 (min s.size 66))) := by
  cases k with
  | zero => omega
  | succ k =>
    unfold few05F_l5 few05F_s10
    dsimp only
    rw [br_if]
    by_cases hy : 0 < w.length
    · have e0 : ix w 0 = some w[0] := (ix_nat w 0).trans (List.getElem?_eq_getElem hy)
      rw [if_pos (by simpa using hy), if_neg (by omega), bnd_of e0, bnd_of (up_to _ 66 (c := 66) rfl)]
      have ho := few05_bB (R := R) fuel z w hw k0 k 1 [(w[0]).extract 0 (min (w[0]).size 66)] (by omega) (by omega) (by simp)
      have hy1 : [(w[0]).extract 0 (min (w[0]).size 66)] ++ (w.drop 1).map (fun s : ByteArray => s.extract 0 (min s.size 66)) = w.map (fun s : ByteArray => s.extract 0 (min s.size 66)) := by
        cases w with
        | nil => simp at hy
        | cons a t => rfl
      rw [hy1] at ho
      exact ho
    · rw [if_neg (by simpa using hy), if_pos (by omega)]

theorem few05_fact (z : Int) (m : List (Int × List Int)) (l : List ByteArray) : Fact Tryd.prog noG 28 [.agg [.s (.int .i64 z), .lt (.pair (.int .i64) (.sl (.int .u64))) m], .ls l] [] (.tup [.agg [.s (.int .i64 z), .lt (.pair (.int .i64) (.sl (.int .u64))) ((fewRS m) : List (Int × List Int))], .ls (fewBS l)], []) := by
  have hx : (m.take 66).length ≤ 66 := by rw [List.length_take]; omega
  have hy : (l.take 66).length ≤ 66 := by rw [List.length_take]; omega
  have hwalk : callN Tryd.prog mode25 T_r5Known 70 28 [.agg [.s (.int .i64 z), .lt (.pair (.int .i64) (.sl (.int .u64))) m], .ls l] [] =
      if (m.take 66).length = 0 then (if (l.take 66).length = 0 then some (.tup [.agg [.s (.int .i64 z), .s (.slice none 0 0)], .s (.slice none 0 0)], []) else some (.tup [.agg [.s (.int .i64 z), .s (.slice none 0 0)], .ls (fewBS l)], []))
      else (if (l.take 66).length = 0 then some (.tup [.agg [.s (.int .i64 z), .lt (.pair (.int .i64) (.sl (.int .u64))) (fewRS m)], .s (.slice none 0 0)], []) else some (.tup [.agg [.s (.int .i64 z), .lt (.pair (.int .i64) (.sl (.int .u64))) (fewRS m)], .ls (fewBS l)], [])) := by
    rw [few05F_eq]
    unfold few05F few05F_s1
    rw [bnd_of (up_to _ 66 (c := 66) rfl), take_to]
    dsimp only
    rw [few05_rows1 (R := Out) 70 l (m.take 66) hx z m _ _ 70 (by omega)]
    have e1 : (m.take 66).map (fun r => (r.1, r.2.take 3)) = fewRS m := by rw [fewRS_eq]; rfl
    have e2 : (l.take 66).map (fun s => s.extract 0 (min s.size 66)) = fewBS l := by rw [fewBS_eq]; rfl
    by_cases h : (m.take 66).length = 0
    · rw [if_pos h, if_pos h]
      unfold few05F_s9
      rw [bnd_of (up_to _ 66 (c := 66) rfl), take_to]
      dsimp only
      rw [few05_bB1 (R := Out) 70 z (l.take 66) hy _ _ 70 (by omega), e2]
      by_cases g : (l.take 66).length = 0
      · rw [if_pos g, if_pos g]; rfl
      · rw [if_neg g, if_neg g]
        unfold few05F_s12
        rw [List.drop_zero, List.take_length]
    · rw [if_neg h, if_neg h, e1]
      unfold few05F_s4
      rw [bnd_of (up_to _ 66 (c := 66) rfl), take_to]
      dsimp only
      rw [few05_bA1 (R := Out) 70 z _ _ (l.take 66) hy _ _ 70 (by omega), e2]
      by_cases g : (l.take 66).length = 0
      · rw [if_pos g, if_pos g]
        unfold few05F_s8
        rw [List.drop_zero, List.take_length]
      · rw [if_neg g, if_neg g]
        unfold few05F_s7
        rw [List.drop_zero, List.take_length, List.drop_zero, List.take_length]
  have n1 : (m.take 66).length = 0 → fewRS m = [] := fun h => by rw [fewRS_eq]; unfold fewRI; rw [List.eq_nil_of_length_eq_zero h]; rfl
  have n2 : (l.take 66).length = 0 → fewBS l = [] := fun h => by rw [fewBS_eq]; unfold fewBI; rw [List.eq_nil_of_length_eq_zero h]; rfl
  by_cases h : (m.take 66).length = 0
  · rw [if_pos h] at hwalk
    rw [n1 h]
    by_cases g : (l.take 66).length = 0
    · rw [if_pos g] at hwalk
      rw [n2 g]
      exact (callN_fact hN hM T_r5Known_ok hwalk).out fun _ _ _ x h => RV_tup_two (fun _ h => RVs_two (fun _ h => RV_agg_two (fun _ h => RVs_two (fun _ h => h) (fun _ h => RVs_two (fun _ h => RV_nil_sl (s := .pair (.int .i64) (.sl (.int .u64))) h) (fun _ h => h) h) h) h) (fun _ h => RVs_two (fun _ h => RV_nil_ls h) (fun _ h => h) h) h) h
    · rw [if_neg g] at hwalk
      exact (callN_fact hN hM T_r5Known_ok hwalk).out fun _ _ _ x h => RV_tup_two (fun _ h => RVs_two (fun _ h => RV_agg_two (fun _ h => RVs_two (fun _ h => h) (fun _ h => RVs_two (fun _ h => RV_nil_sl (s := .pair (.int .i64) (.sl (.int .u64))) h) (fun _ h => h) h) h) h) (fun _ h => h) h) h
  · rw [if_neg h] at hwalk
    by_cases g : (l.take 66).length = 0
    · rw [if_pos g] at hwalk
      rw [n2 g]
      exact (callN_fact hN hM T_r5Known_ok hwalk).out fun _ _ _ x h => RV_tup_two (fun _ h => RVs_two (fun _ h => h) (fun _ h => RVs_two (fun _ h => RV_nil_ls h) (fun _ h => h) h) h) h
    · rw [if_neg g] at hwalk
      exact callN_fact hN hM T_r5Known_ok hwalk
noncomputable def few05_ent : List V → List Blk → Option (Bool × Out)
  | [.agg [.s (.int .i64 z), w0], w1], [] => (asSl (.pair (.int .i64) (.sl (.int .u64))) w0).bind fun m => (asSl .str w1).bind fun l => some (true, (.tup [.agg [.s (.int .i64 z), .lt (.pair (.int .i64) (.sl (.int .u64))) ((fewRS m) : List (Int × List Int))], .ls (fewBS l)], []))
  | _, _ => none
theorem few05_ok : ∀ args bs out, few05_ent args bs = some (true, out) → Fact Tryd.prog noG 28 args bs out := by
  intro args bs out h
  unfold few05_ent at h
  split at h
  · rename_i z w0 w1
    obtain ⟨m, h_m, h⟩ := Option.bind_eq_some_iff.1 h
    obtain ⟨l, h_l, h⟩ := Option.bind_eq_some_iff.1 h
    simp only [Option.some.injEq, Prod.mk.injEq] at h
    obtain ⟨_, rfl⟩ := h
    exact (few05_fact z m l).args (fun _ _ _ => fun _ h => RVs_two (fun _ h => RV_agg_two (fun _ h => RVs_two (fun _ h => h) (fun _ h => RVs_two (fun _ h => RV_sl (s := (.pair (.int .i64) (.sl (.int .u64)))) h_m h) (fun _ h => h) h) h) h) (fun _ h => RVs_two (fun _ h => RV_ls h_l h) (fun _ h => h) h) h)
  · cases h
noncomputable def T_few05 : Tbl := Tbl.cons 28 few05_ent T_r5Known
theorem T_few05_ok : CallOk Tryd.prog noG T_few05 := cons_ok T_r5Known_ok few05_ok
/-! downpour/downpourlaw05.alive -/
noncomputable def bsaliveF_s1 {R : Type}  (c0 : Bool → Option R) : Option R :=
  grd (okM ([(2, [3]), (2, [2])]) && decide (([(2, [3]), (2, [2])]).length ≤ 1000)) <|
  br (((slE 2 ([(2, [3]), (2, [2])]) 1 ([(⟨#[97]⟩ : ByteArray), (⟨#[98]⟩ : ByteArray)])) : Int) == 0)
    (br (((((slL 2 ([(2, [3]), (2, [2])]) 1 ([(⟨#[97]⟩ : ByteArray), (⟨#[98]⟩ : ByteArray)])).length : Nat) : Int) : Int) == 2)
      (bnd (ix (slL 2 ([(2, [3]), (2, [2])]) 1 ([(⟨#[97]⟩ : ByteArray), (⟨#[98]⟩ : ByteArray)])) 0) fun e1 =>
      br (eqS e1 (⟨#[3]⟩ : ByteArray))
        (bnd (ix (slL 2 ([(2, [3]), (2, [2])]) 1 ([(⟨#[97]⟩ : ByteArray), (⟨#[98]⟩ : ByteArray)])) 1) fun e2 =>
        c0 (eqS e2 (⟨#[98]⟩ : ByteArray)))
        (c0 false))
      (c0 false))
    (c0 false)
theorem bsaliveF_s1_eq (fuel : Nat)   : callN Tryd.prog mode25 T_few05 fuel 33 [] [] = bsaliveF_s1  (fun a3 => some (vB a3, [])) := by kernel_rfl
noncomputable def bsaliveF {R : Type} (fuel : Nat)  (r0 : Bool → Option R) : Option R :=
  (bsaliveF_s1 (fun a3 => r0 a3))
theorem bsaliveF_eq (fuel : Nat)  : callN Tryd.prog mode25 T_few05 fuel 33 [] [] = bsaliveF fuel  (fun z0 => some (.s (.bool z0), [])) := by
  unfold bsaliveF
  exact (bsaliveF_s1_eq fuel  )
theorem sa_ok : okM [(2, [3]), (2, [2])] = true := by rw [okM_eq]; unfold okMI; rw [okW_eq]; decide +kernel
theorem sa_may : mrt 2 [(2, [3]), (2, [2])] = true := by rw [mrt_eq]; unfold mrtI; rw [badR_eq]; unfold badI; rw [rtS_eq]; unfold rtI; rw [nw_eq]; decide +kernel
theorem sa_bm : bmayE 2 [(2, [3]), (2, [2])] 1 [(⟨#[97]⟩ : ByteArray), (⟨#[98]⟩ : ByteArray)] = 0 := by
  refine bmay_iff.2 ⟨sa_may, ?_, rfl⟩
  rw [bok_eq]; decide +kernel
theorem sa_augs : augs 2 [(2, [3]), (2, [2])] [(⟨#[97]⟩ : ByteArray), (⟨#[98]⟩ : ByteArray)] = [391, 394] := by decide +kernel
theorem sa_red : red [391, 394] = [(0, 13), (1, 394)] := by
  refine red_eq ⟨⟨fun x hx => ?_, ?_, fun x hx y hy hne => ?_⟩, fun w => ⟨Sp.mono fun a ha => ?_, Sp.mono fun a ha => ?_⟩⟩
  · simp only [List.mem_cons, List.not_mem_nil, or_false] at hx
    rcases hx with rfl | rfl
    · exact ⟨by decide +kernel, fun q hq => by omega⟩
    · exact ⟨by decide +kernel, fun q hq => by
        have : q = 0 := by omega
        subst this; decide +kernel⟩
  · simp
  · simp only [List.mem_cons, List.not_mem_nil, or_false] at hx hy
    rcases hx with rfl | rfl <;> rcases hy with rfl | rfl
    · exact absurd rfl hne
    · decide +kernel
    · decide +kernel
    · exact absurd rfl hne
  · simp only [List.mem_map, List.mem_cons, List.not_mem_nil, or_false] at ha
    obtain ⟨x, rfl | rfl, rfl⟩ := ha
    · have h1 : Sp [391, 394] 391 := .of_mem (by simp)
      have h2 : Sp [391, 394] 394 := .of_mem (by simp)
      exact h1.xor h2
    · exact .of_mem (by simp)
  · simp only [List.mem_cons, List.not_mem_nil, or_false] at ha
    have h1 : Sp (Lin.rows [(0, 13), (1, 394)]) 13 := .of_mem (by simp)
    have h2 : Sp (Lin.rows [(0, 13), (1, 394)]) 394 := .of_mem (by simp)
    rcases ha with rfl | rfl
    · exact h1.xor h2
    · exact h2
theorem sa_fit : fitB 2 [(2, [3]), (2, [2])] [(⟨#[97]⟩ : ByteArray), (⟨#[98]⟩ : ByteArray)] = true := by
  refine fit_iff.2 ?_
  rw [sa_augs]
  intro u hu h0
  have hR := red_is [391, 394]
  refine hR.1.eq_zero ((hR.2 u).2 hu) fun x hx => ?_
  rw [sa_red] at hx
  have hb : ∀ i, i < 2 → u.testBit i = false := fun i hi => by
    have := lo_bit (2 : Int).toNat u i
    rw [h0, Nat.zero_testBit] at this
    have h2 : i < (2 : Int).toNat := hi
    rw [decide_eq_true h2, Bool.true_and] at this
    exact this.symm
  simp only [List.mem_cons, List.not_mem_nil, or_false] at hx
  rcases hx with rfl | rfl
  · exact hb 0 (by decide)
  · exact hb 1 (by decide)
theorem sa_kn : knE 2 [(2, [3]), (2, [2])] 1 [(⟨#[97]⟩ : ByteArray), (⟨#[98]⟩ : ByteArray)] = 0 := by rw [knE_eq]; unfold knEI; rw [if_pos sa_bm, if_pos sa_fit]
theorem sa_sl : slE 2 [(2, [3]), (2, [2])] 1 [(⟨#[97]⟩ : ByteArray), (⟨#[98]⟩ : ByteArray)] = 0 ∧ slL 2 [(2, [3]), (2, [2])] 1 [(⟨#[97]⟩ : ByteArray), (⟨#[98]⟩ : ByteArray)] = [(⟨#[3]⟩ : ByteArray), (⟨#[98]⟩ : ByteArray)] := by
  have hA : knA 2 [(2, [3]), (2, [2])] 1 [(⟨#[97]⟩ : ByteArray), (⟨#[98]⟩ : ByteArray)] = [0, 1] := by
    rw [knA_eq]; unfold knAI; rw [if_pos sa_kn, sa_augs, sa_red]; decide +kernel
  have hL : knL 2 [(2, [3]), (2, [2])] 1 [(⟨#[97]⟩ : ByteArray), (⟨#[98]⟩ : ByteArray)] = [(⟨#[3]⟩ : ByteArray), (⟨#[98]⟩ : ByteArray)] := by
    rw [knL_eq]; unfold knLI; rw [if_pos sa_kn, sa_augs, sa_red]; decide +kernel
  have hS : slE 2 [(2, [3]), (2, [2])] 1 [(⟨#[97]⟩ : ByteArray), (⟨#[98]⟩ : ByteArray)] = 0 := by
    rw [slE_eq]; unfold slEI; rw [if_pos sa_kn, hA]; decide
  refine ⟨hS, ?_⟩
  rw [slL_eq]; unfold slLI; rw [if_pos hS, hL]
theorem bsalive_fact  : Fact Tryd.prog noG 33 [] [] (.s (.bool true), []) := by
  refine callN_fact hN hM T_few05_ok (n := 0) (mode := mode25) ?_
  rw [bsaliveF_eq]
  unfold bsaliveF bsaliveF_s1
  obtain ⟨h1, h2⟩ := sa_sl
  have i0 : ix [(⟨#[3]⟩ : ByteArray), (⟨#[98]⟩ : ByteArray)] 0 = some (⟨#[3]⟩ : ByteArray) := rfl
  have i1 : ix [(⟨#[3]⟩ : ByteArray), (⟨#[98]⟩ : ByteArray)] 1 = some (⟨#[98]⟩ : ByteArray) := rfl
  have e1 : eqS (⟨#[3]⟩ : ByteArray) (⟨#[3]⟩ : ByteArray) = true := eqS_iff.2 rfl
  have e2 : eqS (⟨#[98]⟩ : ByteArray) (⟨#[98]⟩ : ByteArray) = true := eqS_iff.2 rfl
  rw [grd_of (by rw [sa_ok]; rfl), h1, h2, bnd_of i0, e1, br_tt, bnd_of i1, e2]
  rfl
noncomputable def bsalive_ent : List V → List Blk → Option (Bool × Out)
  | [], [] => some (true, (.s (.bool true), []))
  | _, _ => none
theorem bsalive_ok : ∀ args bs out, bsalive_ent args bs = some (true, out) → Fact Tryd.prog noG 33 args bs out := by
  intro args bs out h
  unfold bsalive_ent at h
  split at h
  · simp only [Option.some.injEq, Prod.mk.injEq] at h
    obtain ⟨_, rfl⟩ := h
    exact bsalive_fact 
  · cases h
noncomputable def T_bsalive : Tbl := Tbl.cons 33 bsalive_ent T_few05
theorem T_bsalive_ok : CallOk Tryd.prog noG T_bsalive := cons_ok T_few05_ok bsalive_ok
def mode26 : FuncId → Nat := fun f => 0
def eqI_li (a b : List Int) : Bool := decide (a = b)
noncomputable def eqS_li : List Int → List Int → Bool := Classical.choose (⟨eqI_li, rfl⟩ : ∃ f, f = eqI_li)
theorem eqS_li_eq : eqS_li = eqI_li := Classical.choose_spec (⟨eqI_li, rfl⟩ : ∃ f, f = eqI_li)
theorem eqS_li_self (a : List Int) : eqS_li a a = true := by rw [eqS_li_eq]; simp [eqI_li]
/-! downpour/downpourref01.Numbers -/
noncomputable abbrev qg15 (fuel : Nat) : Ctx Out := (fnX Tryd.prog mode26 T_bsalive fuel 26 0)
noncomputable def refNumbersF_s2 {R : Type} (w6 w5 : Int) (a b : List Int) (c0 : Option R) (c1 : Int → Int → Option R) (c2 : Option R) : Option R :=
  br (decide (w6 < w5))
    (bnd (ix a w6) fun e9 =>
    bnd (ix b w6) fun e0 =>
    br (e9 != e0)
      (c0)
      (c1 w5 (IntKind.i64.wrap (w6 + 1))))
    (c2)
theorem refNumbersF_s2_eq (fuel k : Nat) (K : Ex → St → Option Out) (w6 w5 : Int) (a b : List Int) : lpN (sub (bodyOf Tryd.prog 36) [1, 1, 0, 1, 0, 0]) (qg15 fuel) 16 [0, 1, 4, 12, 13] (k + 1) ⟨[(0, vL a), (1, vL b), (4, vB false), (12, vI w5), (13, vI w6)], [], 0, none⟩ K = refNumbersF_s2 w6 w5 a b (K .ret ⟨[(4, vB false)], [], 0, none⟩) (fun a0 a1 => lpN (sub (bodyOf Tryd.prog 36) [1, 1, 0, 1, 0, 0]) (qg15 fuel) 16 [0, 1, 4, 12, 13] k ⟨[(0, vL a), (1, vL b), (4, vB false), (12, vI a0), (13, vI a1)], [], 0, none⟩ K) (K (.exit 0) ⟨[(4, vB false)], [], 0, none⟩) := by kernel_rfl
noncomputable def refNumbersF_l1 {R : Type} (fuel : Nat) (a b : List Int) (k0 k1 : Option R) : Nat → Int → Int → Option R
  | 0, _, _ => none
  | k + 1, w5, w6 =>
    (refNumbersF_s2 w6 w5 a b (k0) (fun a0 a1 => ( refNumbersF_l1 fuel a b k0 k1 k a0 a1 )) (k1))
theorem refNumbersF_l1_eq (fuel : Nat) (a b : List Int) (K : Ex → St → Option Out) : ∀ (k : Nat) (w5 w6 : Int), lpN (sub (bodyOf Tryd.prog 36) [1, 1, 0, 1, 0, 0]) (qg15 fuel) 16 [0, 1, 4, 12, 13] k ⟨[(0, vL a), (1, vL b), (4, vB false), (12, vI w5), (13, vI w6)], [], 0, none⟩ K = refNumbersF_l1 fuel a b (K .ret ⟨[(4, vB false)], [], 0, none⟩) (K (.exit 0) ⟨[(4, vB false)], [], 0, none⟩) k w5 w6
  | 0, _, _ => rfl
  | k + 1, w5, w6 => by
    unfold refNumbersF_l1
    exact (refNumbersF_s2_eq fuel k K w6 w5 a b).trans (congr (congr (congr (Eq.refl (refNumbersF_s2 (R := Out) w6 w5 a b)) (rfl)) (funext fun a0 => funext fun a1 => refNumbersF_l1_eq fuel a b K k a0 a1)) (rfl))
noncomputable def refNumbersF_s3 {R : Type}  (c0 : Bool → Option R) : Option R :=
  c0 false
theorem refNumbersF_s3_eq (fuel : Nat)   : (kont (qg15 fuel) (bodyOf Tryd.prog 36) [1, 1, 0, 1, 0] 16 (endK Tryd.prog 0 0 36)) .ret ⟨[(4, vB false)], [], 0, none⟩ = refNumbersF_s3  (fun a0 => some (vB a0, [])) := by kernel_rfl
noncomputable def refNumbersF_s4 {R : Type}  (c0 : Bool → Option R) : Option R :=
  c0 true
theorem refNumbersF_s4_eq (fuel : Nat)   : (kont (qg15 fuel) (bodyOf Tryd.prog 36) [1, 1, 0, 1, 0] 16 (endK Tryd.prog 0 0 36)) (.exit 0) ⟨[(4, vB false)], [], 0, none⟩ = refNumbersF_s4  (fun a0 => some (vB a0, [])) := by kernel_rfl
noncomputable def refNumbersF_s1 {R : Type} (a b : List Int) (c0 : Bool → Option R) (c1 : Int → Int → Option R) : Option R :=
  br ((((a.length : Nat) : Int) : Int) != ((b.length : Nat) : Int))
    (c0 false)
    (c1 ((a.length : Nat) : Int) 0)
theorem refNumbersF_s1_eq (fuel : Nat)  (a b : List Int) : callN Tryd.prog mode26 T_bsalive fuel 36 [vL a, vL b] [] = refNumbersF_s1 a b (fun a1 => some (vB a1, [])) (fun a0 a2 => lpN (sub (bodyOf Tryd.prog 36) [1, 1, 0, 1, 0, 0]) (qg15 fuel) 16 [0, 1, 4, 12, 13] fuel ⟨[(0, vL a), (1, vL b), (4, vB false), (12, vI a0), (13, vI a2)], [], 0, none⟩ (kont (qg15 fuel) (bodyOf Tryd.prog 36) [1, 1, 0, 1, 0] 16 (endK Tryd.prog 0 0 36))) := by kernel_rfl
noncomputable def refNumbersF {R : Type} (fuel : Nat) (a b : List Int) (r0 : Bool → Option R) : Option R :=
  (refNumbersF_s1 a b (fun a1 => r0 a1) (fun a0 a2 => (refNumbersF_l1 fuel a b ((refNumbersF_s3 (fun a3 => r0 a3))) ((refNumbersF_s4 (fun a4 => r0 a4))) fuel a0 a2)))
theorem refNumbersF_eq (fuel : Nat) (a b : List Int) : callN Tryd.prog mode26 T_bsalive fuel 36 [.li .i64 a, .li .i64 b] [] = refNumbersF fuel a b (fun z0 => some (.s (.bool z0), [])) := by
  unfold refNumbersF
  exact (refNumbersF_s1_eq fuel  a b).trans (congr (congr (Eq.refl (refNumbersF_s1 (R := Out) a b)) (rfl)) (funext fun a0 => funext fun a1 => (refNumbersF_l1_eq fuel a b (kont (qg15 fuel) (bodyOf Tryd.prog 36) [1, 1, 0, 1, 0] 16 (endK Tryd.prog 0 0 36)) fuel a0 a1).trans (congrFun (congrFun (congrFun (congr (congr (Eq.refl (refNumbersF_l1 (R := Out) fuel a b)) ((refNumbersF_s3_eq fuel  ))) ((refNumbersF_s4_eq fuel  ))) fuel) a0) a1)))
theorem refNumbers_loop {R : Type} (fuel : Nat) (a b : List Int) (hab : a.length = b.length) (hx : a.length ≤ 1000000) (k0 k1 : Option R) : ∀ (k j : Nat), j ≤ a.length → a.length < j + k → refNumbersF_l1 fuel a b k0 k1 k (a.length : Int) (j : Int) = if a.drop j = b.drop j then k1 else k0
  | 0, j, h1, h2 => by omega
  | k + 1, j, h1, h2 => by
    unfold refNumbersF_l1 refNumbersF_s2
    rw [br_if]
    by_cases hc : j < a.length
    · have hc2 : j < b.length := by omega
      rw [if_pos (by simpa using hc), bnd_of ((ix_nat a j).trans (List.getElem?_eq_getElem hc)), bnd_of ((ix_nat b j).trans (List.getElem?_eq_getElem hc2)), br_if, List.drop_eq_getElem_cons hc, List.drop_eq_getElem_cons hc2, wrap_i64 (by omega) (by omega), show (j : Int) + 1 = ((j + 1 : Nat) : Int) by omega]
      dsimp only
      rw [refNumbers_loop fuel a b hab hx k0 k1 k (j + 1) (by omega) (by omega)]
      generalize a[j] = x
      generalize b[j] = y
      generalize a.drop (j + 1) = t
      generalize b.drop (j + 1) = u
      by_cases he : x = y <;> simp [he]
    · rw [if_neg (by simpa using hc), List.drop_eq_nil_of_le (by omega), List.drop_eq_nil_of_le (by omega)]
      simp
theorem refNumbers_fact (a : List Int) (b : List Int) (hg : (decide (List.length (α := Int) a ≤ 1000000)) = true) : Fact Tryd.prog noG 36 [.li .i64 a, .li .i64 b] [] (.s (.bool (eqS_li a b)), []) := by
  have hg := of_decide_eq_true hg
  refine callN_fact hN hM T_bsalive_ok (n := a.length + 1) (mode := mode26) ?_
  rw [refNumbersF_eq]
  unfold refNumbersF refNumbersF_s1
  rw [br_if]
  by_cases hab : a.length = b.length
  · rw [if_neg (by simp; omega)]
    dsimp only
    have := refNumbers_loop (R := Out) (a.length + 1) a b hab hg
    rw [show (0 : Int) = ((0 : Nat) : Int) from rfl, this _ _ _ _ (by omega) (by omega), List.drop_zero, List.drop_zero, eqS_li_eq]
    unfold eqI_li refNumbersF_s3 refNumbersF_s4
    by_cases h : a = b <;> simp [h]
  · rw [if_pos (by simp; omega), eqS_li_eq]
    unfold eqI_li
    have : a ≠ b := by rintro rfl; exact hab rfl
    simp [this]
noncomputable def refNumbers_ent : List V → List Blk → Option (Bool × Out)
  | [w0, w1], [] => (asSl (.int .i64) w0).bind fun a => (asSl (.int .i64) w1).bind fun b => some ((decide (List.length (α := Int) a ≤ 1000000)), (.s (.bool (eqS_li a b)), []))
  | _, _ => none
theorem refNumbers_ok : ∀ args bs out, refNumbers_ent args bs = some (true, out) → Fact Tryd.prog noG 36 args bs out := by
  intro args bs out h
  unfold refNumbers_ent at h
  split at h
  · rename_i w0 w1
    obtain ⟨a, h_a, h⟩ := Option.bind_eq_some_iff.1 h
    obtain ⟨b, h_b, h⟩ := Option.bind_eq_some_iff.1 h
    simp only [Option.some.injEq, Prod.mk.injEq] at h
    obtain ⟨hg, rfl⟩ := h
    exact (refNumbers_fact a b hg).args (fun _ _ _ => fun _ h => RVs_two (fun _ h => RV_li h_a h) (fun _ h => RVs_two (fun _ h => RV_li h_b h) (fun _ h => h) h) h)
  · cases h
noncomputable def T_refNumbers : Tbl := Tbl.cons 36 refNumbers_ent T_bsalive
theorem T_refNumbers_ok : CallOk Tryd.prog noG T_refNumbers := cons_ok T_bsalive_ok refNumbers_ok

/-! downpour/downpourlaw05.BacksubSolves -/
noncomputable def lawSolF_s1 {R : Type} (m : List (Int × List Int)) (n : Int) (l : List ByteArray) (z : Int) (c0 : Bool → Option R) : Option R :=
  br (decide (((((fewRS m).length : Nat) : Int) : Int) > 14))
    (br (decide (n > 6))
      (br (decide (n ≤ 64))
        (bnd (upTo 14 ((fewRS m).length)) fun j1 =>
        bnd (upTo (min (((fewBS l).length : Nat) : Int) 14) ((fewBS l).length)) fun j2 =>
        grd (okM (((fewRS m).drop 0).take (j1 - 0)) && decide ((((fewRS m).drop 0).take (j1 - 0)).length ≤ 1000)) <|
        grd (okM (((fewRS m).drop 0).take (j1 - 0)) && decide ((((fewRS m).drop 0).take (j1 - 0)).length ≤ 1000)) <|
        grd (okM (((fewRS m).drop 0).take (j1 - 0)) && decide ((((fewRS m).drop 0).take (j1 - 0)).length ≤ 1000)) <|
        grd (okM (((fewRS m).drop 0).take (j1 - 0)) && decide ((((fewRS m).drop 0).take (j1 - 0)).length ≤ 1000000)) <|
        br (!(mrt z (((fewRS m).drop 0).take (j1 - 0))))
          (br (((slE z (((fewRS m).drop 0).take (j1 - 0)) n (((fewBS l).drop 0).take (j2 - 0))) : Int) == 1)
            (br (((knE z (((fewRS m).drop 0).take (j1 - 0)) n (((fewBS l).drop 0).take (j2 - 0))) : Int) == 1)
              (br (((bmayE z (((fewRS m).drop 0).take (j1 - 0)) n (((fewBS l).drop 0).take (j2 - 0))) : Int) == 1)
                (br ((IntKind.i64.wrap ((IntKind.i64.wrap ((((slL z (((fewRS m).drop 0).take (j1 - 0)) n (((fewBS l).drop 0).take (j2 - 0))).length : Nat) : Int) + (((knA z (((fewRS m).drop 0).take (j1 - 0)) n (((fewBS l).drop 0).take (j2 - 0))).length : Nat) : Int))) + (((knL z (((fewRS m).drop 0).take (j1 - 0)) n (((fewBS l).drop 0).take (j2 - 0))).length : Nat) : Int))) == 0)
                  (c0 (!(ftB z (((fewRS m).drop 0).take (j1 - 0)) n (((fewBS l).drop 0).take (j2 - 0)))))
                  (c0 false))
                (c0 false))
              (c0 false))
            (c0 false))
          (br (((if bok n (((fewBS l).drop 0).take (j2 - 0)) = true ∧ (((fewBS l).drop 0).take (j2 - 0)).length = (((fewRS m).drop 0).take (j1 - 0)).length then 0 else 2) : Int) != 0)
            (br (((slE z (((fewRS m).drop 0).take (j1 - 0)) n (((fewBS l).drop 0).take (j2 - 0))) : Int) == (if bok n (((fewBS l).drop 0).take (j2 - 0)) = true ∧ (((fewBS l).drop 0).take (j2 - 0)).length = (((fewRS m).drop 0).take (j1 - 0)).length then 0 else 2))
              (br (((knE z (((fewRS m).drop 0).take (j1 - 0)) n (((fewBS l).drop 0).take (j2 - 0))) : Int) == (if bok n (((fewBS l).drop 0).take (j2 - 0)) = true ∧ (((fewBS l).drop 0).take (j2 - 0)).length = (((fewRS m).drop 0).take (j1 - 0)).length then 0 else 2))
                (br (((bmayE z (((fewRS m).drop 0).take (j1 - 0)) n (((fewBS l).drop 0).take (j2 - 0))) : Int) == (if bok n (((fewBS l).drop 0).take (j2 - 0)) = true ∧ (((fewBS l).drop 0).take (j2 - 0)).length = (((fewRS m).drop 0).take (j1 - 0)).length then 0 else 2))
                  (br ((IntKind.i64.wrap ((IntKind.i64.wrap ((((slL z (((fewRS m).drop 0).take (j1 - 0)) n (((fewBS l).drop 0).take (j2 - 0))).length : Nat) : Int) + (((knA z (((fewRS m).drop 0).take (j1 - 0)) n (((fewBS l).drop 0).take (j2 - 0))).length : Nat) : Int))) + (((knL z (((fewRS m).drop 0).take (j1 - 0)) n (((fewBS l).drop 0).take (j2 - 0))).length : Nat) : Int))) == 0)
                    (c0 (!(ftB z (((fewRS m).drop 0).take (j1 - 0)) n (((fewBS l).drop 0).take (j2 - 0)))))
                    (c0 false))
                  (c0 false))
                (c0 false))
              (c0 false))
            (br (((bmayE z (((fewRS m).drop 0).take (j1 - 0)) n (((fewBS l).drop 0).take (j2 - 0))) : Int) != 0)
              (c0 false)
              (grd (rdOk z (((fewRS m).drop 0).take (j1 - 0)) (((fewBS l).drop 0).take (j2 - 0)) && bok n (((fewBS l).drop 0).take (j2 - 0))) <|
              br (!((ftB z (((fewRS m).drop 0).take (j1 - 0)) n (((fewBS l).drop 0).take (j2 - 0))) == (fitB z (((fewRS m).drop 0).take (j1 - 0)) (((fewBS l).drop 0).take (j2 - 0)))))
                (c0 false)
                (br (!(ftB z (((fewRS m).drop 0).take (j1 - 0)) n (((fewBS l).drop 0).take (j2 - 0))))
                  (br (((slE z (((fewRS m).drop 0).take (j1 - 0)) n (((fewBS l).drop 0).take (j2 - 0))) : Int) == 10)
                    (br (((knE z (((fewRS m).drop 0).take (j1 - 0)) n (((fewBS l).drop 0).take (j2 - 0))) : Int) == 10)
                      (c0 ((IntKind.i64.wrap ((IntKind.i64.wrap ((((slL z (((fewRS m).drop 0).take (j1 - 0)) n (((fewBS l).drop 0).take (j2 - 0))).length : Nat) : Int) + (((knA z (((fewRS m).drop 0).take (j1 - 0)) n (((fewBS l).drop 0).take (j2 - 0))).length : Nat) : Int))) + (((knL z (((fewRS m).drop 0).take (j1 - 0)) n (((fewBS l).drop 0).take (j2 - 0))).length : Nat) : Int))) == 0))
                      (c0 false))
                    (c0 false))
                  (grd (rdOk z (((fewRS m).drop 0).take (j1 - 0)) (((fewBS l).drop 0).take (j2 - 0)) && fitB z (((fewRS m).drop 0).take (j1 - 0)) (((fewBS l).drop 0).take (j2 - 0)) && bok n (((fewBS l).drop 0).take (j2 - 0))) <|
                  br (((knE z (((fewRS m).drop 0).take (j1 - 0)) n (((fewBS l).drop 0).take (j2 - 0))) : Int) != 0)
                    (c0 false)
                    (grd (decide (List.length (α := Int) (knA z (((fewRS m).drop 0).take (j1 - 0)) n (((fewBS l).drop 0).take (j2 - 0))) ≤ 1000000)) <|
                    br (!(eqS_li (knA z (((fewRS m).drop 0).take (j1 - 0)) n (((fewBS l).drop 0).take (j2 - 0))) (kA z (((fewRS m).drop 0).take (j1 - 0)) (((fewBS l).drop 0).take (j2 - 0)))))
                      (c0 false)
                      (grd (decide ((knL z (((fewRS m).drop 0).take (j1 - 0)) n (((fewBS l).drop 0).take (j2 - 0))).length ≤ 1000000)) <|
                      br (!(eqTS (knL z (((fewRS m).drop 0).take (j1 - 0)) n (((fewBS l).drop 0).take (j2 - 0))) (kL z (((fewRS m).drop 0).take (j1 - 0)) n (((fewBS l).drop 0).take (j2 - 0)))))
                        (c0 false)
                        (br (decide ((((kA z (((fewRS m).drop 0).take (j1 - 0)) (((fewBS l).drop 0).take (j2 - 0))).length : Nat) : Int) < z))
                          (br (((slE z (((fewRS m).drop 0).take (j1 - 0)) n (((fewBS l).drop 0).take (j2 - 0))) : Int) == 9)
                          (c0 (((((slL z (((fewRS m).drop 0).take (j1 - 0)) n (((fewBS l).drop 0).take (j2 - 0))).length : Nat) : Int) : Int) == 0))
                          (c0 false))
                          (br (((slE z (((fewRS m).drop 0).take (j1 - 0)) n (((fewBS l).drop 0).take (j2 - 0))) : Int) == 0)
                          (grd (decide ((slL z (((fewRS m).drop 0).take (j1 - 0)) n (((fewBS l).drop 0).take (j2 - 0))).length ≤ 1000000)) <|
                        c0 (eqTS (slL z (((fewRS m).drop 0).take (j1 - 0)) n (((fewBS l).drop 0).take (j2 - 0))) (kL z (((fewRS m).drop 0).take (j1 - 0)) n (((fewBS l).drop 0).take (j2 - 0)))))
                          (c0 false)))))))))))
        (grd (okM (fewRS m) && decide ((fewRS m).length ≤ 1000)) <|
        grd (okM (fewRS m) && decide ((fewRS m).length ≤ 1000)) <|
        grd (okM (fewRS m) && decide ((fewRS m).length ≤ 1000)) <|
        grd (okM (fewRS m) && decide ((fewRS m).length ≤ 1000000)) <|
        br (!(mrt z (fewRS m)))
          (br (((slE z (fewRS m) n (fewBS l)) : Int) == 1)
            (br (((knE z (fewRS m) n (fewBS l)) : Int) == 1)
              (br (((bmayE z (fewRS m) n (fewBS l)) : Int) == 1)
                (br ((IntKind.i64.wrap ((IntKind.i64.wrap ((((slL z (fewRS m) n (fewBS l)).length : Nat) : Int) + (((knA z (fewRS m) n (fewBS l)).length : Nat) : Int))) + (((knL z (fewRS m) n (fewBS l)).length : Nat) : Int))) == 0)
                  (c0 (!(ftB z (fewRS m) n (fewBS l))))
                  (c0 false))
                (c0 false))
              (c0 false))
            (c0 false))
          (br (((if bok n (fewBS l) = true ∧ (fewBS l).length = (fewRS m).length then 0 else 2) : Int) != 0)
            (br (((slE z (fewRS m) n (fewBS l)) : Int) == (if bok n (fewBS l) = true ∧ (fewBS l).length = (fewRS m).length then 0 else 2))
              (br (((knE z (fewRS m) n (fewBS l)) : Int) == (if bok n (fewBS l) = true ∧ (fewBS l).length = (fewRS m).length then 0 else 2))
                (br (((bmayE z (fewRS m) n (fewBS l)) : Int) == (if bok n (fewBS l) = true ∧ (fewBS l).length = (fewRS m).length then 0 else 2))
                  (br ((IntKind.i64.wrap ((IntKind.i64.wrap ((((slL z (fewRS m) n (fewBS l)).length : Nat) : Int) + (((knA z (fewRS m) n (fewBS l)).length : Nat) : Int))) + (((knL z (fewRS m) n (fewBS l)).length : Nat) : Int))) == 0)
                    (c0 (!(ftB z (fewRS m) n (fewBS l))))
                    (c0 false))
                  (c0 false))
                (c0 false))
              (c0 false))
            (br (((bmayE z (fewRS m) n (fewBS l)) : Int) != 0)
              (c0 false)
              (grd (rdOk z (fewRS m) (fewBS l) && bok n (fewBS l)) <|
              br (!((ftB z (fewRS m) n (fewBS l)) == (fitB z (fewRS m) (fewBS l))))
                (c0 false)
                (br (!(ftB z (fewRS m) n (fewBS l)))
                  (br (((slE z (fewRS m) n (fewBS l)) : Int) == 10)
                    (br (((knE z (fewRS m) n (fewBS l)) : Int) == 10)
                      (c0 ((IntKind.i64.wrap ((IntKind.i64.wrap ((((slL z (fewRS m) n (fewBS l)).length : Nat) : Int) + (((knA z (fewRS m) n (fewBS l)).length : Nat) : Int))) + (((knL z (fewRS m) n (fewBS l)).length : Nat) : Int))) == 0))
                      (c0 false))
                    (c0 false))
                  (grd (rdOk z (fewRS m) (fewBS l) && fitB z (fewRS m) (fewBS l) && bok n (fewBS l)) <|
                  br (((knE z (fewRS m) n (fewBS l)) : Int) != 0)
                    (c0 false)
                    (grd (decide (List.length (α := Int) (knA z (fewRS m) n (fewBS l)) ≤ 1000000)) <|
                    br (!(eqS_li (knA z (fewRS m) n (fewBS l)) (kA z (fewRS m) (fewBS l))))
                      (c0 false)
                      (grd (decide ((knL z (fewRS m) n (fewBS l)).length ≤ 1000000)) <|
                      br (!(eqTS (knL z (fewRS m) n (fewBS l)) (kL z (fewRS m) n (fewBS l))))
                        (c0 false)
                        (br (decide ((((kA z (fewRS m) (fewBS l)).length : Nat) : Int) < z))
                          (br (((slE z (fewRS m) n (fewBS l)) : Int) == 9)
                          (c0 (((((slL z (fewRS m) n (fewBS l)).length : Nat) : Int) : Int) == 0))
                          (c0 false))
                          (br (((slE z (fewRS m) n (fewBS l)) : Int) == 0)
                          (grd (decide ((slL z (fewRS m) n (fewBS l)).length ≤ 1000000)) <|
                        c0 (eqTS (slL z (fewRS m) n (fewBS l)) (kL z (fewRS m) n (fewBS l))))
                          (c0 false))))))))))))
      (grd (okM (fewRS m) && decide ((fewRS m).length ≤ 1000)) <|
      grd (okM (fewRS m) && decide ((fewRS m).length ≤ 1000)) <|
      grd (okM (fewRS m) && decide ((fewRS m).length ≤ 1000)) <|
      grd (okM (fewRS m) && decide ((fewRS m).length ≤ 1000000)) <|
      br (!(mrt z (fewRS m)))
        (br (((slE z (fewRS m) n (fewBS l)) : Int) == 1)
          (br (((knE z (fewRS m) n (fewBS l)) : Int) == 1)
            (br (((bmayE z (fewRS m) n (fewBS l)) : Int) == 1)
              (br ((IntKind.i64.wrap ((IntKind.i64.wrap ((((slL z (fewRS m) n (fewBS l)).length : Nat) : Int) + (((knA z (fewRS m) n (fewBS l)).length : Nat) : Int))) + (((knL z (fewRS m) n (fewBS l)).length : Nat) : Int))) == 0)
                (c0 (!(ftB z (fewRS m) n (fewBS l))))
                (c0 false))
              (c0 false))
            (c0 false))
          (c0 false))
        (br (((if bok n (fewBS l) = true ∧ (fewBS l).length = (fewRS m).length then 0 else 2) : Int) != 0)
          (br (((slE z (fewRS m) n (fewBS l)) : Int) == (if bok n (fewBS l) = true ∧ (fewBS l).length = (fewRS m).length then 0 else 2))
            (br (((knE z (fewRS m) n (fewBS l)) : Int) == (if bok n (fewBS l) = true ∧ (fewBS l).length = (fewRS m).length then 0 else 2))
              (br (((bmayE z (fewRS m) n (fewBS l)) : Int) == (if bok n (fewBS l) = true ∧ (fewBS l).length = (fewRS m).length then 0 else 2))
                (br ((IntKind.i64.wrap ((IntKind.i64.wrap ((((slL z (fewRS m) n (fewBS l)).length : Nat) : Int) + (((knA z (fewRS m) n (fewBS l)).length : Nat) : Int))) + (((knL z (fewRS m) n (fewBS l)).length : Nat) : Int))) == 0)
                  (c0 (!(ftB z (fewRS m) n (fewBS l))))
                  (c0 false))
                (c0 false))
              (c0 false))
            (c0 false))
          (br (((bmayE z (fewRS m) n (fewBS l)) : Int) != 0)
            (c0 false)
            (grd (rdOk z (fewRS m) (fewBS l) && bok n (fewBS l)) <|
            br (!((ftB z (fewRS m) n (fewBS l)) == (fitB z (fewRS m) (fewBS l))))
              (c0 false)
              (br (!(ftB z (fewRS m) n (fewBS l)))
                (br (((slE z (fewRS m) n (fewBS l)) : Int) == 10)
                  (br (((knE z (fewRS m) n (fewBS l)) : Int) == 10)
                    (c0 ((IntKind.i64.wrap ((IntKind.i64.wrap ((((slL z (fewRS m) n (fewBS l)).length : Nat) : Int) + (((knA z (fewRS m) n (fewBS l)).length : Nat) : Int))) + (((knL z (fewRS m) n (fewBS l)).length : Nat) : Int))) == 0))
                    (c0 false))
                  (c0 false))
                (grd (rdOk z (fewRS m) (fewBS l) && fitB z (fewRS m) (fewBS l) && bok n (fewBS l)) <|
                br (((knE z (fewRS m) n (fewBS l)) : Int) != 0)
                  (c0 false)
                  (grd (decide (List.length (α := Int) (knA z (fewRS m) n (fewBS l)) ≤ 1000000)) <|
                  br (!(eqS_li (knA z (fewRS m) n (fewBS l)) (kA z (fewRS m) (fewBS l))))
                    (c0 false)
                    (grd (decide ((knL z (fewRS m) n (fewBS l)).length ≤ 1000000)) <|
                    br (!(eqTS (knL z (fewRS m) n (fewBS l)) (kL z (fewRS m) n (fewBS l))))
                      (c0 false)
                      (br (decide ((((kA z (fewRS m) (fewBS l)).length : Nat) : Int) < z))
                        (br (((slE z (fewRS m) n (fewBS l)) : Int) == 9)
                          (c0 (((((slL z (fewRS m) n (fewBS l)).length : Nat) : Int) : Int) == 0))
                          (c0 false))
                        (br (((slE z (fewRS m) n (fewBS l)) : Int) == 0)
                          (grd (decide ((slL z (fewRS m) n (fewBS l)).length ≤ 1000000)) <|
                        c0 (eqTS (slL z (fewRS m) n (fewBS l)) (kL z (fewRS m) n (fewBS l))))
                          (c0 false))))))))))))
    (grd (okM (fewRS m) && decide ((fewRS m).length ≤ 1000)) <|
    grd (okM (fewRS m) && decide ((fewRS m).length ≤ 1000)) <|
    grd (okM (fewRS m) && decide ((fewRS m).length ≤ 1000)) <|
    grd (okM (fewRS m) && decide ((fewRS m).length ≤ 1000000)) <|
    br (!(mrt z (fewRS m)))
      (br (((slE z (fewRS m) n (fewBS l)) : Int) == 1)
        (br (((knE z (fewRS m) n (fewBS l)) : Int) == 1)
          (br (((bmayE z (fewRS m) n (fewBS l)) : Int) == 1)
            (br ((IntKind.i64.wrap ((IntKind.i64.wrap ((((slL z (fewRS m) n (fewBS l)).length : Nat) : Int) + (((knA z (fewRS m) n (fewBS l)).length : Nat) : Int))) + (((knL z (fewRS m) n (fewBS l)).length : Nat) : Int))) == 0)
              (c0 (!(ftB z (fewRS m) n (fewBS l))))
              (c0 false))
            (c0 false))
          (c0 false))
        (c0 false))
      (br (((if bok n (fewBS l) = true ∧ (fewBS l).length = (fewRS m).length then 0 else 2) : Int) != 0)
        (br (((slE z (fewRS m) n (fewBS l)) : Int) == (if bok n (fewBS l) = true ∧ (fewBS l).length = (fewRS m).length then 0 else 2))
          (br (((knE z (fewRS m) n (fewBS l)) : Int) == (if bok n (fewBS l) = true ∧ (fewBS l).length = (fewRS m).length then 0 else 2))
            (br (((bmayE z (fewRS m) n (fewBS l)) : Int) == (if bok n (fewBS l) = true ∧ (fewBS l).length = (fewRS m).length then 0 else 2))
              (br ((IntKind.i64.wrap ((IntKind.i64.wrap ((((slL z (fewRS m) n (fewBS l)).length : Nat) : Int) + (((knA z (fewRS m) n (fewBS l)).length : Nat) : Int))) + (((knL z (fewRS m) n (fewBS l)).length : Nat) : Int))) == 0)
                (c0 (!(ftB z (fewRS m) n (fewBS l))))
                (c0 false))
              (c0 false))
            (c0 false))
          (c0 false))
        (br (((bmayE z (fewRS m) n (fewBS l)) : Int) != 0)
          (c0 false)
          (grd (rdOk z (fewRS m) (fewBS l) && bok n (fewBS l)) <|
          br (!((ftB z (fewRS m) n (fewBS l)) == (fitB z (fewRS m) (fewBS l))))
            (c0 false)
            (br (!(ftB z (fewRS m) n (fewBS l)))
              (br (((slE z (fewRS m) n (fewBS l)) : Int) == 10)
                (br (((knE z (fewRS m) n (fewBS l)) : Int) == 10)
                  (c0 ((IntKind.i64.wrap ((IntKind.i64.wrap ((((slL z (fewRS m) n (fewBS l)).length : Nat) : Int) + (((knA z (fewRS m) n (fewBS l)).length : Nat) : Int))) + (((knL z (fewRS m) n (fewBS l)).length : Nat) : Int))) == 0))
                  (c0 false))
                (c0 false))
              (grd (rdOk z (fewRS m) (fewBS l) && fitB z (fewRS m) (fewBS l) && bok n (fewBS l)) <|
              br (((knE z (fewRS m) n (fewBS l)) : Int) != 0)
                (c0 false)
                (grd (decide (List.length (α := Int) (knA z (fewRS m) n (fewBS l)) ≤ 1000000)) <|
                br (!(eqS_li (knA z (fewRS m) n (fewBS l)) (kA z (fewRS m) (fewBS l))))
                  (c0 false)
                  (grd (decide ((knL z (fewRS m) n (fewBS l)).length ≤ 1000000)) <|
                  br (!(eqTS (knL z (fewRS m) n (fewBS l)) (kL z (fewRS m) n (fewBS l))))
                    (c0 false)
                    (br (decide ((((kA z (fewRS m) (fewBS l)).length : Nat) : Int) < z))
                      (br (((slE z (fewRS m) n (fewBS l)) : Int) == 9)
                        (c0 (((((slL z (fewRS m) n (fewBS l)).length : Nat) : Int) : Int) == 0))
                        (c0 false))
                      (br (((slE z (fewRS m) n (fewBS l)) : Int) == 0)
                        (grd (decide ((slL z (fewRS m) n (fewBS l)).length ≤ 1000000)) <|
                        c0 (eqTS (slL z (fewRS m) n (fewBS l)) (kL z (fewRS m) n (fewBS l))))
                        (c0 false)))))))))))
theorem lawSolF_s1_eq (fuel : Nat)  (m : List (Int × List Int)) (n : Int) (l : List ByteArray) (z : Int) : callN Tryd.prog mode26 T_refNumbers fuel 6 [.agg [vI z, vR m], vI n, .ls l] [] = lawSolF_s1 m n l z (fun a3 => some (vB a3, [])) := by kernel_rfl
noncomputable def lawSolF {R : Type} (fuel : Nat) (z : Int) (m : List (Int × List Int)) (n : Int) (l : List ByteArray) (r0 : Bool → Option R) : Option R :=
  (lawSolF_s1 m n l z (fun a3 => r0 a3))
theorem lawSolF_eq (fuel : Nat) (z : Int) (m : List (Int × List Int)) (n : Int) (l : List ByteArray) : callN Tryd.prog mode26 T_refNumbers fuel 6 [.agg [.s (.int .i64 z), .lt (.pair (.int .i64) (.sl (.int .u64))) m], .s (.int .i64 n), .ls l] [] = lawSolF fuel z m n l (fun z0 => some (.s (.bool z0), [])) := by
  unfold lawSolF
  exact (lawSolF_s1_eq fuel  m n l z)
/-! The law, for what is cut. -/
theorem sol_bad {z : Int} {u : List Rw} {n : Int} {y : List ByteArray} {c : Int} (h : bmayE z u n y = c) (hc : c ≠ 0) : knE z u n y = c ∧ slE z u n y = c ∧ slL z u n y = [] ∧ knA z u n y = [] ∧ knL z u n y = [] ∧ ftB z u n y = false := by
  have hk : knE z u n y = c := by rw [knE_eq]; unfold knEI; rw [if_neg (by omega), h]
  have hs : slE z u n y = c := by rw [slE_eq]; unfold slEI; rw [if_neg (by omega), hk]
  refine ⟨hk, hs, ?_, ?_, ?_, ?_⟩
  · rw [slL_eq]; unfold slLI; rw [if_neg (by omega)]
  · rw [knA_eq]; unfold knAI; rw [if_neg (by omega)]
  · rw [knL_eq]; unfold knLI; rw [if_neg (by omega)]
  · rw [ftB_eq]; unfold ftBI; rw [h, decide_eq_false hc]; rfl
theorem sol_wrong {z : Int} {u : List Rw} {n : Int} {y : List ByteArray} (h : bmayE z u n y = 0) (hf : fitB z u y = false) : knE z u n y = 10 ∧ slE z u n y = 10 ∧ slL z u n y = [] ∧ knA z u n y = [] ∧ knL z u n y = [] ∧ ftB z u n y = false := by
  have hk : knE z u n y = 10 := by rw [knE_eq]; unfold knEI; rw [if_pos h, hf]; rfl
  have hs : slE z u n y = 10 := by rw [slE_eq]; unfold slEI; rw [if_neg (by omega), hk]
  refine ⟨hk, hs, ?_, ?_, ?_, ?_⟩
  · rw [slL_eq]; unfold slLI; rw [if_neg (by omega)]
  · rw [knA_eq]; unfold knAI; rw [if_neg (by omega)]
  · rw [knL_eq]; unfold knLI; rw [if_neg (by omega)]
  · rw [ftB_eq]; unfold ftBI; rw [hf, Bool.and_false]
theorem sol_right {z : Int} {u : List Rw} {n : Int} {y : List ByteArray} (h : bmayE z u n y = 0) (hf : fitB z u y = true) : knE z u n y = 0 ∧ ftB z u n y = true ∧ knA z u n y = kA z u y ∧ knL z u n y = kL z u n y ∧ (kA z u y).length = (kL z u n y).length := by
  have hk : knE z u n y = 0 := by rw [knE_eq]; unfold knEI; rw [if_pos h, hf]; rfl
  refine ⟨hk, ?_, ?_, ?_, ?_⟩
  · rw [ftB_eq]; unfold ftBI; rw [hf, h]; rfl
  · rw [knA_eq, kA_eq]; unfold knAI kAI; rw [if_pos hk, kR_eq]; rfl
  · rw [knL_eq, kL_eq]; unfold knLI kLI; rw [if_pos hk, kR_eq]; rfl
  · rw [kA_eq, kL_eq]; unfold kAI kLI; rw [List.length_map, List.length_map]
theorem eqTS_self (a : List ByteArray) : eqTS a a = true := by rw [eqTS_eq]; exact decide_eq_true rfl
theorem lawSol_body {R : Type} (z n : Int) (u : List Rw) (y : List ByteArray) (hok : okM u = true) (hl : u.length ≤ 66) (c0 : Bool → Option R) :
  (grd (okM u && decide (u.length ≤ 1000)) <|
    grd (okM u && decide (u.length ≤ 1000)) <|
    grd (okM u && decide (u.length ≤ 1000)) <|
    grd (okM u && decide (u.length ≤ 1000000)) <|
    br (!(mrt z u))
      (br (((slE z u n y) : Int) == 1)
        (br (((knE z u n y) : Int) == 1)
          (br (((bmayE z u n y) : Int) == 1)
            (br ((IntKind.i64.wrap ((IntKind.i64.wrap ((((slL z u n y).length : Nat) : Int) + (((knA z u n y).length : Nat) : Int))) + (((knL z u n y).length : Nat) : Int))) == 0)
              (c0 (!(ftB z u n y)))
              (c0 false))
            (c0 false))
          (c0 false))
        (c0 false))
      (br (((if bok n y = true ∧ y.length = u.length then 0 else 2) : Int) != 0)
        (br (((slE z u n y) : Int) == (if bok n y = true ∧ y.length = u.length then 0 else 2))
          (br (((knE z u n y) : Int) == (if bok n y = true ∧ y.length = u.length then 0 else 2))
            (br (((bmayE z u n y) : Int) == (if bok n y = true ∧ y.length = u.length then 0 else 2))
              (br ((IntKind.i64.wrap ((IntKind.i64.wrap ((((slL z u n y).length : Nat) : Int) + (((knA z u n y).length : Nat) : Int))) + (((knL z u n y).length : Nat) : Int))) == 0)
                (c0 (!(ftB z u n y)))
                (c0 false))
              (c0 false))
            (c0 false))
          (c0 false))
        (br (((bmayE z u n y) : Int) != 0)
          (c0 false)
          (grd (rdOk z u y && bok n y) <|
          br (!((ftB z u n y) == (fitB z u y)))
            (c0 false)
            (br (!(ftB z u n y))
              (br (((slE z u n y) : Int) == 10)
                (br (((knE z u n y) : Int) == 10)
                  (c0 ((IntKind.i64.wrap ((IntKind.i64.wrap ((((slL z u n y).length : Nat) : Int) + (((knA z u n y).length : Nat) : Int))) + (((knL z u n y).length : Nat) : Int))) == 0))
                  (c0 false))
                (c0 false))
              (grd (rdOk z u y && fitB z u y && bok n y) <|
              br (((knE z u n y) : Int) != 0)
                (c0 false)
                (grd (decide (List.length (α := Int) (knA z u n y) ≤ 1000000)) <|
                br (!(eqS_li (knA z u n y) (kA z u y)))
                  (c0 false)
                  (grd (decide ((knL z u n y).length ≤ 1000000)) <|
                  br (!(eqTS (knL z u n y) (kL z u n y)))
                    (c0 false)
                    (br (decide ((((kA z u y).length : Nat) : Int) < z))
                      (br (((slE z u n y) : Int) == 9)
                        (c0 (((((slL z u n y).length : Nat) : Int) : Int) == 0))
                        (c0 false))
                      (br (((slE z u n y) : Int) == 0)
                        (grd (decide ((slL z u n y).length ≤ 1000000)) <|
                        c0 (eqTS (slL z u n y) (kL z u n y)))
                        (c0 false))))))))))) = c0 true := by
  have hgu : (okM u && decide (u.length ≤ 1000)) = true := by rw [hok]; simp; omega
  have hgv : (okM u && decide (u.length ≤ 1000000)) = true := by rw [hok]; simp; omega
  rw [grd_of hgu, grd_of hgu, grd_of hgu, grd_of hgv]
  by_cases hm : mrt z u = true
  · rw [hm]
    simp only [Bool.not_true, br_ff]
    by_cases hb : bok n y = true ∧ y.length = u.length
    · have h0 : bmayE z u n y = 0 := bmay_iff.2 ⟨hm, hb.1, hb.2⟩
      have hrd := rd_of hok h0
      obtain ⟨_, b2, _⟩ := bok_iff.1 hb.1
      rw [if_pos hb, br_if, if_neg (by decide), h0, br_if, if_neg (by decide), grd_of (by rw [hrd, hb.1]; rfl)]
      cases hf : fitB z u y with
      | false =>
        obtain ⟨a1, a2, a3, a4, a5, a6⟩ := sol_wrong h0 hf
        rw [a1, a2, a3, a4, a5, a6]
        rfl
      | true =>
        obtain ⟨a1, a2, a3, a4, a5⟩ := sol_right h0 hf
        have hkl : (kA z u y).length ≤ 64 := by
          have := tdF_len (toldB z (echR z u)) z.toNat 0
          rw [told_list hrd (fit_iff.1 hf)] at this
          obtain ⟨hz, _, _⟩ := mrt_iff.1 hm
          omega
        have hsl : slE z u n y = if ((kA z u y).length : Int) < z then 9 else 0 := by rw [slE_eq]; unfold slEI; rw [if_pos a1, a3]
        rw [a1, a2, a3, a4]
        simp only [beq_self_eq_true, Bool.not_true, br_ff]
        rw [grd_of (by rw [hrd, hb.1]; rfl), br_if, if_neg (by decide), grd_of (by simp; omega), eqS_li_self, eqTS_self]
        simp only [Bool.not_true, br_ff]
        rw [grd_of (by simp; omega), br_if]
        by_cases hc : ((kA z u y).length : Int) < z
        · rw [if_pos hc] at hsl
          have hL : slL z u n y = [] := by rw [slL_eq]; unfold slLI; rw [hsl, if_neg (by decide)]
          rw [if_pos (by simpa using hc), hsl, hL]
          rfl
        · rw [if_neg hc] at hsl
          have hL : slL z u n y = kL z u n y := by rw [slL_eq]; unfold slLI; rw [if_pos hsl, a4]
          rw [if_neg (by simpa using hc), hsl, hL, br_if, if_pos (by decide), grd_of (by simp; omega), eqTS_self]
    · have h2 : bmayE z u n y = 2 := by rw [bmayE_eq]; unfold bmayI; rw [if_pos hm, if_neg hb]
      obtain ⟨a1, a2, a3, a4, a5, a6⟩ := sol_bad h2 (by decide)
      rw [if_neg hb, a1, a2, a3, a4, a5, a6, h2]
      rfl
  · have hm' : mrt z u = false := Bool.eq_false_iff.2 hm
    have h1 : bmayE z u n y = 1 := by rw [bmayE_eq]; unfold bmayI; rw [if_neg hm]
    obtain ⟨a1, a2, a3, a4, a5, a6⟩ := sol_bad h1 (by decide)
    rw [hm', a1, a2, a3, a4, a5, a6, h1]
    rfl
theorem lawSol_fact (z : Int) (m : List (Int × List Int)) (n : Int) (l : List ByteArray) (hg : (okM m) = true) : Fact Tryd.prog noG 6 [.agg [.s (.int .i64 z), .lt (.pair (.int .i64) (.sl (.int .u64))) m], .s (.int .i64 n), .ls l] [] (.s (.bool true), []) := by
  obtain ⟨hok, hlen⟩ := fewR_ok hg
  refine callN_fact hN hM T_refNumbers_ok (n := 10) (mode := mode26) ?_
  rw [lawSolF_eq]
  unfold lawSolF lawSolF_s1
  generalize fewRS m = u at *
  generalize fewBS l = y at *
  rw [br_if]
  by_cases h1 : (u.length : Int) > 14
  · rw [if_pos (by simpa using h1), br_if]
    by_cases h2 : n > 6
    · rw [if_pos (by simpa using h2), br_if]
      by_cases h3 : n ≤ 64
      · have e1 : upTo 14 u.length = some 14 := upTo_of (by omega) (by omega)
        rw [if_pos (by simpa using h3), bnd_of e1, bnd_of (up_to _ 14 (c := 14) rfl)]
        exact lawSol_body z n ((u.drop 0).take (14 - 0)) ((y.drop 0).take (min y.length 14 - 0)) (okM_iff.2 fun r hr => okM_iff.1 hok r (List.mem_of_mem_drop (List.mem_of_mem_take hr))) (by rw [List.length_take]; omega) _
      · rw [if_neg (by simpa using h3)]
        exact lawSol_body z n u y hok hlen _
    · rw [if_neg (by simpa using h2)]
      exact lawSol_body z n u y hok hlen _
  · rw [if_neg (by simpa using h1)]
    exact lawSol_body z n u y hok hlen _
noncomputable def lawSol_ent : List V → List Blk → Option (Bool × Out)
  | [.agg [.s (.int .i64 z), w0], .s (.int .i64 n), w1], [] => (asSl (.pair (.int .i64) (.sl (.int .u64))) w0).bind fun m => (asSl .str w1).bind fun l => some ((okM m), (.s (.bool true), []))
  | _, _ => none
theorem lawSol_ok : ∀ args bs out, lawSol_ent args bs = some (true, out) → Fact Tryd.prog noG 6 args bs out := by
  intro args bs out h
  unfold lawSol_ent at h
  split at h
  · rename_i z w0 n w1
    obtain ⟨m, h_m, h⟩ := Option.bind_eq_some_iff.1 h
    obtain ⟨l, h_l, h⟩ := Option.bind_eq_some_iff.1 h
    simp only [Option.some.injEq, Prod.mk.injEq] at h
    obtain ⟨hg, rfl⟩ := h
    exact (lawSol_fact z m n l hg).args (fun _ _ _ => fun _ h => RVs_two (fun _ h => RV_agg_two (fun _ h => RVs_two (fun _ h => h) (fun _ h => RVs_two (fun _ h => RV_sl (s := (.pair (.int .i64) (.sl (.int .u64)))) h_m h) (fun _ h => h) h) h) h) (fun _ h => RVs_two (fun _ h => h) (fun _ h => RVs_two (fun _ h => RV_ls h_l h) (fun _ h => h) h) h) h)
  · cases h
noncomputable def T_lawSol : Tbl := Tbl.cons 6 lawSol_ent T_refNumbers
theorem T_lawSol_ok : CallOk Tryd.prog noG T_lawSol := cons_ok T_refNumbers_ok lawSol_ok
end Go.Proofs.YtfpdcfgjhkiklaaDoor
