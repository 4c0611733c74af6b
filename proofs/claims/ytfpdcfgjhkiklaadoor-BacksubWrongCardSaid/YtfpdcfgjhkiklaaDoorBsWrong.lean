/- Equations one of which has another block: the law. -/
import Derived.Test.YtfpdcfgjhkiklaaDoorPmTab
import Derived.KernelRfl
import Derived.Test.YtfpdcfgjhkiklaaDoorProg
import Derived.Test.YtfpdcfgjhkiklaaDoorBs
set_option autoImplicit false
set_option maxRecDepth 100000
set_option maxHeartbeats 4000000
set_option linter.unusedVariables false
set_option linter.unusedSimpArgs false
namespace Go.Proofs.YtfpdcfgjhkiklaaDoor
open Go Go.PM Go.Proofs Go.Shelf Go.PM.Row Go.PM.Bits Go.PM.Bit Go.PM.Blk Go.PM.Lin
def mode21 : FuncId → Nat := fun f => 0
/-! The laws of layer 5: what they cut. -/
noncomputable def fewRI (m : List Rw) : List Rw := (m.take 66).map fun r => (r.1, r.2.take 3)
noncomputable def fewRS : List Rw → List Rw := Classical.choose (⟨fewRI, rfl⟩ : ∃ f, f = fewRI)
theorem fewRS_eq : fewRS = fewRI := Classical.choose_spec (⟨fewRI, rfl⟩ : ∃ f, f = fewRI)
noncomputable def fewBI (l : List ByteArray) : List ByteArray := (l.take 66).map fun s => s.extract 0 (min s.size 66)
noncomputable def fewBS : List ByteArray → List ByteArray := Classical.choose (⟨fewBI, rfl⟩ : ∃ f, f = fewBI)
theorem fewBS_eq : fewBS = fewBI := Classical.choose_spec (⟨fewBI, rfl⟩ : ∃ f, f = fewBI)
theorem fewR_ok {m : List Rw} (h : okM m = true) : okM (fewRS m) = true ∧ (fewRS m).length ≤ 66 := by
  rw [fewRS_eq]; unfold fewRI
  refine ⟨okM_iff.2 fun r hr => ?_, by rw [List.length_map, List.length_take]; omega⟩
  obtain ⟨x, hx, rfl⟩ := List.mem_map.1 hr
  exact okW_iff.2 (ok_take (okW_iff.1 (okM_iff.1 h _ (List.mem_of_mem_take hx))) 3)
/-! downpour/downpourlaw05.few -/
noncomputable abbrev qe0 : Nat × Option Blk := (1, some ⟨24, .agg [vI 0, vN], true⟩)
noncomputable abbrev qe1 (fuel : Nat) : Ctx Out := (fnX Tryd.prog mode21 T_Fits fuel 60 0)
noncomputable abbrev qe2 : Code := (sub (bodyOf Tryd.prog 28) [1, 1, 1, 1, 1, 0, 1, 0, 0])
noncomputable abbrev qe3 : Nat × V := (2, .ptr 0 2 0 0)
noncomputable abbrev qe4 : Nat × Option Blk := (2, some ⟨24, .agg [vI 0, vN], true⟩)
noncomputable abbrev qe5 (z : Int) : Nat × Option Blk := (0, some ⟨24, .agg [vI z, vN], true⟩)
noncomputable abbrev qe6 (z : Int) (m : List (Int × List Int)) : Nat × Option Blk := (0, some ⟨24, .agg [vI z, vR m], true⟩)
noncomputable abbrev qe7 : Nat × V := (4, .ptr 1 2 0 0)
noncomputable abbrev qe8 : Code := (bodyOf Tryd.prog 28)
noncomputable abbrev qe9 : List Nat := [2, 4, 5, 9, 43, 44, 45]
noncomputable abbrev qe10 : Nat := 864691128455135796
noncomputable abbrev qe11 : Nat × V := (4, .ptr 2 2 0 0)
noncomputable abbrev qe12 : Code := (sub qe8 [1, 1, 0, 1, 0, 0])
noncomputable abbrev qe13 : List Nat := [1, 1, 1, 1, 1, 0, 1, 0]
noncomputable abbrev qe14 : List Nat := [1, 2, 4, 5, 6, 18, 19, 20]
noncomputable def few05F_s3 {R : Type} (w0 w3 : Int) (w2 w1 : List (Int × List Int)) (w4 : Nat) (l : List ByteArray) (z : Int) (m : List (Int × List Int)) (c0 : Nat → Int → (List (Int × List Int)) → Option R) (c1 : Nat → (List (Int × List Int)) → Option R) : Option R :=
  br (decide (w0 < w3))
    (bnd (ix w2 w0) fun e0 =>
    bnd (upTo (min ((e0.2.length : Nat) : Int) 3) e0.2.length) fun j0 =>
    grd (Nat.beq w1.length w4) <|
    grd (okN (w4 + 1) 32) <|
    c0 ((w1 ++ [(e0.1, ((e0.2.drop 0).take (j0 - 0)))]).length) (IntKind.i64.wrap (w0 + 1)) (w1 ++ [(e0.1, ((e0.2.drop 0).take (j0 - 0)))]))
    (c1 w4 w1)
theorem few05F_s3_eq (fuel k : Nat) (K : Ex → St → Option Out) (w0 w3 : Int) (w2 w1 : List (Int × List Int)) (w4 : Nat) (l : List ByteArray) (z : Int) (m : List (Int × List Int)) : lpN qe12 (qe1 fuel) 1152921367167896182 qe14 (k + 1) ⟨[(1, .ls l), qe3, qe7, (5, vN), (6, .sl 2 2 0 w4), (18, vR w2), (19, vI w3), (20, vI w0)], [(qe6 z m), qe0, (2, some ⟨44, vR w1, true⟩)], 3, none⟩ K = few05F_s3 w0 w3 w2 w1 w4 l z m (fun a0 a1 a2 => lpN qe12 (qe1 fuel) 1152921367167896182 qe14 k ⟨[(1, .ls l), qe3, qe7, (5, vN), (6, .sl 2 2 0 a0), (18, vR w2), (19, vI w3), (20, vI a1)], [(qe6 z m), qe0, (2, some ⟨44, vR a2, true⟩)], 3, none⟩ K) (fun a3 a4 => K (.exit 0) ⟨[(1, .ls l), qe3, qe7, (5, vN), (6, .sl 2 2 0 a3)], [(qe6 z m), qe0, (2, some ⟨44, vR a4, true⟩)], 3, none⟩) := by kernel_rfl
noncomputable def few05F_l2 {R : Type} (fuel : Nat) (l : List ByteArray) (w2 : List (Int × List Int)) (w3 z : Int) (m : List (Int × List Int)) (k0 : Nat → (List (Int × List Int)) → Option R) : Nat → Nat → Int → (List (Int × List Int)) → Option R
  | 0, _, _, _ => none
  | k + 1, w0, w1, w4 =>
    (few05F_s3 w1 w3 w2 w4 w0 l z m (fun a0 a1 a2 => ( few05F_l2 fuel l w2 w3 z m k0 k a0 a1 a2 )) (fun a3 a4 => k0 a3 a4))
theorem few05F_l2_eq (fuel : Nat) (l : List ByteArray) (w2 : List (Int × List Int)) (w3 z : Int) (m : List (Int × List Int)) (K : Ex → St → Option Out) : ∀ (k w0 : Nat) (w1 : Int) (w4 : List (Int × List Int)), lpN qe12 (qe1 fuel) 1152921367167896182 qe14 k ⟨[(1, .ls l), qe3, qe7, (5, vN), (6, .sl 2 2 0 w0), (18, vR w2), (19, vI w3), (20, vI w1)], [(qe6 z m), qe0, (2, some ⟨44, vR w4, true⟩)], 3, none⟩ K = few05F_l2 fuel l w2 w3 z m (fun y0 y1 => K (.exit 0) ⟨[(1, .ls l), qe3, qe7, (5, vN), (6, .sl 2 2 0 y0)], [(qe6 z m), qe0, (2, some ⟨44, vR y1, true⟩)], 3, none⟩) k w0 w1 w4
  | 0, _, _, _ => rfl
  | k + 1, w0, w1, w4 => by
    unfold few05F_l2
    exact (few05F_s3_eq fuel k K w1 w3 w2 w4 w0 l z m).trans (congr (congr (Eq.refl (few05F_s3 (R := Out) w1 w3 w2 w4 w0 l z m)) (funext fun a0 => funext fun a1 => funext fun a2 => few05F_l2_eq fuel l w2 w3 z m K k a0 a1 a2)) (rfl))
noncomputable def few05F_s2 {R : Type} (w3 : Int) (w2 : List (Int × List Int)) (l : List ByteArray) (z : Int) (m : List (Int × List Int)) (c0 : Nat → Int → (List (Int × List Int)) → Option R) (c1 : Option R) : Option R :=
  br (decide (0 < w3))
    (bnd (ix w2 0) fun e0 =>
    bnd (upTo (min ((e0.2.length : Nat) : Int) 3) e0.2.length) fun j0 =>
    c0 1 1 ([(e0.1, ((e0.2.drop 0).take (j0 - 0)))]))
    (c1)
theorem few05F_s2_eq (fuel k : Nat) (K : Ex → St → Option Out) (w3 : Int) (w2 : List (Int × List Int)) (l : List ByteArray) (z : Int) (m : List (Int × List Int)) : lpN qe12 (qe1 fuel) 1152921367167896182 qe14 (k + 1) ⟨[(1, .ls l), qe3, qe7, (5, vN), (6, vN), (18, vR w2), (19, vI w3), (20, vI 0)], [(qe6 z m), qe0], 2, none⟩ K = few05F_s2 w3 w2 l z m (fun a0 a1 a2 => lpN qe12 (qe1 fuel) 1152921367167896182 qe14 k ⟨[(1, .ls l), qe3, qe7, (5, vN), (6, .sl 2 2 0 a0), (18, vR w2), (19, vI w3), (20, vI a1)], [(qe6 z m), qe0, (2, some ⟨44, vR a2, true⟩)], 3, none⟩ K) (K (.exit 0) ⟨[(1, .ls l), qe3, qe7, (5, vN), (6, vN)], [(qe6 z m), qe0], 2, none⟩) := by kernel_rfl
noncomputable def few05F_l1 {R : Type} (fuel : Nat) (l : List ByteArray) (z : Int) (m : List (Int × List Int)) (k0 : Nat → (List (Int × List Int)) → Option R) (k1 : Option R) : Nat → (List (Int × List Int)) → Int → Option R
  | 0, _, _ => none
  | k + 1, w2, w3 =>
    (few05F_s2 w3 w2 l z m (fun a0 a1 a2 => (few05F_l2 fuel l w2 w3 z m (fun x0 x1 => k0 x0 x1) k a0 a1 a2)) (k1))
theorem few05F_l1_eq (fuel : Nat) (l : List ByteArray) (z : Int) (m : List (Int × List Int)) (K : Ex → St → Option Out) : ∀ (k : Nat) (w2 : List (Int × List Int)) (w3 : Int), lpN qe12 (qe1 fuel) 1152921367167896182 qe14 k ⟨[(1, .ls l), qe3, qe7, (5, vN), (6, vN), (18, vR w2), (19, vI w3), (20, vI 0)], [(qe6 z m), qe0], 2, none⟩ K = few05F_l1 fuel l z m (fun y0 y1 => K (.exit 0) ⟨[(1, .ls l), qe3, qe7, (5, vN), (6, .sl 2 2 0 y0)], [(qe6 z m), qe0, (2, some ⟨44, vR y1, true⟩)], 3, none⟩) (K (.exit 0) ⟨[(1, .ls l), qe3, qe7, (5, vN), (6, vN)], [(qe6 z m), qe0], 2, none⟩) k w2 w3
  | 0, _, _ => rfl
  | k + 1, w2, w3 => by
    unfold few05F_l1
    exact (few05F_s2_eq fuel k K w3 w2 l z m).trans (congr (congr (Eq.refl (few05F_s2 (R := Out) w3 w2 l z m)) (funext fun a0 => funext fun a1 => funext fun a2 => few05F_l2_eq fuel l w2 w3 z m K k a0 a1 a2)) (rfl))
noncomputable def few05F_s6 {R : Type} (w0 w1 : Int) (w2 w3 : List ByteArray) (w4 : Nat) (z : Int) (x0 : Nat) (x1 : List (Int × List Int)) (c0 : Nat → Int → List ByteArray → Option R) (c1 : Nat → List ByteArray → Option R) : Option R :=
  br (decide (w0 < w1))
    (bnd (ix w2 w0) fun e0 =>
    bnd (upTo (min ((e0.size : Nat) : Int) 66) e0.size) fun j0 =>
    grd (Nat.beq w3.length w4) <|
    grd (okN (w4 + 1) 16) <|
    c0 ((w3 ++ [(e0.extract 0 j0)]).length) (IntKind.i64.wrap (w0 + 1)) (w3 ++ [(e0.extract 0 j0)]))
    (c1 w4 w3)
theorem few05F_s6_eq (fuel k : Nat) (K : Ex → St → Option Out) (w0 w1 : Int) (w2 w3 : List ByteArray) (w4 : Nat) (z : Int) (x0 : Nat) (x1 : List (Int × List Int)) : lpN qe2 (qe1 fuel) qe10 qe9 (k + 1) ⟨[qe3, qe11, (5, vN), (9, .sl 3 1 0 w4), (43, .ls w2), (44, vI w1), (45, vI w0)], [(0, some ⟨24, .agg [vI z, .sl 1 2 0 x0], true⟩), (1, some ⟨44, vR x1, true⟩), qe4, (3, some ⟨9, .ls w3, true⟩)], 4, none⟩ K = few05F_s6 w0 w1 w2 w3 w4 z x0 x1 (fun a0 a1 a2 => lpN qe2 (qe1 fuel) qe10 qe9 k ⟨[qe3, qe11, (5, vN), (9, .sl 3 1 0 a0), (43, .ls w2), (44, vI w1), (45, vI a1)], [(0, some ⟨24, .agg [vI z, .sl 1 2 0 x0], true⟩), (1, some ⟨44, vR x1, true⟩), qe4, (3, some ⟨9, .ls a2, true⟩)], 4, none⟩ K) (fun a3 a4 => K (.exit 2) ⟨[qe3, qe11, (5, vN), (9, .sl 3 1 0 a3)], [(0, some ⟨24, .agg [vI z, .sl 1 2 0 x0], true⟩), (1, some ⟨44, vR x1, true⟩), qe4, (3, some ⟨9, .ls a4, true⟩)], 4, none⟩) := by kernel_rfl
noncomputable def few05F_l4 {R : Type} (fuel : Nat) (w0 : List ByteArray) (w1 z : Int) (x0 : Nat) (x1 : List (Int × List Int)) (k0 : Nat → List ByteArray → Option R) : Nat → Nat → Int → List ByteArray → Option R
  | 0, _, _, _ => none
  | k + 1, w2, w3, w4 =>
    (few05F_s6 w3 w1 w0 w4 w2 z x0 x1 (fun a0 a1 a2 => ( few05F_l4 fuel w0 w1 z x0 x1 k0 k a0 a1 a2 )) (fun a3 a4 => k0 a3 a4))
theorem few05F_l4_eq (fuel : Nat) (w0 : List ByteArray) (w1 z : Int) (x0 : Nat) (x1 : List (Int × List Int)) (K : Ex → St → Option Out) : ∀ (k w2 : Nat) (w3 : Int) (w4 : List ByteArray), lpN qe2 (qe1 fuel) qe10 qe9 k ⟨[qe3, qe11, (5, vN), (9, .sl 3 1 0 w2), (43, .ls w0), (44, vI w1), (45, vI w3)], [(0, some ⟨24, .agg [vI z, .sl 1 2 0 x0], true⟩), (1, some ⟨44, vR x1, true⟩), qe4, (3, some ⟨9, .ls w4, true⟩)], 4, none⟩ K = few05F_l4 fuel w0 w1 z x0 x1 (fun y0 y1 => K (.exit 2) ⟨[qe3, qe11, (5, vN), (9, .sl 3 1 0 y0)], [(0, some ⟨24, .agg [vI z, .sl 1 2 0 x0], true⟩), (1, some ⟨44, vR x1, true⟩), qe4, (3, some ⟨9, .ls y1, true⟩)], 4, none⟩) k w2 w3 w4
  | 0, _, _, _ => rfl
  | k + 1, w2, w3, w4 => by
    unfold few05F_l4
    exact (few05F_s6_eq fuel k K w3 w1 w0 w4 w2 z x0 x1).trans (congr (congr (Eq.refl (few05F_s6 (R := Out) w3 w1 w0 w4 w2 z x0 x1)) (funext fun a0 => funext fun a1 => funext fun a2 => few05F_l4_eq fuel w0 w1 z x0 x1 K k a0 a1 a2)) (rfl))
noncomputable def few05F_s5 {R : Type} (w0 : Int) (w1 : List ByteArray) (z : Int) (x0 : Nat) (x1 : List (Int × List Int)) (c0 : Nat → Int → List ByteArray → Option R) (c1 : Option R) : Option R :=
  br (decide (0 < w0))
    (bnd (ix w1 0) fun e0 =>
    bnd (upTo (min ((e0.size : Nat) : Int) 66) e0.size) fun j0 =>
    c0 1 1 ([(e0.extract 0 j0)]))
    (c1)
theorem few05F_s5_eq (fuel k : Nat) (K : Ex → St → Option Out) (w0 : Int) (w1 : List ByteArray) (z : Int) (x0 : Nat) (x1 : List (Int × List Int)) : lpN qe2 (qe1 fuel) qe10 qe9 (k + 1) ⟨[qe3, qe11, (5, vN), (9, vN), (43, .ls w1), (44, vI w0), (45, vI 0)], [(0, some ⟨24, .agg [vI z, .sl 1 2 0 x0], true⟩), (1, some ⟨44, vR x1, true⟩), qe4], 3, none⟩ K = few05F_s5 w0 w1 z x0 x1 (fun a0 a1 a2 => lpN qe2 (qe1 fuel) qe10 qe9 k ⟨[qe3, qe11, (5, vN), (9, .sl 3 1 0 a0), (43, .ls w1), (44, vI w0), (45, vI a1)], [(0, some ⟨24, .agg [vI z, .sl 1 2 0 x0], true⟩), (1, some ⟨44, vR x1, true⟩), qe4, (3, some ⟨9, .ls a2, true⟩)], 4, none⟩ K) (K (.exit 2) ⟨[qe3, qe11, (5, vN), (9, vN)], [(0, some ⟨24, .agg [vI z, .sl 1 2 0 x0], true⟩), (1, some ⟨44, vR x1, true⟩), qe4], 3, none⟩) := by kernel_rfl
noncomputable def few05F_l3 {R : Type} (fuel : Nat) (z : Int) (x0 : Nat) (x1 : List (Int × List Int)) (k0 : Nat → List ByteArray → Option R) (k1 : Option R) : Nat → List ByteArray → Int → Option R
  | 0, _, _ => none
  | k + 1, w0, w1 =>
    (few05F_s5 w1 w0 z x0 x1 (fun a0 a1 a2 => (few05F_l4 fuel w0 w1 z x0 x1 (fun x2 x3 => k0 x2 x3) k a0 a1 a2)) (k1))
theorem few05F_l3_eq (fuel : Nat) (z : Int) (x0 : Nat) (x1 : List (Int × List Int)) (K : Ex → St → Option Out) : ∀ (k : Nat) (w0 : List ByteArray) (w1 : Int), lpN qe2 (qe1 fuel) qe10 qe9 k ⟨[qe3, qe11, (5, vN), (9, vN), (43, .ls w0), (44, vI w1), (45, vI 0)], [(0, some ⟨24, .agg [vI z, .sl 1 2 0 x0], true⟩), (1, some ⟨44, vR x1, true⟩), qe4], 3, none⟩ K = few05F_l3 fuel z x0 x1 (fun y0 y1 => K (.exit 2) ⟨[qe3, qe11, (5, vN), (9, .sl 3 1 0 y0)], [(0, some ⟨24, .agg [vI z, .sl 1 2 0 x0], true⟩), (1, some ⟨44, vR x1, true⟩), qe4, (3, some ⟨9, .ls y1, true⟩)], 4, none⟩) (K (.exit 2) ⟨[qe3, qe11, (5, vN), (9, vN)], [(0, some ⟨24, .agg [vI z, .sl 1 2 0 x0], true⟩), (1, some ⟨44, vR x1, true⟩), qe4], 3, none⟩) k w0 w1
  | 0, _, _ => rfl
  | k + 1, w0, w1 => by
    unfold few05F_l3
    exact (few05F_s5_eq fuel k K w1 w0 z x0 x1).trans (congr (congr (Eq.refl (few05F_s5 (R := Out) w1 w0 z x0 x1)) (funext fun a0 => funext fun a1 => funext fun a2 => few05F_l4_eq fuel w0 w1 z x0 x1 K k a0 a1 a2)) (rfl))
noncomputable def few05F_s7 {R : Type} (z : Int) (x0 : List (Int × List Int)) (x1 : Nat) (x2 : List ByteArray) (x3 : Nat) (c0 : Int → (List (Int × List Int)) → List ByteArray → Option R) : Option R :=
  c0 z ((x0.drop 0).take x1) ((x2.drop 0).take x3)
theorem few05F_s7_eq (fuel : Nat)  (z : Int) (x0 : List (Int × List Int)) (x1 : Nat) (x2 : List ByteArray) (x3 : Nat) : (kont (qe1 fuel) qe8 qe13 48 (endK Tryd.prog 0 0 28)) (.exit 2) ⟨[qe3, qe11, (5, vN), (9, .sl 3 1 0 x3)], [(0, some ⟨24, .agg [vI z, .sl 1 2 0 x1], true⟩), (1, some ⟨44, vR x0, true⟩), qe4, (3, some ⟨9, .ls x2, true⟩)], 4, none⟩ = few05F_s7 z x0 x1 x2 x3 (fun a0 a1 a2 => some (.tup [.agg [vI a0, vR a1], .ls a2], [])) := by kernel_rfl
noncomputable def few05F_s8 {R : Type} (z : Int) (x0 : List (Int × List Int)) (x1 : Nat) (c0 : Int → (List (Int × List Int)) → Option R) : Option R :=
  c0 z ((x0.drop 0).take x1)
theorem few05F_s8_eq (fuel : Nat)  (z : Int) (x0 : List (Int × List Int)) (x1 : Nat) : (kont (qe1 fuel) qe8 qe13 48 (endK Tryd.prog 0 0 28)) (.exit 2) ⟨[qe3, qe11, (5, vN), (9, vN)], [(0, some ⟨24, .agg [vI z, .sl 1 2 0 x1], true⟩), (1, some ⟨44, vR x0, true⟩), qe4], 3, none⟩ = few05F_s8 z x0 x1 (fun a0 a1 => some (.tup [.agg [vI a0, vR a1], vN], [])) := by kernel_rfl
noncomputable def few05F_s4 {R : Type} (l : List ByteArray) (x0 : Nat) (z : Int) (m x1 : List (Int × List Int)) (c0 : List ByteArray → Int → Option R) : Option R :=
  bnd (upTo (min ((l.length : Nat) : Int) 66) l.length) fun j0 =>
  c0 ((l.drop 0).take (j0 - 0)) ((((l.drop 0).take (j0 - 0)).length : Nat) : Int)
theorem few05F_s4_eq (fuel : Nat)  (l : List ByteArray) (x0 : Nat) (z : Int) (m x1 : List (Int × List Int)) : (kont (qe1 fuel) qe8 [1, 1, 0, 1, 0] 48 (endK Tryd.prog 0 0 28)) (.exit 0) ⟨[(1, .ls l), qe3, qe7, (5, vN), (6, .sl 2 2 0 x0)], [(qe6 z m), qe0, (2, some ⟨44, vR x1, true⟩)], 3, none⟩ = few05F_s4 l x0 z m x1 (fun a0 a1 => lpN qe2 (qe1 fuel) qe10 qe9 fuel ⟨[qe3, qe11, (5, vN), (9, vN), (43, .ls a0), (44, vI a1), (45, vI 0)], [(0, some ⟨24, .agg [vI z, .sl 1 2 0 x0], true⟩), (1, some ⟨44, vR x1, true⟩), qe4], 3, none⟩ (kont (qe1 fuel) qe8 qe13 48 (endK Tryd.prog 0 0 28))) := by kernel_rfl
noncomputable def few05F_s11 {R : Type} (w0 w1 : Int) (w2 w3 : List ByteArray) (w4 : Nat) (z : Int) (c0 : Nat → Int → List ByteArray → Option R) (c1 : Nat → List ByteArray → Option R) : Option R :=
  br (decide (w0 < w1))
    (bnd (ix w2 w0) fun e0 =>
    bnd (upTo (min ((e0.size : Nat) : Int) 66) e0.size) fun j0 =>
    grd (Nat.beq w3.length w4) <|
    grd (okN (w4 + 1) 16) <|
    c0 ((w3 ++ [(e0.extract 0 j0)]).length) (IntKind.i64.wrap (w0 + 1)) (w3 ++ [(e0.extract 0 j0)]))
    (c1 w4 w3)
theorem few05F_s11_eq (fuel k : Nat) (K : Ex → St → Option Out) (w0 w1 : Int) (w2 w3 : List ByteArray) (w4 : Nat) (z : Int) : lpN qe2 (qe1 fuel) qe10 qe9 (k + 1) ⟨[qe3, qe7, (5, vN), (9, .sl 2 1 0 w4), (43, .ls w2), (44, vI w1), (45, vI w0)], [(qe5 z), qe0, (2, some ⟨9, .ls w3, true⟩)], 3, none⟩ K = few05F_s11 w0 w1 w2 w3 w4 z (fun a0 a1 a2 => lpN qe2 (qe1 fuel) qe10 qe9 k ⟨[qe3, qe7, (5, vN), (9, .sl 2 1 0 a0), (43, .ls w2), (44, vI w1), (45, vI a1)], [(qe5 z), qe0, (2, some ⟨9, .ls a2, true⟩)], 3, none⟩ K) (fun a3 a4 => K (.exit 2) ⟨[qe3, qe7, (5, vN), (9, .sl 2 1 0 a3)], [(qe5 z), qe0, (2, some ⟨9, .ls a4, true⟩)], 3, none⟩) := by kernel_rfl
noncomputable def few05F_l6 {R : Type} (fuel : Nat) (w0 : List ByteArray) (w1 z : Int) (k0 : Nat → List ByteArray → Option R) : Nat → Nat → Int → List ByteArray → Option R
  | 0, _, _, _ => none
  | k + 1, w2, w3, w4 =>
    (few05F_s11 w3 w1 w0 w4 w2 z (fun a0 a1 a2 => ( few05F_l6 fuel w0 w1 z k0 k a0 a1 a2 )) (fun a3 a4 => k0 a3 a4))
theorem few05F_l6_eq (fuel : Nat) (w0 : List ByteArray) (w1 z : Int) (K : Ex → St → Option Out) : ∀ (k w2 : Nat) (w3 : Int) (w4 : List ByteArray), lpN qe2 (qe1 fuel) qe10 qe9 k ⟨[qe3, qe7, (5, vN), (9, .sl 2 1 0 w2), (43, .ls w0), (44, vI w1), (45, vI w3)], [(qe5 z), qe0, (2, some ⟨9, .ls w4, true⟩)], 3, none⟩ K = few05F_l6 fuel w0 w1 z (fun y0 y1 => K (.exit 2) ⟨[qe3, qe7, (5, vN), (9, .sl 2 1 0 y0)], [(qe5 z), qe0, (2, some ⟨9, .ls y1, true⟩)], 3, none⟩) k w2 w3 w4
  | 0, _, _, _ => rfl
  | k + 1, w2, w3, w4 => by
    unfold few05F_l6
    exact (few05F_s11_eq fuel k K w3 w1 w0 w4 w2 z).trans (congr (congr (Eq.refl (few05F_s11 (R := Out) w3 w1 w0 w4 w2 z)) (funext fun a0 => funext fun a1 => funext fun a2 => few05F_l6_eq fuel w0 w1 z K k a0 a1 a2)) (rfl))
noncomputable def few05F_s10 {R : Type} (w0 : Int) (w1 : List ByteArray) (z : Int) (c0 : Nat → Int → List ByteArray → Option R) (c1 : Option R) : Option R :=
  br (decide (0 < w0))
    (bnd (ix w1 0) fun e0 =>
    bnd (upTo (min ((e0.size : Nat) : Int) 66) e0.size) fun j0 =>
    c0 1 1 ([(e0.extract 0 j0)]))
    (c1)
theorem few05F_s10_eq (fuel k : Nat) (K : Ex → St → Option Out) (w0 : Int) (w1 : List ByteArray) (z : Int) : lpN qe2 (qe1 fuel) qe10 qe9 (k + 1) ⟨[qe3, qe7, (5, vN), (9, vN), (43, .ls w1), (44, vI w0), (45, vI 0)], [(qe5 z), qe0], 2, none⟩ K = few05F_s10 w0 w1 z (fun a0 a1 a2 => lpN qe2 (qe1 fuel) qe10 qe9 k ⟨[qe3, qe7, (5, vN), (9, .sl 2 1 0 a0), (43, .ls w1), (44, vI w0), (45, vI a1)], [(qe5 z), qe0, (2, some ⟨9, .ls a2, true⟩)], 3, none⟩ K) (K (.exit 2) ⟨[qe3, qe7, (5, vN), (9, vN)], [(qe5 z), qe0], 2, none⟩) := by kernel_rfl
noncomputable def few05F_l5 {R : Type} (fuel : Nat) (z : Int) (k0 : Nat → List ByteArray → Option R) (k1 : Option R) : Nat → List ByteArray → Int → Option R
  | 0, _, _ => none
  | k + 1, w0, w1 =>
    (few05F_s10 w1 w0 z (fun a0 a1 a2 => (few05F_l6 fuel w0 w1 z (fun x0 x1 => k0 x0 x1) k a0 a1 a2)) (k1))
theorem few05F_l5_eq (fuel : Nat) (z : Int) (K : Ex → St → Option Out) : ∀ (k : Nat) (w0 : List ByteArray) (w1 : Int), lpN qe2 (qe1 fuel) qe10 qe9 k ⟨[qe3, qe7, (5, vN), (9, vN), (43, .ls w0), (44, vI w1), (45, vI 0)], [(qe5 z), qe0], 2, none⟩ K = few05F_l5 fuel z (fun y0 y1 => K (.exit 2) ⟨[qe3, qe7, (5, vN), (9, .sl 2 1 0 y0)], [(qe5 z), qe0, (2, some ⟨9, .ls y1, true⟩)], 3, none⟩) (K (.exit 2) ⟨[qe3, qe7, (5, vN), (9, vN)], [(qe5 z), qe0], 2, none⟩) k w0 w1
  | 0, _, _ => rfl
  | k + 1, w0, w1 => by
    unfold few05F_l5
    exact (few05F_s10_eq fuel k K w1 w0 z).trans (congr (congr (Eq.refl (few05F_s10 (R := Out) w1 w0 z)) (funext fun a0 => funext fun a1 => funext fun a2 => few05F_l6_eq fuel w0 w1 z K k a0 a1 a2)) (rfl))
noncomputable def few05F_s12 {R : Type} (z : Int) (x0 : List ByteArray) (x1 : Nat) (c0 : Int → List ByteArray → Option R) : Option R :=
  c0 z ((x0.drop 0).take x1)
theorem few05F_s12_eq (fuel : Nat)  (z : Int) (x0 : List ByteArray) (x1 : Nat) : (kont (qe1 fuel) qe8 qe13 48 (endK Tryd.prog 0 0 28)) (.exit 2) ⟨[qe3, qe7, (5, vN), (9, .sl 2 1 0 x1)], [(qe5 z), qe0, (2, some ⟨9, .ls x0, true⟩)], 3, none⟩ = few05F_s12 z x0 x1 (fun a0 a1 => some (.tup [.agg [vI a0, vN], .ls a1], [])) := by kernel_rfl
noncomputable def few05F_s13 {R : Type} (z : Int) (c0 : Int → Option R) : Option R :=
  c0 z
theorem few05F_s13_eq (fuel : Nat)  (z : Int) : (kont (qe1 fuel) qe8 qe13 48 (endK Tryd.prog 0 0 28)) (.exit 2) ⟨[qe3, qe7, (5, vN), (9, vN)], [(qe5 z), qe0], 2, none⟩ = few05F_s13 z (fun a0 => some (.tup [.agg [vI a0, vN], vN], [])) := by kernel_rfl
noncomputable def few05F_s9 {R : Type} (l : List ByteArray) (z : Int) (m : List (Int × List Int)) (c0 : List ByteArray → Int → Option R) : Option R :=
  bnd (upTo (min ((l.length : Nat) : Int) 66) l.length) fun j0 =>
  c0 ((l.drop 0).take (j0 - 0)) ((((l.drop 0).take (j0 - 0)).length : Nat) : Int)
theorem few05F_s9_eq (fuel : Nat)  (l : List ByteArray) (z : Int) (m : List (Int × List Int)) : (kont (qe1 fuel) qe8 [1, 1, 0, 1, 0] 48 (endK Tryd.prog 0 0 28)) (.exit 0) ⟨[(1, .ls l), qe3, qe7, (5, vN), (6, vN)], [(qe6 z m), qe0], 2, none⟩ = few05F_s9 l z m (fun a0 a1 => lpN qe2 (qe1 fuel) qe10 qe9 fuel ⟨[qe3, qe7, (5, vN), (9, vN), (43, .ls a0), (44, vI a1), (45, vI 0)], [(qe5 z), qe0], 2, none⟩ (kont (qe1 fuel) qe8 qe13 48 (endK Tryd.prog 0 0 28))) := by kernel_rfl
noncomputable def few05F_s1 {R : Type} (m : List (Int × List Int)) (z : Int) (l : List ByteArray) (c0 : (List (Int × List Int)) → Int → Option R) : Option R :=
  bnd (upTo (min ((m.length : Nat) : Int) 66) m.length) fun j1 =>
  c0 ((m.drop 0).take (j1 - 0)) ((((m.drop 0).take (j1 - 0)).length : Nat) : Int)
theorem few05F_s1_eq (fuel : Nat)  (m : List (Int × List Int)) (z : Int) (l : List ByteArray) : callN Tryd.prog mode21 T_Fits fuel 28 [.agg [vI z, vR m], .ls l] [] = few05F_s1 m z l (fun a0 a1 => lpN qe12 (qe1 fuel) 1152921367167896182 qe14 fuel ⟨[(1, .ls l), qe3, qe7, (5, vN), (6, vN), (18, vR a0), (19, vI a1), (20, vI 0)], [(qe6 z m), qe0], 2, none⟩ (kont (qe1 fuel) qe8 [1, 1, 0, 1, 0] 48 (endK Tryd.prog 0 0 28))) := by kernel_rfl
noncomputable def few05F {R : Type} (fuel : Nat) (z : Int) (m : List (Int × List Int)) (l : List ByteArray) (r0 : Int → (List (Int × List Int)) → List ByteArray → Option R) (r1 : Int → (List (Int × List Int)) → Option R) (r2 : Int → List ByteArray → Option R) (r3 : Int → Option R) : Option R :=
  (few05F_s1 m z l (fun a0 a1 => (few05F_l1 fuel l z m (fun x0 x1 => (few05F_s4 l x0 z m x1 (fun a2 a3 => (few05F_l3 fuel z x0 x1 (fun x2 x3 => (few05F_s7 z x1 x0 x3 x2 (fun a4 a5 a6 => r0 a4 a5 a6))) ((few05F_s8 z x1 x0 (fun a7 a8 => r1 a7 a8))) fuel a2 a3)))) ((few05F_s9 l z m (fun a9 a10 => (few05F_l5 fuel z (fun x4 x5 => (few05F_s12 z x5 x4 (fun a11 a12 => r2 a11 a12))) ((few05F_s13 z (fun a13 => r3 a13))) fuel a9 a10)))) fuel a0 a1)))
theorem few05F_eq (fuel : Nat) (z : Int) (m : List (Int × List Int)) (l : List ByteArray) : callN Tryd.prog mode21 T_Fits fuel 28 [.agg [.s (.int .i64 z), .lt (.pair (.int .i64) (.sl (.int .u64))) m], .ls l] [] = few05F fuel z m l (fun z0 z1 z2 => some (.tup [.agg [.s (.int .i64 z0), .lt (.pair (.int .i64) (.sl (.int .u64))) z1], .ls z2], [])) (fun z0 z1 => some (.tup [.agg [.s (.int .i64 z0), .lt (.pair (.int .i64) (.sl (.int .u64))) z1], .s (.slice none 0 0)], [])) (fun z0 z1 => some (.tup [.agg [.s (.int .i64 z0), .s (.slice none 0 0)], .ls z1], [])) (fun z0 => some (.tup [.agg [.s (.int .i64 z0), .s (.slice none 0 0)], .s (.slice none 0 0)], [])) := by
  unfold few05F
  exact (few05F_s1_eq fuel  m z l).trans (congr (Eq.refl (few05F_s1 (R := Out) m z l)) (funext fun a0 => funext fun a1 => (few05F_l1_eq fuel l z m (kont (qe1 fuel) qe8 [1, 1, 0, 1, 0] 48 (endK Tryd.prog 0 0 28)) fuel a0 a1).trans (congrFun (congrFun (congrFun (congr (congr (Eq.refl (few05F_l1 (R := Out) fuel l z m)) (funext fun x0 => funext fun x1 => (few05F_s4_eq fuel  l x0 z m x1).trans (congr (Eq.refl (few05F_s4 (R := Out) l x0 z m x1)) (funext fun a2 => funext fun a3 => (few05F_l3_eq fuel z x0 x1 (kont (qe1 fuel) qe8 qe13 48 (endK Tryd.prog 0 0 28)) fuel a2 a3).trans (congrFun (congrFun (congrFun (congr (congr (Eq.refl (few05F_l3 (R := Out) fuel z x0 x1)) (funext fun x2 => funext fun x3 => (few05F_s7_eq fuel  z x1 x0 x3 x2))) ((few05F_s8_eq fuel  z x1 x0))) fuel) a2) a3))))) ((few05F_s9_eq fuel  l z m).trans (congr (Eq.refl (few05F_s9 (R := Out) l z m)) (funext fun a4 => funext fun a5 => (few05F_l5_eq fuel z (kont (qe1 fuel) qe8 qe13 48 (endK Tryd.prog 0 0 28)) fuel a4 a5).trans (congrFun (congrFun (congrFun (congr (congr (Eq.refl (few05F_l5 (R := Out) fuel z)) (funext fun x4 => funext fun x5 => (few05F_s12_eq fuel  z x5 x4))) ((few05F_s13_eq fuel  z))) fuel) a4) a5))))) fuel) a0) a1)))
theorem cut3_of (r : Rw) : (r.1, (r.2.drop 0).take (min r.2.length 3 - 0)) = (r.1, r.2.take 3) := by
  rw [List.drop_zero, Nat.sub_zero]
  by_cases h : r.2.length ≤ 3
  · rw [Nat.min_eq_left h, List.take_length, List.take_of_length_le h]
  · rw [Nat.min_eq_right (by omega)]
theorem up_to (n : Nat) (k : Nat) {c : Int} (h : c = (k : Int)) : upTo (min ((n : Nat) : Int) c) n = some (min n k) := by subst h; rw [upTo_of (by omega) (by omega)]; congr 1; omega
theorem take_to {α : Type} (l : List α) (k : Nat) : (l.drop 0).take (min l.length k - 0) = l.take k := by
  rw [List.drop_zero, Nat.sub_zero]
  by_cases h : l.length ≤ k
  · rw [Nat.min_eq_left h, List.take_length, List.take_of_length_le h]
  · rw [Nat.min_eq_right (by omega)]
theorem few05_rows {R : Type} (fuel : Nat) (l : List ByteArray) (w : List Rw) (hw : w.length ≤ 66) (z : Int) (m : List Rw) (k0 : Nat → List Rw → Option R) : ∀ (k j : Nat) (acc : List Rw), j ≤ w.length → w.length < j + k → acc.length ≤ j →
    few05F_l2 fuel l w (w.length : Int) z m k0 k acc.length (j : Int) acc = k0 (acc ++ (w.drop j).map (fun r => (r.1, r.2.take 3))).length (acc ++ (w.drop j).map (fun r => (r.1, r.2.take 3)))
  | 0, j, acc, h1, h2, _ => by omega
  | k + 1, j, acc, h1, h2, ha => by
    unfold few05F_l2 few05F_s3
    rw [br_if]
    by_cases hc : j < w.length
    · rw [if_pos (by simpa using hc), bnd_of ((ix_nat w j).trans (List.getElem?_eq_getElem hc)), bnd_of (up_to _ 3 (c := 3) rfl), grd_of (beq_self _), grd_of (okN_of (by omega) (by omega)), cut3_of, wrap_i64 (by omega) (by omega), show (j : Int) + 1 = ((j + 1 : Nat) : Int) by omega, List.drop_eq_getElem_cons hc, List.map_cons]
      have := few05_rows fuel l w hw z m k0 k (j + 1) (acc ++ [((w[j]).1, (w[j]).2.take 3)]) (by omega) (by omega) (by simp; omega)
      rw [List.append_assoc] at this
      exact this
    · rw [if_neg (by simpa using hc), List.drop_eq_nil_of_le (by omega)]
      simp
theorem few05_rows1 {R : Type} (fuel : Nat) (l : List ByteArray) (w : List Rw) (hw : w.length ≤ 66) (z : Int) (m : List Rw) (k0 : Nat → List Rw → Option R) (k1 : Option R) (k : Nat) (hk : w.length + 1 < k) :
    few05F_l1 fuel l z m k0 k1 k w (w.length : Int) = if w.length = 0 then k1 else k0 (w.map (fun r => (r.1, r.2.take 3))).length (w.map (fun r => (r.1, r.2.take 3))) := by
  cases k with
  | zero => omega
  | succ k =>
    unfold few05F_l1 few05F_s2
    dsimp only
    rw [br_if]
    by_cases hy : 0 < w.length
    · have e0 : ix w 0 = some w[0] := (ix_nat w 0).trans (List.getElem?_eq_getElem hy)
      rw [if_pos (by simpa using hy), if_neg (by omega), bnd_of e0, bnd_of (up_to _ 3 (c := 3) rfl), cut3_of]
      have ho := few05_rows (R := R) fuel l w hw z m k0 k 1 [((w[0]).1, (w[0]).2.take 3)] (by omega) (by omega) (by simp)
      have hy1 : [((w[0]).1, (w[0]).2.take 3)] ++ (w.drop 1).map (fun r => (r.1, r.2.take 3)) = w.map (fun r => (r.1, r.2.take 3)) := by
        cases w with
        | nil => simp at hy
        | cons a t => rfl
      rw [hy1] at ho
      exact ho
    · rw [if_neg (by simpa using hy), if_pos (by omega)]
theorem few05_bA {R : Type} (fuel : Nat) (z : Int) (x44 : Nat) (x45 : List Rw) (w : List ByteArray) (hw : w.length ≤ 66) (k0 : Nat → List ByteArray → Option R) : ∀ (k j : Nat) (acc : List ByteArray), j ≤ w.length → w.length < j + k → acc.length ≤ j →
    few05F_l4 fuel w (w.length : Int) z x44 x45 k0 k acc.length (j : Int) acc = k0 (acc ++ (w.drop j).map (fun s : ByteArray => s.extract 0 (min s.size 66))).length (acc ++ (w.drop j).map (fun s : ByteArray => s.extract 0 (min s.size 66)))
  | 0, j, acc, h1, h2, _ => by omega
  | k + 1, j, acc, h1, h2, ha => by
    unfold few05F_l4 few05F_s6
    rw [br_if]
    by_cases hc : j < w.length
    · rw [if_pos (by simpa using hc), bnd_of ((ix_nat w j).trans (List.getElem?_eq_getElem hc)), bnd_of (up_to _ 66 (c := 66) rfl), grd_of (beq_self _), grd_of (okN_of (by omega) (by omega)), wrap_i64 (by omega) (by omega), show (j : Int) + 1 = ((j + 1 : Nat) : Int) by omega, List.drop_eq_getElem_cons hc, List.map_cons]
      have := few05_bA fuel z x44 x45 w hw k0 k (j + 1) (acc ++ [(w[j]).extract 0 (min (w[j]).size 66)]) (by omega) (by omega) (by simp; omega)
      rw [List.append_assoc] at this
      exact this
    · rw [if_neg (by simpa using hc), List.drop_eq_nil_of_le (by omega)]
      simp
theorem few05_bA1 {R : Type} (fuel : Nat) (z : Int) (x44 : Nat) (x45 : List Rw) (w : List ByteArray) (hw : w.length ≤ 66) (k0 : Nat → List ByteArray → Option R) (k1 : Option R) (k : Nat) (hk : w.length + 1 < k) :
    few05F_l3 fuel z x44 x45 k0 k1 k w (w.length : Int) = if w.length = 0 then k1 else k0 (w.map (fun s : ByteArray => s.extract 0 (min s.size 66))).length (w.map (fun s : ByteArray => s.extract 0 (min s.size 66))) := by
  cases k with
  | zero => omega
  | succ k =>
    unfold few05F_l3 few05F_s5
    dsimp only
    rw [br_if]
    by_cases hy : 0 < w.length
    · have e0 : ix w 0 = some w[0] := (ix_nat w 0).trans (List.getElem?_eq_getElem hy)
      rw [if_pos (by simpa using hy), if_neg (by omega), bnd_of e0, bnd_of (up_to _ 66 (c := 66) rfl)]
      have ho := few05_bA (R := R) fuel z x44 x45 w hw k0 k 1 [(w[0]).extract 0 (min (w[0]).size 66)] (by omega) (by omega) (by simp)
      have hy1 : [(w[0]).extract 0 (min (w[0]).size 66)] ++ (w.drop 1).map (fun s : ByteArray => s.extract 0 (min s.size 66)) = w.map (fun s : ByteArray => s.extract 0 (min s.size 66)) := by
        cases w with
        | nil => simp at hy
        | cons a t => rfl
      rw [hy1] at ho
      exact ho
    · rw [if_neg (by simpa using hy), if_pos (by omega)]
theorem few05_bB {R : Type} (fuel : Nat) (z : Int) (w : List ByteArray) (hw : w.length ≤ 66) (k0 : Nat → List ByteArray → Option R) : ∀ (k j : Nat) (acc : List ByteArray), j ≤ w.length → w.length < j + k → acc.length ≤ j →
    few05F_l6 fuel w (w.length : Int) z k0 k acc.length (j : Int) acc = k0 (acc ++ (w.drop j).map (fun s : ByteArray => s.extract 0 (min s.size 66))).length (acc ++ (w.drop j).map (fun s : ByteArray => s.extract 0 (min s.size 66)))
  | 0, j, acc, h1, h2, _ => by omega
  | k + 1, j, acc, h1, h2, ha => by
    unfold few05F_l6 few05F_s11
    rw [br_if]
    by_cases hc : j < w.length
    · rw [if_pos (by simpa using hc), bnd_of ((ix_nat w j).trans (List.getElem?_eq_getElem hc)), bnd_of (up_to _ 66 (c := 66) rfl), grd_of (beq_self _), grd_of (okN_of (by omega) (by omega)), wrap_i64 (by omega) (by omega), show (j : Int) + 1 = ((j + 1 : Nat) : Int) by omega, List.drop_eq_getElem_cons hc, List.map_cons]
      have := few05_bB fuel z w hw k0 k (j + 1) (acc ++ [(w[j]).extract 0 (min (w[j]).size 66)]) (by omega) (by omega) (by simp; omega)
      rw [List.append_assoc] at this
      exact this
    · rw [if_neg (by simpa using hc), List.drop_eq_nil_of_le (by omega)]
      simp
theorem few05_bB1 {R : Type} (fuel : Nat) (z : Int) (w : List ByteArray) (hw : w.length ≤ 66) (k0 : Nat → List ByteArray → Option R) (k1 : Option R) (k : Nat) (hk : w.length + 1 < k) :
    few05F_l5 fuel z k0 k1 k w (w.length : Int) = if w.length = 0 then k1 else k0 (w.map (fun s : ByteArray => s.extract 0 (min s.size 66))).length (w.map (fun s : ByteArray => s.extract 0 (min s.size 66))) := by
  cases k with
  | zero => omega
  | succ k =>
    unfold few05F_l5 few05F_s10
    dsimp only
    rw [br_if]
    by_cases hy : 0 < w.length
    · have e0 : ix w 0 = some w[0] := (ix_nat w 0).trans (List.getElem?_eq_getElem hy)
      rw [if_pos (by simpa using hy), if_neg (by omega), bnd_of e0, bnd_of (up_to _ 66 (c := 66) rfl)]
      have ho := few05_bB (R := R) fuel z w hw k0 k 1 [(w[0]).extract 0 (min (w[0]).size 66)] (by omega) (by omega) (by simp)
      have hy1 : [(w[0]).extract 0 (min (w[0]).size 66)] ++ (w.drop 1).map (fun s : ByteArray => s.extract 0 (min s.size 66)) = w.map (fun s : ByteArray => s.extract 0 (min s.size 66)) := by
        cases w with
        | nil => simp at hy
        | cons a t => rfl
      rw [hy1] at ho
      exact ho
    · rw [if_neg (by simpa using hy), if_pos (by omega)]

theorem few05_fact (z : Int) (m : List (Int × List Int)) (l : List ByteArray) : Fact Tryd.prog gTab 28 [.agg [.s (.int .i64 z), .lt (.pair (.int .i64) (.sl (.int .u64))) m], .ls l] [] (.tup [.agg [.s (.int .i64 z), .lt (.pair (.int .i64) (.sl (.int .u64))) ((fewRS m) : List (Int × List Int))], .ls (fewBS l)], []) := by
  have hx : (m.take 66).length ≤ 66 := by rw [List.length_take]; omega
  have hy : (l.take 66).length ≤ 66 := by rw [List.length_take]; omega
  have hwalk : callN Tryd.prog mode21 T_Fits 70 28 [.agg [.s (.int .i64 z), .lt (.pair (.int .i64) (.sl (.int .u64))) m], .ls l] [] =
      if (m.take 66).length = 0 then (if (l.take 66).length = 0 then some (.tup [.agg [.s (.int .i64 z), .s (.slice none 0 0)], .s (.slice none 0 0)], []) else some (.tup [.agg [.s (.int .i64 z), .s (.slice none 0 0)], .ls (fewBS l)], []))
      else (if (l.take 66).length = 0 then some (.tup [.agg [.s (.int .i64 z), .lt (.pair (.int .i64) (.sl (.int .u64))) (fewRS m)], .s (.slice none 0 0)], []) else some (.tup [.agg [.s (.int .i64 z), .lt (.pair (.int .i64) (.sl (.int .u64))) (fewRS m)], .ls (fewBS l)], [])) := by
    rw [few05F_eq]
    unfold few05F few05F_s1
    rw [bnd_of (up_to _ 66 (c := 66) rfl), take_to]
    dsimp only
    rw [few05_rows1 (R := Out) 70 l (m.take 66) hx z m _ _ 70 (by omega)]
    have e1 : (m.take 66).map (fun r => (r.1, r.2.take 3)) = fewRS m := by rw [fewRS_eq]; rfl
    have e2 : (l.take 66).map (fun s => s.extract 0 (min s.size 66)) = fewBS l := by rw [fewBS_eq]; rfl
    by_cases h : (m.take 66).length = 0
    · rw [if_pos h, if_pos h]
      unfold few05F_s9
      rw [bnd_of (up_to _ 66 (c := 66) rfl), take_to]
      dsimp only
      rw [few05_bB1 (R := Out) 70 z (l.take 66) hy _ _ 70 (by omega), e2]
      by_cases g : (l.take 66).length = 0
      · rw [if_pos g, if_pos g]; rfl
      · rw [if_neg g, if_neg g]
        unfold few05F_s12
        rw [List.drop_zero, List.take_length]
    · rw [if_neg h, if_neg h, e1]
      unfold few05F_s4
      rw [bnd_of (up_to _ 66 (c := 66) rfl), take_to]
      dsimp only
      rw [few05_bA1 (R := Out) 70 z _ _ (l.take 66) hy _ _ 70 (by omega), e2]
      by_cases g : (l.take 66).length = 0
      · rw [if_pos g, if_pos g]
        unfold few05F_s8
        rw [List.drop_zero, List.take_length]
      · rw [if_neg g, if_neg g]
        unfold few05F_s7
        rw [List.drop_zero, List.take_length, List.drop_zero, List.take_length]
  have n1 : (m.take 66).length = 0 → fewRS m = [] := fun h => by rw [fewRS_eq]; unfold fewRI; rw [List.eq_nil_of_length_eq_zero h]; rfl
  have n2 : (l.take 66).length = 0 → fewBS l = [] := fun h => by rw [fewBS_eq]; unfold fewBI; rw [List.eq_nil_of_length_eq_zero h]; rfl
  by_cases h : (m.take 66).length = 0
  · rw [if_pos h] at hwalk
    rw [n1 h]
    by_cases g : (l.take 66).length = 0
    · rw [if_pos g] at hwalk
      rw [n2 g]
      exact (callN_fact hN hM T_Fits_ok hwalk).out fun _ _ _ x h => RV_tup_two (fun _ h => RVs_two (fun _ h => RV_agg_two (fun _ h => RVs_two (fun _ h => h) (fun _ h => RVs_two (fun _ h => RV_nil_sl (s := .pair (.int .i64) (.sl (.int .u64))) h) (fun _ h => h) h) h) h) (fun _ h => RVs_two (fun _ h => RV_nil_ls h) (fun _ h => h) h) h) h
    · rw [if_neg g] at hwalk
      exact (callN_fact hN hM T_Fits_ok hwalk).out fun _ _ _ x h => RV_tup_two (fun _ h => RVs_two (fun _ h => RV_agg_two (fun _ h => RVs_two (fun _ h => h) (fun _ h => RVs_two (fun _ h => RV_nil_sl (s := .pair (.int .i64) (.sl (.int .u64))) h) (fun _ h => h) h) h) h) (fun _ h => h) h) h
  · rw [if_neg h] at hwalk
    by_cases g : (l.take 66).length = 0
    · rw [if_pos g] at hwalk
      rw [n2 g]
      exact (callN_fact hN hM T_Fits_ok hwalk).out fun _ _ _ x h => RV_tup_two (fun _ h => RVs_two (fun _ h => h) (fun _ h => RVs_two (fun _ h => RV_nil_ls h) (fun _ h => h) h) h) h
    · rw [if_neg g] at hwalk
      exact callN_fact hN hM T_Fits_ok hwalk
noncomputable def few05_ent : List V → List Blk → Option (Bool × Out)
  | [.agg [.s (.int .i64 z), w0], w1], [] => (asSl (.pair (.int .i64) (.sl (.int .u64))) w0).bind fun m => (asSl .str w1).bind fun l => some (true, (.tup [.agg [.s (.int .i64 z), .lt (.pair (.int .i64) (.sl (.int .u64))) ((fewRS m) : List (Int × List Int))], .ls (fewBS l)], []))
  | _, _ => none
theorem few05_ok : ∀ args bs out, few05_ent args bs = some (true, out) → Fact Tryd.prog gTab 28 args bs out := by
  intro args bs out h
  unfold few05_ent at h
  split at h
  · rename_i z w0 w1
    obtain ⟨m, h_m, h⟩ := Option.bind_eq_some_iff.1 h
    obtain ⟨l, h_l, h⟩ := Option.bind_eq_some_iff.1 h
    simp only [Option.some.injEq, Prod.mk.injEq] at h
    obtain ⟨_, rfl⟩ := h
    exact (few05_fact z m l).args (fun _ _ _ => fun _ h => RVs_two (fun _ h => RV_agg_two (fun _ h => RVs_two (fun _ h => h) (fun _ h => RVs_two (fun _ h => RV_sl (s := (.pair (.int .i64) (.sl (.int .u64)))) h_m h) (fun _ h => h) h) h) h) (fun _ h => RVs_two (fun _ h => RV_ls h_l h) (fun _ h => h) h) h)
  · cases h
noncomputable def T_few05 : Tbl := Tbl.cons 28 few05_ent T_Fits
theorem T_few05_ok : CallOk Tryd.prog gTab T_few05 := cons_ok T_Fits_ok few05_ok
/-! downpour/downpourlaw05.alive -/
noncomputable def bsaliveF_s1 {R : Type}  (c0 : Bool → Option R) : Option R :=
  grd (okM ([(2, [3]), (2, [2])]) && decide (([(2, [3]), (2, [2])]).length ≤ 1000)) <|
  br (((slE 2 ([(2, [3]), (2, [2])]) 1 ([(⟨#[97]⟩ : ByteArray), (⟨#[98]⟩ : ByteArray)])) : Int) == 0)
    (br (((((slL 2 ([(2, [3]), (2, [2])]) 1 ([(⟨#[97]⟩ : ByteArray), (⟨#[98]⟩ : ByteArray)])).length : Nat) : Int) : Int) == 2)
      (bnd (ix (slL 2 ([(2, [3]), (2, [2])]) 1 ([(⟨#[97]⟩ : ByteArray), (⟨#[98]⟩ : ByteArray)])) 0) fun e1 =>
      br (eqS e1 (⟨#[3]⟩ : ByteArray))
        (bnd (ix (slL 2 ([(2, [3]), (2, [2])]) 1 ([(⟨#[97]⟩ : ByteArray), (⟨#[98]⟩ : ByteArray)])) 1) fun e2 =>
        c0 (eqS e2 (⟨#[98]⟩ : ByteArray)))
        (c0 false))
      (c0 false))
    (c0 false)
theorem bsaliveF_s1_eq (fuel : Nat)   : callN Tryd.prog mode21 T_few05 fuel 33 [] [] = bsaliveF_s1  (fun a3 => some (vB a3, [])) := by kernel_rfl
noncomputable def bsaliveF {R : Type} (fuel : Nat)  (r0 : Bool → Option R) : Option R :=
  (bsaliveF_s1 (fun a3 => r0 a3))
theorem bsaliveF_eq (fuel : Nat)  : callN Tryd.prog mode21 T_few05 fuel 33 [] [] = bsaliveF fuel  (fun z0 => some (.s (.bool z0), [])) := by
  unfold bsaliveF
  exact (bsaliveF_s1_eq fuel  )
theorem sa_ok : okM [(2, [3]), (2, [2])] = true := by rw [okM_eq]; unfold okMI; rw [okW_eq]; decide +kernel
theorem sa_may : mrt 2 [(2, [3]), (2, [2])] = true := by rw [mrt_eq]; unfold mrtI; rw [badR_eq]; unfold badI; rw [rtS_eq]; unfold rtI; rw [nw_eq]; decide +kernel
theorem sa_bm : bmayE 2 [(2, [3]), (2, [2])] 1 [(⟨#[97]⟩ : ByteArray), (⟨#[98]⟩ : ByteArray)] = 0 := by
  refine bmay_iff.2 ⟨sa_may, ?_, rfl⟩
  rw [bok_eq]; decide +kernel
theorem sa_augs : augs 2 [(2, [3]), (2, [2])] [(⟨#[97]⟩ : ByteArray), (⟨#[98]⟩ : ByteArray)] = [391, 394] := by decide +kernel
theorem sa_red : red [391, 394] = [(0, 13), (1, 394)] := by
  refine red_eq ⟨⟨fun x hx => ?_, ?_, fun x hx y hy hne => ?_⟩, fun w => ⟨Sp.mono fun a ha => ?_, Sp.mono fun a ha => ?_⟩⟩
  · simp only [List.mem_cons, List.not_mem_nil, or_false] at hx
    rcases hx with rfl | rfl
    · exact ⟨by decide +kernel, fun q hq => by omega⟩
    · exact ⟨by decide +kernel, fun q hq => by
        have : q = 0 := by omega
        subst this; decide +kernel⟩
  · simp
  · simp only [List.mem_cons, List.not_mem_nil, or_false] at hx hy
    rcases hx with rfl | rfl <;> rcases hy with rfl | rfl
    · exact absurd rfl hne
    · decide +kernel
    · decide +kernel
    · exact absurd rfl hne
  · simp only [List.mem_map, List.mem_cons, List.not_mem_nil, or_false] at ha
    obtain ⟨x, rfl | rfl, rfl⟩ := ha
    · have h1 : Sp [391, 394] 391 := .of_mem (by simp)
      have h2 : Sp [391, 394] 394 := .of_mem (by simp)
      exact h1.xor h2
    · exact .of_mem (by simp)
  · simp only [List.mem_cons, List.not_mem_nil, or_false] at ha
    have h1 : Sp (Lin.rows [(0, 13), (1, 394)]) 13 := .of_mem (by simp)
    have h2 : Sp (Lin.rows [(0, 13), (1, 394)]) 394 := .of_mem (by simp)
    rcases ha with rfl | rfl
    · exact h1.xor h2
    · exact h2
theorem sa_fit : fitB 2 [(2, [3]), (2, [2])] [(⟨#[97]⟩ : ByteArray), (⟨#[98]⟩ : ByteArray)] = true := by
  refine fit_iff.2 ?_
  rw [sa_augs]
  intro u hu h0
  have hR := red_is [391, 394]
  refine hR.1.eq_zero ((hR.2 u).2 hu) fun x hx => ?_
  rw [sa_red] at hx
  have hb : ∀ i, i < 2 → u.testBit i = false := fun i hi => by
    have := lo_bit (2 : Int).toNat u i
    rw [h0, Nat.zero_testBit] at this
    have h2 : i < (2 : Int).toNat := hi
    rw [decide_eq_true h2, Bool.true_and] at this
    exact this.symm
  simp only [List.mem_cons, List.not_mem_nil, or_false] at hx
  rcases hx with rfl | rfl
  · exact hb 0 (by decide)
  · exact hb 1 (by decide)
theorem sa_kn : knE 2 [(2, [3]), (2, [2])] 1 [(⟨#[97]⟩ : ByteArray), (⟨#[98]⟩ : ByteArray)] = 0 := by rw [knE_eq]; unfold knEI; rw [if_pos sa_bm, if_pos sa_fit]
theorem sa_sl : slE 2 [(2, [3]), (2, [2])] 1 [(⟨#[97]⟩ : ByteArray), (⟨#[98]⟩ : ByteArray)] = 0 ∧ slL 2 [(2, [3]), (2, [2])] 1 [(⟨#[97]⟩ : ByteArray), (⟨#[98]⟩ : ByteArray)] = [(⟨#[3]⟩ : ByteArray), (⟨#[98]⟩ : ByteArray)] := by
  have hA : knA 2 [(2, [3]), (2, [2])] 1 [(⟨#[97]⟩ : ByteArray), (⟨#[98]⟩ : ByteArray)] = [0, 1] := by
    rw [knA_eq]; unfold knAI; rw [if_pos sa_kn, sa_augs, sa_red]; decide +kernel
  have hL : knL 2 [(2, [3]), (2, [2])] 1 [(⟨#[97]⟩ : ByteArray), (⟨#[98]⟩ : ByteArray)] = [(⟨#[3]⟩ : ByteArray), (⟨#[98]⟩ : ByteArray)] := by
    rw [knL_eq]; unfold knLI; rw [if_pos sa_kn, sa_augs, sa_red]; decide +kernel
  have hS : slE 2 [(2, [3]), (2, [2])] 1 [(⟨#[97]⟩ : ByteArray), (⟨#[98]⟩ : ByteArray)] = 0 := by
    rw [slE_eq]; unfold slEI; rw [if_pos sa_kn, hA]; decide
  refine ⟨hS, ?_⟩
  rw [slL_eq]; unfold slLI; rw [if_pos hS, hL]
theorem bsalive_fact  : Fact Tryd.prog gTab 33 [] [] (.s (.bool true), []) := by
  refine callN_fact hN hM T_few05_ok (n := 0) (mode := mode21) ?_
  rw [bsaliveF_eq]
  unfold bsaliveF bsaliveF_s1
  obtain ⟨h1, h2⟩ := sa_sl
  have i0 : ix [(⟨#[3]⟩ : ByteArray), (⟨#[98]⟩ : ByteArray)] 0 = some (⟨#[3]⟩ : ByteArray) := rfl
  have i1 : ix [(⟨#[3]⟩ : ByteArray), (⟨#[98]⟩ : ByteArray)] 1 = some (⟨#[98]⟩ : ByteArray) := rfl
  have e1 : eqS (⟨#[3]⟩ : ByteArray) (⟨#[3]⟩ : ByteArray) = true := eqS_iff.2 rfl
  have e2 : eqS (⟨#[98]⟩ : ByteArray) (⟨#[98]⟩ : ByteArray) = true := eqS_iff.2 rfl
  rw [grd_of (by rw [sa_ok]; rfl), h1, h2, bnd_of i0, e1, br_tt, bnd_of i1, e2]
  rfl
noncomputable def bsalive_ent : List V → List Blk → Option (Bool × Out)
  | [], [] => some (true, (.s (.bool true), []))
  | _, _ => none
theorem bsalive_ok : ∀ args bs out, bsalive_ent args bs = some (true, out) → Fact Tryd.prog gTab 33 args bs out := by
  intro args bs out h
  unfold bsalive_ent at h
  split at h
  · simp only [Option.some.injEq, Prod.mk.injEq] at h
    obtain ⟨_, rfl⟩ := h
    exact bsalive_fact 
  · cases h
noncomputable def T_bsalive : Tbl := Tbl.cons 33 bsalive_ent T_few05
theorem T_bsalive_ok : CallOk Tryd.prog gTab T_bsalive := cons_ok T_few05_ok bsalive_ok
/-! Sums of blocks by rows: the sum by two rows' xor is both sums' xor. -/
theorem xb_nat {a b : List Int} (ha : ByteOk a) (hb : ByteOk b) (hl : a.length = b.length) (i : Nat) : ((xb a b).getD i 0).toNat = (a.getD i 0).toNat ^^^ (b.getD i 0).toNat := by
  have h1 := getD_ok ha i
  have h2 := getD_ok hb i
  by_cases h : i < a.length
  · rw [xb_getD h (by omega), x8_nat h1.1 h1.2 h2.1 h2.2, Int.toNat_natCast]
  · have e : ∀ l : List Int, l.length ≤ i → l.getD i 0 = 0 := fun l hl => by rw [List.getD_eq_getElem?_getD, List.getElem?_eq_none hl]; rfl
    rw [e _ (by rw [xb_len]; omega), e _ (by omega), e _ (by omega)]; rfl
theorem xb_leneq {a b : List Int} (hl : a.length = b.length) : (xb a b).length = a.length := by rw [xb_len]; omega
theorem bytes_ext {a b : List Int} (ha : ByteOk a) (hb : ByteOk b) (hl : a.length = b.length) (h : ∀ i, (a.getD i 0).toNat = (b.getD i 0).toNat) : a = b := by
  refine ext_getD hl fun i _ => ?_
  have h1 := getD_ok ha i
  have h2 := getD_ok hb i
  have := h i
  omega
theorem xb_four {a b c d : List Int} (ha : ByteOk a) (hb : ByteOk b) (hc : ByteOk c) (hd : ByteOk d) (h1 : a.length = b.length) (h2 : a.length = c.length) (h3 : a.length = d.length) : xb (xb a b) (xb c d) = xb (xb a c) (xb b d) := by
  have e1 := xb_leneq h1
  have e2 := xb_leneq (a := c) (b := d) (by omega)
  have e3 := xb_leneq h2
  have e4 := xb_leneq (a := b) (b := d) (by omega)
  refine bytes_ext (xb_ok (xb_ok ha hb) (xb_ok hc hd)) (xb_ok (xb_ok ha hc) (xb_ok hb hd)) (by have e5 := xb_leneq (a := xb a b) (b := xb c d) (by omega); have e6 := xb_leneq (a := xb a c) (b := xb b d) (by omega); omega) fun i => ?_
  rw [xb_nat (xb_ok ha hb) (xb_ok hc hd) (by omega), xb_nat ha hb h1, xb_nat hc hd (by omega), xb_nat (xb_ok ha hc) (xb_ok hb hd) (by omega), xb_nat ha hc h2, xb_nat hb hd (by omega)]
  rw [Nat.xor_assoc, Nat.xor_assoc, ← Nat.xor_assoc (b.getD i 0).toNat, Nat.xor_comm (b.getD i 0).toNat, Nat.xor_assoc (c.getD i 0).toNat]
/-- The sum of those of some blocks whose bits are 1 in a number. -/
noncomputable def selI (n : Nat) (x : List ByteArray) (v : Nat) : Nat → List Int
  | 0 => zb n
  | k + 1 => xb (selI n x v k) (if v.testBit k = true then bytesL (x.getD k ByteArray.empty) else zb n)
theorem zb_len (n : Nat) : (zb n).length = n := by unfold zb; simp
theorem sel_ok (n : Nat) (x : List ByteArray) (v : Nat) : ∀ k, ByteOk (selI n x v k)
  | 0 => zb_ok n
  | k + 1 => by
    rw [selI]
    refine xb_ok (sel_ok n x v k) ?_
    split
    · exact bytes_ok _
    · exact zb_ok n
theorem sel_part {n : Nat} {x : List ByteArray} (hs : ∀ s, s ∈ x → s.size = n) (v : Nat) {k : Nat} (hk : k < x.length) : (if v.testBit k = true then bytesL (x.getD k ByteArray.empty) else zb n).length = n := by
  split
  · rw [bytes_len, List.getD_eq_getElem?_getD, List.getElem?_eq_getElem hk]; exact hs _ (List.getElem_mem hk)
  · exact zb_len n
theorem sel_len {n : Nat} {x : List ByteArray} (hs : ∀ s, s ∈ x → s.size = n) (v : Nat) : ∀ k, k ≤ x.length → (selI n x v k).length = n
  | 0, _ => zb_len n
  | k + 1, h => by
    have := sel_len hs v k (by omega)
    rw [selI, xb_leneq (by rw [this, sel_part hs v (by omega)])]; exact this
theorem sel_xor {n : Nat} {x : List ByteArray} (hs : ∀ s, s ∈ x → s.size = n) (v w : Nat) : ∀ k, k ≤ x.length → selI n x (v ^^^ w) k = xb (selI n x v k) (selI n x w k)
  | 0, _ => by
    have := xb_self (zb_ok n)
    rw [zb_len] at this
    exact this.symm
  | k + 1, h => by
    have l1 := sel_len hs v k (by omega)
    have l2 := sel_len hs w k (by omega)
    have l3 := sel_part hs v (k := k) (by omega)
    have l4 := sel_part hs w (k := k) (by omega)
    have o : ∀ v : Nat, ByteOk (if v.testBit k = true then bytesL (x.getD k ByteArray.empty) else zb n) := fun v => by
      split
      · exact bytes_ok _
      · exact zb_ok n
    rw [selI, selI, selI, sel_xor hs v w k (by omega), xb_four (sel_ok n x v k) (o v) (sel_ok n x w k) (o w) (by omega) (by omega) (by omega)]
    congr 1
    rw [Nat.testBit_xor]
    have lx : (bytesL (x.getD k ByteArray.empty)).length = n := by
      rw [bytes_len, List.getD_eq_getElem?_getD, List.getElem?_eq_getElem (by omega)]; exact hs _ (List.getElem_mem _)
    have hx := bytes_ok (x.getD k ByteArray.empty)
    generalize bytesL (x.getD k ByteArray.empty) = q at lx hx
    have a1 := xb_self hx
    have a2 := xb_zero hx
    have a3 := zero_xb hx
    have a4 := xb_self (zb_ok n)
    rw [lx] at a1 a2 a3
    rw [zb_len] at a4
    cases hv : v.testBit k <;> cases hw : w.testBit k <;> simp [a1, a2, a3, a4]
theorem sel_plc {n : Nat} {x : List ByteArray} (hs : ∀ s, s ∈ x → s.size = n) (v : Nat) : ∀ k, k ≤ x.length → sumL (zb n) ((plc v k).map fun i => x.getD i.toNat ByteArray.empty) = selI n x v k
  | 0, _ => by simp [plc, selI, sumL]
  | k + 1, h => by
    have ih := sel_plc hs v k (by omega)
    rw [plc_succ, List.map_append, selI, ← ih]
    unfold sumL
    rw [List.foldl_append]
    by_cases hb : v.testBit k = true
    · rw [if_pos hb, if_pos hb]
      rfl
    · rw [if_neg hb, if_neg hb]
      have := xb_zero (sel_ok n x v k)
      rw [sel_len hs v k (by omega), ← ih] at this
      exact this.symm
/-- What a row picks of blocks of n bytes. -/
theorem pick_sel {n m : Int} {x : List ByteArray} {ws : List Int} (hok : okW ws = true) (h : rtS m ws = true) (hm : m = (x.length : Int)) (hs : ∀ s, s ∈ x → s.size = n.toNat) : sumS n (pickL x ws) = selI n.toNat x (val ws) x.length := by
  rw [sumS_eq, pickL_eq]
  unfold sumI pickLI
  rw [pl_plc hok h, hm, Int.toNat_natCast]
  exact sel_plc hs (val ws) x.length (Nat.le_refl _)
theorem sel_zero {n : Nat} {x : List ByteArray} (v : Nat) : ∀ k, (∀ b, b < k → v.testBit b = false) → selI n x v k = zb n
  | 0, _ => rfl
  | k + 1, h => by
    rw [selI, sel_zero v k (fun b hb => h b (by omega)), h k (by omega), if_neg (by decide)]
    have := xb_self (zb_ok n)
    rwa [zb_len] at this
theorem sel_one {n : Nat} {x : List ByteArray} (hs : ∀ s, s ∈ x → s.size = n) (i : Nat) : ∀ k, k ≤ x.length → selI n x (2 ^ i) k = if i < k then bytesL (x.getD i ByteArray.empty) else zb n
  | 0, _ => rfl
  | k + 1, h => by
    rw [selI, sel_one hs i k (by omega), Nat.testBit_two_pow]
    have z := xb_self (zb_ok n)
    rw [zb_len] at z
    have hl : ∀ j, j < x.length → (bytesL (x.getD j ByteArray.empty)).length = n := fun j hj => by
      rw [bytes_len, List.getD_eq_getElem?_getD, List.getElem?_eq_getElem hj]; exact hs _ (List.getElem_mem _)
    by_cases h1 : i = k
    · subst h1
      rw [if_neg (Nat.lt_irrefl i), if_pos (decide_eq_true rfl), if_pos (by omega)]
      have := zero_xb (bytes_ok (x.getD i ByteArray.empty))
      rwa [hl i (by omega)] at this
    · rw [if_neg (c := decide (i = k) = true) (by simp [h1])]
      by_cases h2 : i < k
      · rw [if_pos h2, if_pos (by omega)]
        have := xb_zero (bytes_ok (x.getD i ByteArray.empty))
        rwa [hl i (by omega)] at this
      · rw [if_neg h2, if_neg (by omega)]; exact z
/-! Equations that blocks make. -/
section
variable {z n : Int} {u : List Rw} {y : List ByteArray}
theorem applyE_iff : applyE z u n y = 0 ↔ mrt z u = true ∧ bok n y = true ∧ (y.length : Int) = z := by
  rw [applyE_eq]; unfold applyEI
  by_cases hm : mrt z u = true
  · by_cases hb : bok n y = true ∧ (y.length : Int) = z
    · rw [if_pos hm, if_pos hb]; simp [hm, hb]
    · rw [if_pos hm, if_neg hb]; simp; intro _ h1 h2; exact hb ⟨h1, h2⟩
  · rw [if_neg hm]; simp [hm]
variable (hok : okM u = true) (hE : applyE z u n y = 0)
include hE
theorem tl_basic : mrt z u = true ∧ (0 ≤ z ∧ z ≤ 64) ∧ z.toNat = y.length ∧ (∀ s, s ∈ y → s.size = n.toNat) ∧ (0 ≤ n ∧ n ≤ 64) ∧ y.length ≤ 64 ∧ u.length ≤ 64 ∧ applyS z u n y = u.map (fun r => pickT n y r.1 r.2) := by
  obtain ⟨hm, hb, hy⟩ := applyE_iff.1 hE
  obtain ⟨⟨n0, n1⟩, b2, b3⟩ := bok_iff.1 hb
  obtain ⟨hz, hx, _⟩ := mrt_iff.1 hm
  refine ⟨hm, hz, by omega, fun s hs => by have := b3 s hs; omega, ⟨n0, n1⟩, b2, hx, ?_⟩
  rw [applyS_eq]; unfold applyI
  rw [if_pos hE]
theorem tl_one {p : Nat} (hp : p < z.toNat) : txt (byts n.toNat (hi z.toNat (aug z.toNat (2 ^ p) (bval (selI n.toNat y (2 ^ p) y.length))))) = y.getD p ByteArray.empty := by
  obtain ⟨hm, hz, hzn, hs, hn, hy, hx, e⟩ := tl_basic hE
  have hlt : 2 ^ p < 2 ^ z.toNat := Nat.pow_lt_pow_right (by decide) hp
  rw [hi_aug hlt, sel_one hs _ _ (Nat.le_refl _), if_pos (by omega)]
  have e := byts_bval (bytes_ok (y.getD p ByteArray.empty))
  have hl : (bytesL (y.getD p ByteArray.empty)).length = n.toNat := by
    rw [bytes_len, List.getD_eq_getElem?_getD, List.getElem?_eq_getElem (by omega)]; exact hs _ (List.getElem_mem _)
  rw [hl] at e
  rw [e, txt_bytes]
include hok
theorem tl_pick {r : Rw} (hr : r ∈ u) : pickT n y r.1 r.2 = txt (selI n.toNat y (val r.2) y.length) := by
  obtain ⟨hm, hb, hy⟩ := applyE_iff.1 hE
  obtain ⟨_, _, _, hs, _, _, _, _⟩ := tl_basic hE
  obtain ⟨_, _, hrows⟩ := mrt_iff.1 hm
  obtain ⟨h1, h2⟩ := hrows r hr
  have h3 : pickE n y r.1 r.2 = 0 := by
    rw [pickE_eq]; unfold pickEI
    rw [if_pos hb, if_pos ⟨h2, by omega⟩]
  rw [pickT_eq]; unfold pickTI
  rw [if_pos h3, pick_sel (okM_iff.1 hok r hr) h2 (by omega) hs]
theorem tl_may : bmayE z u n (applyS z u n y) = 0 := by
  obtain ⟨hm, hz, hzn, hs, hn, hy, hx, e⟩ := tl_basic hE
  refine bmay_iff.2 ⟨hm, bok_iff.2 ⟨hn, by rw [e, List.length_map]; exact hx, fun s h => ?_⟩, by rw [e, List.length_map]⟩
  rw [e] at h
  obtain ⟨r, hr, rfl⟩ := List.mem_map.1 h
  rw [tl_pick hok hE hr, txt_size, sel_len hs _ _ (Nat.le_refl _)]
  omega
theorem tl_augs : augs z u (applyS z u n y) = (vals u).map fun v => aug z.toNat v (bval (selI n.toNat y v y.length)) := by
  obtain ⟨hm, hz, hzn, hs, hn, hy, hx, e⟩ := tl_basic hE
  rw [e]
  have key : ∀ t : List Rw, (∀ r, r ∈ t → r ∈ u) → t.zipWith (fun r s => aug z.toNat (val r.2) (bval (bytesL s))) (t.map fun r => pickT n y r.1 r.2) = (t.map fun r => val r.2).map fun v => aug z.toNat v (bval (selI n.toNat y v y.length)) := by
    intro t
    induction t with
    | nil => intro _; rfl
    | cons r t ih =>
      intro h
      rw [List.map_cons, List.zipWith_cons_cons, ih fun r hr => h r (List.mem_cons_of_mem _ hr), List.map_cons, List.map_cons, tl_pick hok hE (h r List.mem_cons_self), bytes_txt (sel_ok _ _ _ _)]
  exact key u fun r h => h
theorem tl_span {w : Nat} (hw : Sp (augs z u (applyS z u n y)) w) : w = aug z.toNat (lo z.toNat w) (bval (selI n.toNat y (lo z.toNat w) y.length)) := by
  obtain ⟨hm, hz, hzn, hs, hn, hy, hx, e⟩ := tl_basic hE
  obtain ⟨_, hv, _⟩ := mrt_vals hok hm
  rw [tl_augs hok hE] at hw
  induction hw with
  | zero =>
    rw [lo_zero, sel_zero _ _ (fun b _ => Nat.zero_testBit b), bval_zb]; simp [aug]
  | @step a v ha _ ih =>
    obtain ⟨b, hb, rfl⟩ := List.mem_map.1 ha
    have hb' := hv.mem hb
    rw [lo_xor, lo_aug hb', sel_xor hs _ _ _ (Nat.le_refl _), bval_xb (sel_ok _ _ _ _) (sel_ok _ _ _ _) (by rw [sel_len hs _ _ (Nat.le_refl _), sel_len hs _ _ (Nat.le_refl _)]), ← aug_xor (lo_lt _ _) hb', ← ih]
theorem tl_fit : Fit z.toNat (augs z u (applyS z u n y)) := fun w hw h0 => by
  have := tl_span hok hE hw
  rw [h0, sel_zero _ _ (fun b _ => Nat.zero_testBit b), bval_zb] at this
  rw [this]; simp [aug]
theorem tl_lo : (augs z u (applyS z u n y)).map (lo z.toNat) = vals u := by
  obtain ⟨hm, hz, hzn, hs, hn, hy, hx, e⟩ := tl_basic hE
  obtain ⟨_, hv, _⟩ := mrt_vals hok hm
  rw [tl_augs hok hE, List.map_map]
  refine (List.map_congr_left fun v h => ?_).trans (List.map_id _)
  exact lo_aug (hv.mem h)
theorem tl_kn : knE z u n (applyS z u n y) = 0 ∧ ftB z u n (applyS z u n y) = true := by
  have h1 := tl_may hok hE
  have h2 := fit_iff.2 (tl_fit hok hE)
  rw [knE_eq, ftB_eq]; unfold knEI ftBI
  rw [if_pos h1, if_pos h2, h1, h2]
  exact ⟨rfl, rfl⟩
theorem tl_mem {x : Nat × Nat} (hx : x ∈ (red (augs z u (applyS z u n y))).filter (isTold z)) : x.1 < z.toNat ∧ lo z.toNat x.2 = 2 ^ x.1 ∧ x.2 = aug z.toNat (2 ^ x.1) (bval (selI n.toNat y (2 ^ x.1) y.length)) := by
  obtain ⟨h1, h2⟩ := List.mem_filter.1 hx
  have h3 : lo z.toNat x.2 = 2 ^ x.1 := of_decide_eq_true h2
  refine ⟨(fit_places (tl_fit hok hE) h1).1, h3, ?_⟩
  have := tl_span hok hE (((red_is _).2 _).1 (.of_mem (List.mem_map.2 ⟨x, h1, rfl⟩)))
  rwa [h3] at this
theorem tl_known : knA z u n (applyS z u n y) = ((red (augs z u (applyS z u n y))).filter (isTold z)).map (fun x => (x.1 : Int)) ∧ knL z u n (applyS z u n y) = (knA z u n (applyS z u n y)).map fun i => y.getD i.toNat ByteArray.empty := by
  obtain ⟨h1, _⟩ := tl_kn hok hE
  have hA : knA z u n (applyS z u n y) = ((red (augs z u (applyS z u n y))).filter (isTold z)).map (fun x => (x.1 : Int)) := by rw [knA_eq]; unfold knAI; rw [if_pos h1]
  refine ⟨hA, ?_⟩
  rw [hA, knL_eq]; unfold knLI
  rw [if_pos h1, List.map_map]
  refine List.map_congr_left fun x hx => ?_
  obtain ⟨a, b, c⟩ := tl_mem hok hE hx
  show txt (byts n.toNat (hi z.toNat x.2)) = y.getD ((x.1 : Nat) : Int).toNat ByteArray.empty
  rw [Int.toNat_natCast, c]
  exact tl_one hE a
theorem tl_range {i : Int} (h : i ∈ knA z u n (applyS z u n y)) : 0 ≤ i ∧ i < (y.length : Int) := by
  obtain ⟨hm, hz, hzn, hs, hn, hy, hx, e⟩ := tl_basic hE
  rw [(tl_known hok hE).1] at h
  obtain ⟨x, hx, rfl⟩ := List.mem_map.1 h
  have := (tl_mem hok hE hx).1
  omega
theorem tl_rise : (knA z u n (applyS z u n y)).Pairwise (· < ·) := by
  rw [(tl_known hok hE).1, List.pairwise_map]
  refine (List.Pairwise.filter _ (red_is _).1.inc).imp fun h => ?_
  omega
theorem tl_iff (p : Nat) : (p : Int) ∈ knA z u n (applyS z u n y) ↔ p < z.toNat ∧ Sp (vals u) (2 ^ p) := by
  rw [(tl_known hok hE).1, List.mem_map]
  have hlo := tl_lo hok hE
  constructor
  · rintro ⟨x, hx, e⟩
    obtain rfl : x.1 = p := by omega
    obtain ⟨a, b, c⟩ := tl_mem hok hE hx
    refine ⟨a, ?_⟩
    have := Sp.lo (N := z.toNat) (((red_is (augs z u (applyS z u n y))).2 x.2).1 (.of_mem (List.mem_map.2 ⟨x, (List.mem_filter.1 hx).1, rfl⟩)))
    rwa [b, hlo] at this
  · rintro ⟨hp, hsp⟩
    have hR := red_is (vals u)
    have hf : IsFst (2 ^ p) p := ⟨by rw [Nat.testBit_two_pow]; simp, fun q hq => by rw [Nat.testBit_two_pow, decide_eq_false (by omega)]⟩
    have hspr := (hR.2 _).2 hsp
    obtain ⟨x, hx, e⟩ := hR.1.fst_mem hspr hf
    have hc := hR.1.comb_self hspr
    rw [comb_one hR.1.nodup hx (by rw [e]; exact hf.1) fun w hw hne => by
      rw [Nat.testBit_two_pow]
      exact decide_eq_false fun e2 => hne (hR.1.places_inj hw hx (by omega))] at hc
    rw [← hlo, fit_red (tl_fit hok hE)] at hx
    obtain ⟨w, hw, rfl⟩ := List.mem_map.1 hx
    have hc : lo z.toNat w.2 = 2 ^ p := hc
    have e : w.1 = p := e
    exact ⟨w, List.mem_filter.2 ⟨hw, decide_eq_true (by rw [hc, e])⟩, by rw [e]⟩
theorem tl_rank : (echP z u).length = (red (vals u)).length ∧ (red (vals u)).length ≤ z.toNat ∧ (knA z u n (applyS z u n y)).length ≤ (red (vals u)).length := by
  obtain ⟨hm, hz, hzn, hs, hn, hy, hx, e⟩ := tl_basic hE
  obtain ⟨_, hv, _⟩ := mrt_vals hok hm
  refine ⟨by rw [echP_eq]; unfold echPI; rw [if_pos hm, pcast_len], (red_is _).len fun v h => hv.mem h, ?_⟩
  rw [(tl_known hok hE).1, List.length_map, ← tl_lo hok hE, fit_red (tl_fit hok hE), List.length_map]
  exact List.length_filter_le _ _
/-- All are told, if the rank is as many as columns; else the answer is that it is too early. -/
theorem tl_full (h : (red (vals u)).length = z.toNat) : slE z u n (applyS z u n y) = 0 ∧ slL z u n (applyS z u n y) = y := by
  obtain ⟨hm, hz, hzn, hs, hn, hy, hx, e⟩ := tl_basic hE
  obtain ⟨_, hv, _⟩ := mrt_vals hok hm
  have hR := red_is (vals u)
  have hpl : Lin.places (red (vals u)) = List.range z.toNat := by
    have := inc_full (red (vals u)) 0 z.toNat hR.1.inc (fun x hx => ⟨Nat.zero_le _, (hR.lt (fun v h => hv.mem h) hx).2⟩) (Nat.zero_le _) h
    refine this.trans ?_
    show (List.range (z.toNat - 0)).map (fun x => x + 0) = _
    simp
  have hall : ∀ x, x ∈ red (augs z u (applyS z u n y)) → isTold z x = true := fun x hx => by
    have h1 : (x.1, lo z.toNat x.2) ∈ red (vals u) := by
      rw [← tl_lo hok hE, fit_red (tl_fit hok hE)]; exact List.mem_map.2 ⟨x, hx, rfl⟩
    exact decide_eq_true (hR.1.alone hpl (fun w hw => (hR.lt (fun v h => hv.mem h) hw).1) h1)
  have hA : knA z u n (applyS z u n y) = (List.range z.toNat).map fun (i : Nat) => (i : Int) := by
    rw [(tl_known hok hE).1, List.filter_eq_self.2 hall, ← hpl, ← tl_lo hok hE, fit_red (tl_fit hok hE)]
    unfold Lin.places
    rw [List.map_map, List.map_map]
    rfl
  have hL : knL z u n (applyS z u n y) = y := by
    rw [(tl_known hok hE).2, hA, List.map_map, hzn]
    refine List.ext_getElem (by simp) fun i h1 h2 => ?_
    rw [List.getElem_map, List.getElem_range]
    show y.getD ((i : Nat) : Int).toNat ByteArray.empty = _
    rw [Int.toNat_natCast, List.getD_eq_getElem?_getD, List.getElem?_eq_getElem h2]; rfl
  have hS : slE z u n (applyS z u n y) = 0 := by
    rw [slE_eq]; unfold slEI
    rw [if_pos (tl_kn hok hE).1, hA, List.length_map, List.length_range, if_neg (by omega)]
  refine ⟨hS, ?_⟩
  rw [slL_eq]; unfold slLI
  rw [if_pos hS, hL]
theorem tl_early (h : (red (vals u)).length ≠ z.toNat) : slE z u n (applyS z u n y) = 9 ∧ slL z u n (applyS z u n y) = [] := by
  obtain ⟨_, r1, r2⟩ := tl_rank hok hE
  have hS : slE z u n (applyS z u n y) = 9 := by
    rw [slE_eq]; unfold slEI
    rw [if_pos (tl_kn hok hE).1, if_pos (by omega)]
  refine ⟨hS, ?_⟩
  rw [slL_eq]; unfold slLI
  rw [hS, if_neg (by decide)]
end
/-- Fewer equations. -/
theorem tl_take {z n : Int} {u : List Rw} {y : List ByteArray} (hok : okM u = true) (hE : applyE z u n y = 0) (j : Nat) : okM (u.take j) = true ∧ applyE z (u.take j) n y = 0 ∧ (applyS z u n y).take j = applyS z (u.take j) n y ∧ (knA z (u.take j) n (applyS z (u.take j) n y)).length ≤ (knA z u n (applyS z u n y)).length := by
  obtain ⟨hm, hb, hy⟩ := applyE_iff.1 hE
  obtain ⟨hz, hx, hr⟩ := mrt_iff.1 hm
  have h1 : okM (u.take j) = true := okM_iff.2 fun r h => okM_iff.1 hok r (List.mem_of_mem_take h)
  have h2 : applyE z (u.take j) n y = 0 := applyE_iff.2 ⟨mrt_iff.2 ⟨hz, by rw [List.length_take]; omega, fun r h => hr r (List.mem_of_mem_take h)⟩, hb, hy⟩
  refine ⟨h1, h2, by rw [(tl_basic hE).2.2.2.2.2.2.2, (tl_basic h2).2.2.2.2.2.2.2, List.map_take], length_le_of_sub ((tl_rise h1 h2).imp fun h e => by omega) fun i hi => ?_⟩
  obtain ⟨p, rfl⟩ : ∃ p : Nat, i = (p : Int) := ⟨i.toNat, by have := tl_range h1 h2 hi; omega⟩
  obtain ⟨a, b⟩ := (tl_iff h1 h2 p).1 hi
  refine (tl_iff hok hE p).2 ⟨a, b.sub fun v hv => ?_⟩
  obtain ⟨r, hr, rfl⟩ := List.mem_map.1 hv
  exact List.mem_map.2 ⟨r, List.mem_of_mem_take hr, rfl⟩
theorem tmodT (a : Int) {b : Int} (hb : 0 < b) : -b < a.tmod b ∧ a.tmod b < b := ⟨Int.lt_tmod_of_pos a hb, Int.tmod_lt_of_pos a hb⟩
theorem remT (a : Int) {b : Int} (hb : 0 < b) : ∃ v, divI .rem .i64 a b = some v ∧ -b < v ∧ v < b := ⟨_, divI_rem (by omega), tmodT a hb⟩
theorem remU {a b : Int} (ha : 0 ≤ a) (hb : 0 < b) : ∃ v, divI .rem .i64 a b = some v ∧ 0 ≤ v ∧ v < b := ⟨_, rem_pos ha hb, Int.emod_nonneg _ (by omega), Int.emod_lt_of_pos _ hb⟩
theorem ix_map {y : List ByteArray} {at' : List Int} {j : Nat} (hc : j < at'.length) (hr : 0 ≤ at'[j] ∧ at'[j] < (y.length : Int)) : ∃ s, ix (at'.map fun i => y.getD i.toNat ByteArray.empty) (j : Int) = some s ∧ ix y at'[j] = some s := by
  obtain ⟨i, hi⟩ : ∃ i : Nat, at'[j] = (i : Int) := ⟨(at'[j]).toNat, by omega⟩
  have hil : i < y.length := by omega
  refine ⟨y[i], ?_, ?_⟩
  · rw [ix_nat, List.getElem?_map, List.getElem?_eq_getElem hc, hi]
    show some (y.getD ((i : Int)).toNat ByteArray.empty) = _
    rw [Int.toNat_natCast, List.getD_eq_getElem?_getD, List.getElem?_eq_getElem hil]; rfl
  · rw [hi, ix_nat, List.getElem?_eq_getElem hil]
def mode22 : FuncId → Nat := fun f => 0
/-! Rows that a matrix spans. -/
noncomputable def spEI (z : Int) (m : List Rw) (n : Int) (ws : List Int) : Int := if mrt z m = true ∧ rtS n ws = true then (if n = z then 0 else 2) else 1
noncomputable def spE : Int → List Rw → Int → List Int → Int := Classical.choose (⟨spEI, rfl⟩ : ∃ f, f = spEI)
theorem spE_eq : spE = spEI := Classical.choose_spec (⟨spEI, rfl⟩ : ∃ f, f = spEI)
noncomputable def spBI (z : Int) (m : List Rw) (n : Int) (ws : List Int) : Bool := decide (spE z m n ws = 0) && @decide (Sp (vals m) (val ws)) (Classical.propDecidable _)
noncomputable def spB : Int → List Rw → Int → List Int → Bool := Classical.choose (⟨spBI, rfl⟩ : ∃ f, f = spBI)
theorem spB_eq : spB = spBI := Classical.choose_spec (⟨spBI, rfl⟩ : ∃ f, f = spBI)
/-! downpour/reduce.Spans -/
noncomputable abbrev qe15 (fuel : Nat) : Ctx Out := (fnX Tryd.prog mode22 T_bsalive fuel 61 0)
noncomputable abbrev qe16 : Code := (sub (bodyOf Tryd.prog 39) [1, 1, 1, 0, 1, 0, 0])
noncomputable def SpansF_s2 {R : Type} (w0 w1 : Int) (w2 w3 : List Int) (w4 : Int) (w5 : List (Int × List Int)) (w6 : Int) (c0 c1 : List Int → Int → Int → Int → List Int → Int → (List (Int × List Int)) → Option R) (c2 : Int → List Int → Option R) : Option R :=
  br (decide (w0 < w1))
    (bnd (ix w2 w0) fun e0 =>
    grd (okW w3) <|
    br (hasS w4 w3 e0)
      (bnd (ix w5 w0) fun e1 =>
      grd (okW w3 && okW e1.2) <|
      c0 w2 w1 (IntKind.i64.wrap (w0 + 1)) (xorN w4 w3 e1.1 e1.2) (xorW w4 w3 e1.1 e1.2) w6 w5)
      (c1 w2 w1 (IntKind.i64.wrap (w0 + 1)) w4 w3 w6 w5))
    (c2 w4 w3)
theorem SpansF_s2_eq (fuel k : Nat) (K : Ex → St → Option Out) (w0 w1 : Int) (w2 w3 : List Int) (w4 : Int) (w5 : List (Int × List Int)) (w6 : Int) : lpN qe16 (qe15 fuel) 2287828610704214072 [3, 4, 5, 6, 33, 34, 35] (k + 1) ⟨[(3, .ptr 0 2 0 0), (4, vB false), (5, vI 0), (6, .ptr 1 2 0 0), (33, vL w2), (34, vI w1), (35, vI w0)], [(0, some ⟨44, .agg [vI w4, vW w3], true⟩), (1, some ⟨24, .agg [vI w6, vR w5], true⟩)], 2, none⟩ K = SpansF_s2 w0 w1 w2 w3 w4 w5 w6 (fun a0 a1 a2 a3 a4 a5 a6 => lpN qe16 (qe15 fuel) 2287828610704214072 [3, 4, 5, 6, 33, 34, 35] k ⟨[(3, .ptr 0 2 0 0), (4, vB false), (5, vI 0), (6, .ptr 1 2 0 0), (33, vL a0), (34, vI a1), (35, vI a2)], [(0, some ⟨44, .agg [vI a3, vW a4], true⟩), (1, some ⟨24, .agg [vI a5, vR a6], true⟩)], 2, none⟩ K) (fun a7 a8 a9 a36 a37 a38 a39 => lpN qe16 (qe15 fuel) 2287828610704214072 [3, 4, 5, 6, 33, 34, 35] k ⟨[(3, .ptr 0 2 0 0), (4, vB false), (5, vI 0), (6, .ptr 1 2 0 0), (33, vL a7), (34, vI a8), (35, vI a9)], [(0, some ⟨44, .agg [vI a36, vW a37], true⟩), (1, some ⟨24, .agg [vI a38, vR a39], true⟩)], 2, none⟩ K) (fun a40 a41 => K (.exit 1) ⟨[(3, .ptr 0 2 0 0), (4, vB false), (5, vI 0)], [(0, some ⟨44, .agg [vI a40, vW a41], true⟩)], 1, none⟩) := by kernel_rfl
noncomputable def SpansF_l1 {R : Type} (fuel : Nat)  (k0 : Int → List Int → Option R) : Nat → List Int → Int → Int → Int → List Int → Int → (List (Int × List Int)) → Option R
  | 0, _, _, _, _, _, _, _ => none
  | k + 1, w0, w1, w2, w3, w4, w5, w6 =>
    (SpansF_s2 w2 w1 w0 w4 w3 w6 w5 (fun a0 a1 a2 a3 a4 a5 a6 => ( SpansF_l1 fuel k0 k a0 a1 a2 a3 a4 a5 a6 )) (fun a7 a8 a9 a36 a37 a38 a39 => ( SpansF_l1 fuel k0 k a7 a8 a9 a36 a37 a38 a39 )) (fun a40 a41 => k0 a40 a41))
theorem SpansF_l1_eq (fuel : Nat)  (K : Ex → St → Option Out) : ∀ (k : Nat) (w0 : List Int) (w1 w2 w3 : Int) (w4 : List Int) (w5 : Int) (w6 : List (Int × List Int)), lpN qe16 (qe15 fuel) 2287828610704214072 [3, 4, 5, 6, 33, 34, 35] k ⟨[(3, .ptr 0 2 0 0), (4, vB false), (5, vI 0), (6, .ptr 1 2 0 0), (33, vL w0), (34, vI w1), (35, vI w2)], [(0, some ⟨44, .agg [vI w3, vW w4], true⟩), (1, some ⟨24, .agg [vI w5, vR w6], true⟩)], 2, none⟩ K = SpansF_l1 fuel  (fun y0 y1 => K (.exit 1) ⟨[(3, .ptr 0 2 0 0), (4, vB false), (5, vI 0)], [(0, some ⟨44, .agg [vI y0, vW y1], true⟩)], 1, none⟩) k w0 w1 w2 w3 w4 w5 w6
  | 0, _, _, _, _, _, _, _ => rfl
  | k + 1, w0, w1, w2, w3, w4, w5, w6 => by
    unfold SpansF_l1
    exact (SpansF_s2_eq fuel k K w2 w1 w0 w4 w3 w6 w5).trans (congr (congr (congr (Eq.refl (SpansF_s2 (R := Out) w2 w1 w0 w4 w3 w6 w5)) (funext fun a0 => funext fun a1 => funext fun a2 => funext fun a3 => funext fun a4 => funext fun a5 => funext fun a6 => SpansF_l1_eq fuel  K k a0 a1 a2 a3 a4 a5 a6)) (funext fun a7 => funext fun a8 => funext fun a9 => funext fun a36 => funext fun a37 => funext fun a38 => funext fun a39 => SpansF_l1_eq fuel  K k a7 a8 a9 a36 a37 a38 a39)) (rfl))
noncomputable def SpansF_s3 {R : Type} (x0 : List Int) (x1 : Int) (c0 : Bool → Int → Option R) : Option R :=
  grd (okW x0) <|
  c0 (((if rtS x1 x0 = true then (((plS x0).length : Nat) : Int) else 0) : Int) == 0) 0
theorem SpansF_s3_eq (fuel : Nat)  (x0 : List Int) (x1 : Int) : (kont (qe15 fuel) (bodyOf Tryd.prog 39) [1, 1, 1, 0, 1, 0] 48 (endK Tryd.prog 0 0 39)) (.exit 1) ⟨[(3, .ptr 0 2 0 0), (4, vB false), (5, vI 0)], [(0, some ⟨44, .agg [vI x1, vW x0], true⟩)], 1, none⟩ = SpansF_s3 x0 x1 (fun a0 a1 => some (.tup [vB a0, vI a1], [])) := by kernel_rfl
noncomputable def SpansF_s1 {R : Type} (m : List (Int × List Int)) (z : Int) (ws : List Int) (n : Int) (c0 : Bool → Int → Option R) (c1 : List Int → Int → Int → Int → List Int → Int → (List (Int × List Int)) → Option R) : Option R :=
  grd (okM m && decide (m.length ≤ 1000)) <|
  br (((if mrt z m = true then 0 else 1) : Int) != 0)
    (c0 false 1)
    (grd (okW ws) <|
    br (!(rtS n ws))
      (c0 false 1)
      (br (n != z)
        (c0 false 2)
        (c1 (echP z m) (((echP z m).length : Nat) : Int) 0 n ws (echN z m) (echM z m))))
theorem SpansF_s1_eq (fuel : Nat)  (m : List (Int × List Int)) (z : Int) (ws : List Int) (n : Int) : callN Tryd.prog mode22 T_bsalive fuel 39 [.agg [vI z, vR m], .agg [vI n, vW ws]] [] = SpansF_s1 m z ws n (fun a1 a2 => some (.tup [vB a1, vI a2], [])) (fun a0 a3 a4 a5 a6 a7 a8 => lpN qe16 (qe15 fuel) 2287828610704214072 [3, 4, 5, 6, 33, 34, 35] fuel ⟨[(3, .ptr 0 2 0 0), (4, vB false), (5, vI 0), (6, .ptr 1 2 0 0), (33, vL a0), (34, vI a3), (35, vI a4)], [(0, some ⟨44, .agg [vI a5, vW a6], true⟩), (1, some ⟨24, .agg [vI a7, vR a8], true⟩)], 2, none⟩ (kont (qe15 fuel) (bodyOf Tryd.prog 39) [1, 1, 1, 0, 1, 0] 48 (endK Tryd.prog 0 0 39))) := by kernel_rfl
noncomputable def SpansF {R : Type} (fuel : Nat) (z : Int) (m : List (Int × List Int)) (n : Int) (ws : List Int) (r0 : Bool → Int → Option R) : Option R :=
  (SpansF_s1 m z ws n (fun a1 a2 => r0 a1 a2) (fun a0 a3 a4 a5 a6 a7 a8 => (SpansF_l1 fuel (fun x0 x1 => (SpansF_s3 x1 x0 (fun a9 a52 => r0 a9 a52))) fuel a0 a3 a4 a5 a6 a7 a8)))
theorem SpansF_eq (fuel : Nat) (z : Int) (m : List (Int × List Int)) (n : Int) (ws : List Int) : callN Tryd.prog mode22 T_bsalive fuel 39 [.agg [.s (.int .i64 z), .lt (.pair (.int .i64) (.sl (.int .u64))) m], .agg [.s (.int .i64 n), .li .u64 ws]] [] = SpansF fuel z m n ws (fun z0 z1 => some (.tup [.s (.bool z0), .s (.int .i64 z1)], [])) := by
  unfold SpansF
  exact (SpansF_s1_eq fuel  m z ws n).trans (congr (congr (Eq.refl (SpansF_s1 (R := Out) m z ws n)) (rfl)) (funext fun a0 => funext fun a1 => funext fun a2 => funext fun a3 => funext fun a4 => funext fun a5 => funext fun a6 => (SpansF_l1_eq fuel  (kont (qe15 fuel) (bodyOf Tryd.prog 39) [1, 1, 1, 0, 1, 0] 48 (endK Tryd.prog 0 0 39)) fuel a0 a1 a2 a3 a4 a5 a6).trans (congrFun (congrFun (congrFun (congrFun (congrFun (congrFun (congrFun (congrFun (congr (Eq.refl (SpansF_l1 (R := Out) fuel )) (funext fun x0 => funext fun x1 => (SpansF_s3_eq fuel  x1 x0))) fuel) a0) a1) a2) a3) a4) a5) a6)))
theorem Spans_loop {R : Type} (fuel : Nat) (z : Int) (h0 : 0 ≤ z) (h1 : z ≤ 64) (r : List (Nat × Nat)) (hr : r.length ≤ 64) (hx : ∀ x, x ∈ r → x.2 < 2 ^ z.toNat ∧ x.1 < z.toNat) (w18 : Int) (k0 : Int → List Int → Option R) : ∀ (k j v : Nat), j ≤ r.length → r.length < j + k → v < 2 ^ z.toNat →
    SpansF_l1 fuel k0 k (pcast r) (r.length : Int) (j : Int) z (words (nw z) v) w18 (mrs z (Lin.rows r)) = k0 z (words (nw z) (left (r.drop j) v))
  | 0, j, v, h2, h3, _ => by omega
  | k + 1, j, v, h2, h3, hv => by
    unfold SpansF_l1 SpansF_s2
    rw [br_if]
    by_cases hc : j < r.length
    · have hm := hx _ (List.getElem_mem hc)
      have okw : ∀ v, okW (words (nw z) v) = true := fun v => okW_iff.2 (words_ok _ _)
      have e1 : ix (pcast r) (j : Int) = some ((r[j]).1 : Int) := by unfold pcast Lin.places; rw [ix_nat, List.getElem?_map, List.getElem?_map, List.getElem?_eq_getElem hc]; rfl
      have e2 : ix (mrs z (Lin.rows r)) (j : Int) = some (mr z (r[j]).2) := by unfold mrs Lin.rows; rw [ix_nat, List.getElem?_map, List.getElem?_map, List.getElem?_eq_getElem hc]; rfl
      rw [if_pos (by simpa using hc), bnd_of e1, grd_of (okw v), br_if, has_mr h0 h1 hv (by omega), bnd_of e2, grd_of (by rw [okw v, show okW (mr z (r[j]).2).2 = true from okw _]; rfl), wrap_i64 (by omega) (by omega), show (j : Int) + 1 = ((j + 1 : Nat) : Int) by omega, List.drop_eq_getElem_cons hc]
      unfold left
      by_cases hb : v.testBit (r[j]).1 = true
      · obtain ⟨x1, x2⟩ := xor_mr h0 h1 hv hm.1
        rw [if_pos hb, if_pos hb, show xorN z (words (nw z) v) (mr z (r[j]).2).1 (mr z (r[j]).2).2 = z from x1, show xorW z (words (nw z) v) (mr z (r[j]).2).1 (mr z (r[j]).2).2 = words (nw z) (v ^^^ (r[j]).2) from x2]
        exact Spans_loop fuel z h0 h1 r hr hx w18 k0 k (j + 1) (v ^^^ (r[j]).2) (by omega) (by omega) (Nat.xor_lt_two_pow hv hm.1)
      · rw [if_neg hb, if_neg hb]
        exact Spans_loop fuel z h0 h1 r hr hx w18 k0 k (j + 1) v (by omega) (by omega) hv
    · rw [if_neg (by simpa using hc), List.drop_eq_nil_of_le (by omega)]
      rfl
theorem left_ltS {n : Nat} {l : List (Nat × Nat)} (h : ∀ x, x ∈ l → x.2 < 2 ^ n) : ∀ {v : Nat}, v < 2 ^ n → left l v < 2 ^ n := by
  induction l with
  | nil => exact fun hv => hv
  | cons x t ih =>
    intro v hv
    unfold left
    refine ih (fun y hy => h y (List.mem_cons_of_mem _ hy)) ?_
    by_cases hb : v.testBit x.1 = true
    · rw [if_pos hb]; exact Nat.xor_lt_two_pow hv (h x (by simp))
    · rw [if_neg hb]; exact hv
theorem Spans_fact (z : Int) (m : List (Int × List Int)) (n : Int) (ws : List Int) (hg : ((okM m && decide (m.length ≤ 1000)) && okW ws) = true) : Fact Tryd.prog gTab 39 [.agg [.s (.int .i64 z), .lt (.pair (.int .i64) (.sl (.int .u64))) m], .agg [.s (.int .i64 n), .li .u64 ws]] [] (.tup [.s (.bool (spB z m n ws)), .s (.int .i64 (spE z m n ws))], []) := by
  simp only [Bool.and_eq_true, decide_eq_true_eq] at hg
  obtain ⟨⟨hok, hl⟩, hw⟩ := hg
  refine callN_fact hN hM T_bsalive_ok (n := 80) (mode := mode22) ?_
  rw [SpansF_eq]
  unfold SpansF SpansF_s1
  rw [grd_of (by rw [hok]; simp; omega), br_if, spB_eq]
  unfold spBI
  rw [spE_eq]
  unfold spEI
  by_cases hm : mrt z m = true
  · rw [if_pos hm, if_neg (by decide), grd_of hw, br_if]
    by_cases hr : rtS n ws = true
    · have e0 : (mrt z m = true ∧ rtS n ws = true) := ⟨hm, hr⟩
      rw [if_neg (by simp [hr]), br_if]
      by_cases hn : n = z
      · subst hn
        obtain ⟨⟨n0, n1⟩, hx, hrows⟩ := mrt_iff.1 hm
        obtain ⟨hv1, hv2, hv3⟩ := mrt_vals hok hm
        have hR := red_is (vals m)
        have hlt := fun x (hx : x ∈ red (vals m)) => hR.lt (fun v h => hv2.mem h) hx
        have eN : echN n m = n := by rw [echN_eq]; unfold echNI; rw [if_pos hm]
        have eM : echM n m = mrs n (Lin.rows (red (vals m))) := by rw [echM_eq]; unfold echMI; rw [if_pos hm]
        have eP : echP n m = pcast (red (vals m)) := by rw [echP_eq]; unfold echPI; rw [if_pos hm]
        have hlen := hR.len (fun v h => hv2.mem h)
        have ew := row_words hw hr
        have hvw : val ws < 2 ^ n.toNat := (rtS_iff.1 hr).2.2
        rw [if_neg (by simp), if_pos e0, if_pos rfl, eN, eM, eP, pcast_len]
        dsimp only
        have hloop := fun k0 => Spans_loop (R := Out) 80 n n0 n1 (red (vals m)) (by omega) hlt n k0 80 0 (val ws) (by omega) (by omega) hvw
        rw [show ((0 : Nat) : Int) = 0 from rfl, List.drop_zero, ← ew] at hloop
        rw [hloop]
        unfold SpansF_s3
        have hll := left_ltS (n := n.toNat) (l := red (vals m)) (fun x hx => (hlt x hx).1) hvw
        obtain ⟨a, b, c⟩ := mr_rt n0 (by omega) hll
        rw [grd_of a, if_pos b, pl_plc a b, c]
        have key : ((((plc (left (red (vals m)) (val ws)) n.toNat).length : Nat) : Int) == 0) = @decide (Sp (vals m) (val ws)) (Classical.propDecidable _) := by
          have h1 := hR.1.left_zero_iff (val ws)
          by_cases hs : Sp (vals m) (val ws)
          · rw [@decide_eq_true _ (Classical.propDecidable _) hs, h1.2 ((hR.2 _).2 hs)]
            have : plc 0 n.toNat = [] := by simp [plc]
            rw [this]; rfl
          · rw [@decide_eq_false _ (Classical.propDecidable _) hs, beq_eq_false_iff_ne]
            intro h
            have hp : plc (left (red (vals m)) (val ws)) n.toNat = [] := List.eq_nil_of_length_eq_zero (by omega)
            refine hs ((hR.2 _).1 (h1.1 (Lin.eq_zero_of_testBit fun i => ?_)))
            cases hb : (left (red (vals m)) (val ws)).testBit i with
            | false => rfl
            | true =>
              have hi : i < n.toNat := bit_lt hll hb
              have := (nat_mem_plc _ n.toNat i).2 ⟨hi, hb⟩
              rw [hp] at this; simp at this
        rw [key]
        simp
      · rw [if_pos (by simpa using hn), if_pos e0, if_neg hn]
        simp
    · rw [if_pos (by simp [hr]), if_neg (fun h => hr h.2)]
      simp
  · rw [if_neg hm, if_pos (by decide), if_neg (fun h => hm h.1)]
    simp
noncomputable def Spans_ent : List V → List Blk → Option (Bool × Out)
  | [.agg [.s (.int .i64 z), w0], .agg [.s (.int .i64 n), w1]], [] => (asSl (.pair (.int .i64) (.sl (.int .u64))) w0).bind fun m => (asSl (.int .u64) w1).bind fun ws => some (((okM m && decide (m.length ≤ 1000)) && okW ws), (.tup [.s (.bool (spB z m n ws)), .s (.int .i64 (spE z m n ws))], []))
  | _, _ => none
theorem Spans_ok : ∀ args bs out, Spans_ent args bs = some (true, out) → Fact Tryd.prog gTab 39 args bs out := by
  intro args bs out h
  unfold Spans_ent at h
  split at h
  · rename_i z w0 n w1
    obtain ⟨m, h_m, h⟩ := Option.bind_eq_some_iff.1 h
    obtain ⟨ws, h_ws, h⟩ := Option.bind_eq_some_iff.1 h
    simp only [Option.some.injEq, Prod.mk.injEq] at h
    obtain ⟨hg, rfl⟩ := h
    exact (Spans_fact z m n ws hg).args (fun _ _ _ => fun _ h => RVs_two (fun _ h => RV_agg_two (fun _ h => RVs_two (fun _ h => h) (fun _ h => RVs_two (fun _ h => RV_sl (s := (.pair (.int .i64) (.sl (.int .u64)))) h_m h) (fun _ h => h) h) h) h) (fun _ h => RVs_two (fun _ h => RV_agg_two (fun _ h => RVs_two (fun _ h => h) (fun _ h => RVs_two (fun _ h => RV_li h_ws h) (fun _ h => h) h) h) h) (fun _ h => h) h) h)
  · cases h
noncomputable def T_Spans : Tbl := Tbl.cons 39 Spans_ent T_bsalive
theorem T_Spans_ok : CallOk Tryd.prog gTab T_Spans := cons_ok T_bsalive_ok Spans_ok
def mode23 : FuncId → Nat := fun f => bif Nat.beq f 38 then 2 else 0
/-! downpour/matrix.Apply -/
noncomputable abbrev qe17 : Code := (sub (bodyOf Tryd.prog 38) [1, 1, 1, 1, 1, 0, 1, 0, 0])
noncomputable abbrev qe18 (fuel : Nat) : Ctx Out := (fnX Tryd.prog mode23 T_Spans fuel 52 0)
noncomputable abbrev qe19 : List Nat := [1, 2, 6, 7, 10, 33, 34, 35]
noncomputable def ApplyOF_s3 {R : Type} (w0 w4 : Int) (m : List (Int × List Int)) (w1 : List ByteArray) (w2 : Nat) (n : Int) (l : List ByteArray) (c0 : Nat → Int → List ByteArray → Option R) (c1 : Nat → List ByteArray → Option R) : Option R :=
  br (decide (w0 < w4))
    (bnd (ix m w0) fun e0 =>
    grd (okW e0.2) <|
    grd (Nat.beq w1.length w2) <|
    grd (okN (w2 + 1) 16) <|
    c0 ((w1 ++ [(pickT n l e0.1 e0.2)]).length) (IntKind.i64.wrap (w0 + 1)) (w1 ++ [(pickT n l e0.1 e0.2)]))
    (c1 w2 w1)
theorem ApplyOF_s3_eq (fuel k : Nat) (K : Ex → St → Option Out) (w0 w4 : Int) (m : List (Int × List Int)) (w1 : List ByteArray) (w2 : Nat) (n : Int) (l : List ByteArray) : lpN qe17 (qe18 fuel) 2251799813686464 qe19 (k + 1) ⟨[(1, vI n), (2, .ls l), (6, vN), (7, vI 0), (10, .sl 0 1 0 w2), (33, vR m), (34, vI w4), (35, vI w0)], [(0, some ⟨9, .ls w1, true⟩)], 1, none⟩ K = ApplyOF_s3 w0 w4 m w1 w2 n l (fun a0 a1 a2 => lpN qe17 (qe18 fuel) 2251799813686464 qe19 k ⟨[(1, vI n), (2, .ls l), (6, vN), (7, vI 0), (10, .sl 0 1 0 a0), (33, vR m), (34, vI w4), (35, vI a1)], [(0, some ⟨9, .ls a2, true⟩)], 1, none⟩ K) (fun a3 a4 => K (.exit 0) ⟨[(6, vN), (7, vI 0), (10, .sl 0 1 0 a3)], [(0, some ⟨9, .ls a4, true⟩)], 1, none⟩) := by kernel_rfl
noncomputable def ApplyOF_l2 {R : Type} (fuel : Nat) (n : Int) (l : List ByteArray) (m : List (Int × List Int)) (w4 : Int) (k0 : Nat → List ByteArray → Option R) : Nat → Nat → Int → List ByteArray → Option R
  | 0, _, _, _ => none
  | k + 1, w0, w1, w2 =>
    (ApplyOF_s3 w1 w4 m w2 w0 n l (fun a0 a1 a2 => ( ApplyOF_l2 fuel n l m w4 k0 k a0 a1 a2 )) (fun a3 a4 => k0 a3 a4))
theorem ApplyOF_l2_eq (fuel : Nat) (n : Int) (l : List ByteArray) (m : List (Int × List Int)) (w4 : Int) (K : Ex → St → Option Out) : ∀ (k w0 : Nat) (w1 : Int) (w2 : List ByteArray), lpN qe17 (qe18 fuel) 2251799813686464 qe19 k ⟨[(1, vI n), (2, .ls l), (6, vN), (7, vI 0), (10, .sl 0 1 0 w0), (33, vR m), (34, vI w4), (35, vI w1)], [(0, some ⟨9, .ls w2, true⟩)], 1, none⟩ K = ApplyOF_l2 fuel n l m w4 (fun y0 y1 => K (.exit 0) ⟨[(6, vN), (7, vI 0), (10, .sl 0 1 0 y0)], [(0, some ⟨9, .ls y1, true⟩)], 1, none⟩) k w0 w1 w2
  | 0, _, _, _ => rfl
  | k + 1, w0, w1, w2 => by
    unfold ApplyOF_l2
    exact (ApplyOF_s3_eq fuel k K w1 w4 m w2 w0 n l).trans (congr (congr (Eq.refl (ApplyOF_s3 (R := Out) w1 w4 m w2 w0 n l)) (funext fun a0 => funext fun a1 => funext fun a2 => ApplyOF_l2_eq fuel n l m w4 K k a0 a1 a2)) (rfl))
noncomputable def ApplyOF_s2 {R : Type} (w4 : Int) (m : List (Int × List Int)) (n : Int) (l : List ByteArray) (c0 : Nat → Int → List ByteArray → Option R) (c1 : Option R) : Option R :=
  br (decide (0 < w4))
    (bnd (ix m 0) fun e0 =>
    grd (okW e0.2) <|
    c0 1 1 ([(pickT n l e0.1 e0.2)]))
    (c1)
theorem ApplyOF_s2_eq (fuel k : Nat) (K : Ex → St → Option Out) (w4 : Int) (m : List (Int × List Int)) (n : Int) (l : List ByteArray) : lpN qe17 (qe18 fuel) 2251799813686464 qe19 (k + 1) ⟨[(1, vI n), (2, .ls l), (6, vN), (7, vI 0), (10, vN), (33, vR m), (34, vI w4), (35, vI 0)], [], 0, none⟩ K = ApplyOF_s2 w4 m n l (fun a0 a1 a2 => lpN qe17 (qe18 fuel) 2251799813686464 qe19 k ⟨[(1, vI n), (2, .ls l), (6, vN), (7, vI 0), (10, .sl 0 1 0 a0), (33, vR m), (34, vI w4), (35, vI a1)], [(0, some ⟨9, .ls a2, true⟩)], 1, none⟩ K) (K (.exit 0) ⟨[(6, vN), (7, vI 0), (10, vN)], [], 0, none⟩) := by kernel_rfl
noncomputable def ApplyOF_l1 {R : Type} (fuel : Nat) (n : Int) (l : List ByteArray) (m : List (Int × List Int)) (k0 : Nat → List ByteArray → Option R) (k1 : Option R) : Nat → Int → Option R
  | 0, _ => none
  | k + 1, w4 =>
    (ApplyOF_s2 w4 m n l (fun a0 a1 a2 => (ApplyOF_l2 fuel n l m w4 (fun x0 x1 => k0 x0 x1) k a0 a1 a2)) (k1))
theorem ApplyOF_l1_eq (fuel : Nat) (n : Int) (l : List ByteArray) (m : List (Int × List Int)) (K : Ex → St → Option Out) : ∀ (k : Nat) (w4 : Int), lpN qe17 (qe18 fuel) 2251799813686464 qe19 k ⟨[(1, vI n), (2, .ls l), (6, vN), (7, vI 0), (10, vN), (33, vR m), (34, vI w4), (35, vI 0)], [], 0, none⟩ K = ApplyOF_l1 fuel n l m (fun y0 y1 => K (.exit 0) ⟨[(6, vN), (7, vI 0), (10, .sl 0 1 0 y0)], [(0, some ⟨9, .ls y1, true⟩)], 1, none⟩) (K (.exit 0) ⟨[(6, vN), (7, vI 0), (10, vN)], [], 0, none⟩) k w4
  | 0, _ => rfl
  | k + 1, w4 => by
    unfold ApplyOF_l1
    exact (ApplyOF_s2_eq fuel k K w4 m n l).trans (congr (congr (Eq.refl (ApplyOF_s2 (R := Out) w4 m n l)) (funext fun a0 => funext fun a1 => funext fun a2 => ApplyOF_l2_eq fuel n l m w4 K k a0 a1 a2)) (rfl))
noncomputable def ApplyOF_s4 {R : Type} (x0 : Nat) (x1 : List ByteArray) (c0 : Nat → Nat → Int → List ByteArray → Option R) : Option R :=
  c0 0 x0 0 x1
theorem ApplyOF_s4_eq (fuel : Nat)  (x0 : Nat) (x1 : List ByteArray) : (kont (qe18 fuel) (bodyOf Tryd.prog 38) [1, 1, 1, 1, 1, 0, 1, 0] 192 (endK Tryd.prog 2 0 38)) (.exit 0) ⟨[(6, vN), (7, vI 0), (10, .sl 0 1 0 x0)], [(0, some ⟨9, .ls x1, true⟩)], 1, none⟩ = ApplyOF_s4 x0 x1 (fun a0 a1 a2 a3 => some (.tup [.sl 0 1 a0 a1, vI a2], [some ⟨9, .ls a3, true⟩])) := by kernel_rfl
noncomputable def ApplyOF_s5 {R : Type}  (c0 : Int → Option R) : Option R :=
  c0 0
theorem ApplyOF_s5_eq (fuel : Nat)   : (kont (qe18 fuel) (bodyOf Tryd.prog 38) [1, 1, 1, 1, 1, 0, 1, 0] 192 (endK Tryd.prog 2 0 38)) (.exit 0) ⟨[(6, vN), (7, vI 0), (10, vN)], [], 0, none⟩ = ApplyOF_s5  (fun a0 => some (.tup [vN, vI a0], [])) := by kernel_rfl
noncomputable def ApplyOF_s1 {R : Type} (m : List (Int × List Int)) (z n : Int) (l : List ByteArray) (c0 c1 : Int → Option R) : Option R :=
  grd (okM m) <|
  br (!(mrt z m))
    (c0 1)
    (br (((errB n l) : Int) != 0)
      (c0 (errB n l))
      (br (((l.length : Nat) : Int) != z)
        (c0 2)
        (c1 ((m.length : Nat) : Int))))
theorem ApplyOF_s1_eq (fuel : Nat)  (m : List (Int × List Int)) (z n : Int) (l : List ByteArray) : callN Tryd.prog mode23 T_Spans fuel 38 [.agg [vI z, vR m], vI n, .ls l] [] = ApplyOF_s1 m z n l (fun a1 => some (.tup [vN, vI a1], [])) (fun a0 => lpN qe17 (qe18 fuel) 2251799813686464 qe19 fuel ⟨[(1, vI n), (2, .ls l), (6, vN), (7, vI 0), (10, vN), (33, vR m), (34, vI a0), (35, vI 0)], [], 0, none⟩ (kont (qe18 fuel) (bodyOf Tryd.prog 38) [1, 1, 1, 1, 1, 0, 1, 0] 192 (endK Tryd.prog 2 0 38))) := by kernel_rfl
noncomputable def ApplyOF {R : Type} (fuel : Nat) (z : Int) (m : List (Int × List Int)) (n : Int) (l : List ByteArray) (r0 : Int → Option R) (r1 : Nat → Nat → Int → List ByteArray → Option R) : Option R :=
  (ApplyOF_s1 m z n l (fun a1 => r0 a1) (fun a0 => (ApplyOF_l1 fuel n l m (fun x0 x1 => (ApplyOF_s4 x0 x1 (fun a2 a3 a4 a5 => r1 a2 a3 a4 a5))) ((ApplyOF_s5 (fun a6 => r0 a6))) fuel a0)))
theorem ApplyOF_eq (fuel : Nat) (z : Int) (m : List (Int × List Int)) (n : Int) (l : List ByteArray) : callN Tryd.prog mode23 T_Spans fuel 38 [.agg [.s (.int .i64 z), .lt (.pair (.int .i64) (.sl (.int .u64))) m], .s (.int .i64 n), .ls l] [] = ApplyOF fuel z m n l (fun z0 => some (.tup [.s (.slice none 0 0), .s (.int .i64 z0)], [])) (fun z0 z1 z2 z3 => some (.tup [.sl 0 1 z0 z1, .s (.int .i64 z2)], [some ⟨9, .ls z3, true⟩])) := by
  unfold ApplyOF
  exact (ApplyOF_s1_eq fuel  m z n l).trans (congr (congr (Eq.refl (ApplyOF_s1 (R := Out) m z n l)) (rfl)) (funext fun a0 => (ApplyOF_l1_eq fuel n l m (kont (qe18 fuel) (bodyOf Tryd.prog 38) [1, 1, 1, 1, 1, 0, 1, 0] 192 (endK Tryd.prog 2 0 38)) fuel a0).trans (congrFun (congrFun (congr (congr (Eq.refl (ApplyOF_l1 (R := Out) fuel n l m)) (funext fun x0 => funext fun x1 => (ApplyOF_s4_eq fuel  x0 x1))) ((ApplyOF_s5_eq fuel  ))) fuel) a0)))
theorem ApplyO_more {R : Type} (fuel : Nat) (n : Int) (l : List ByteArray) (m : List Rw) (hm : m.length ≤ 64) (hok : okM m = true) (k0 : Nat → List ByteArray → Option R) : ∀ (k j : Nat) (acc : List ByteArray), j ≤ m.length → m.length < j + k → acc.length ≤ j →
    ApplyOF_l2 fuel n l m (m.length : Int) k0 k acc.length (j : Int) acc = k0 (acc ++ (m.drop j).map (fun r => pickT n l r.1 r.2)).length (acc ++ (m.drop j).map (fun r => pickT n l r.1 r.2))
  | 0, j, acc, h1, h2, _ => by omega
  | k + 1, j, acc, h1, h2, ha => by
    unfold ApplyOF_l2 ApplyOF_s3
    rw [br_if]
    by_cases hc : j < m.length
    · rw [if_pos (by simpa using hc), bnd_of ((ix_nat m j).trans (List.getElem?_eq_getElem hc)), grd_of (okM_iff.1 hok _ (List.getElem_mem hc)), grd_of (beq_self _), grd_of (okN_of (by omega) (by omega)), wrap_i64 (by omega) (by omega), show (j : Int) + 1 = ((j + 1 : Nat) : Int) by omega, List.drop_eq_getElem_cons hc, List.map_cons]
      have := ApplyO_more fuel n l m hm hok k0 k (j + 1) (acc ++ [pickT n l (m[j]).1 (m[j]).2]) (by omega) (by omega) (by simp; omega)
      rw [List.append_assoc] at this
      exact this
    · rw [if_neg (by simpa using hc), List.drop_eq_nil_of_le (by omega)]
      simp
theorem ApplyO_fst {R : Type} (fuel : Nat) (n : Int) (l : List ByteArray) (m : List Rw) (hm : m.length ≤ 64) (hok : okM m = true) (k0 : Nat → List ByteArray → Option R) (k1 : Option R) (k : Nat) (hk : m.length + 1 < k) :
    ApplyOF_l1 fuel n l m k0 k1 k (m.length : Int) = if m.length = 0 then k1 else k0 (m.map (fun r => pickT n l r.1 r.2)).length (m.map (fun r => pickT n l r.1 r.2)) := by
  cases k with
  | zero => omega
  | succ k =>
    unfold ApplyOF_l1 ApplyOF_s2
    dsimp only
    rw [br_if]
    by_cases hy : 0 < m.length
    · have e0 : ix m 0 = some m[0] := (ix_nat m 0).trans (List.getElem?_eq_getElem hy)
      rw [if_pos (by simpa using hy), if_neg (by omega), bnd_of e0, grd_of (okM_iff.1 hok _ (List.getElem_mem hy))]
      have ho := ApplyO_more (R := R) fuel n l m hm hok k0 k 1 [pickT n l (m[0]).1 (m[0]).2] (by omega) (by omega) (by simp)
      have hy1 : [pickT n l (m[0]).1 (m[0]).2] ++ (m.drop 1).map (fun r => pickT n l r.1 r.2) = m.map (fun r => pickT n l r.1 r.2) := by
        cases m with
        | nil => simp at hy
        | cons a t => rfl
      rw [hy1] at ho
      exact ho
    · rw [if_neg (by simpa using hy), if_pos (by omega)]
theorem ApplyO_fact (z : Int) (m : List (Int × List Int)) (n : Int) (l : List ByteArray) (hg : (okM m && decide (1 ≤ m.length) && decide (applyE z m n l = 0)) = true) : Fact Tryd.prog gTab 38 [.agg [.s (.int .i64 z), .lt (.pair (.int .i64) (.sl (.int .u64))) m], .s (.int .i64 n), .ls l] [] (.tup [.sl 0 1 0 ((applyS z m n l).length), .s (.int .i64 0)], [some ⟨9, .ls (applyS z m n l), true⟩]) := by
  simp only [Bool.and_eq_true, decide_eq_true_eq] at hg
  obtain ⟨⟨hok, h1⟩, hE⟩ := hg
  obtain ⟨hm, hb, hl⟩ := applyE_iff.1 hE
  obtain ⟨_, hx, _⟩ := mrt_iff.1 hm
  have hS : applyS z m n l = m.map (fun r => pickT n l r.1 r.2) := by rw [applyS_eq]; unfold applyI; rw [if_pos hE]
  refine callN_fact hN hM T_Spans_ok (n := 70) (mode := mode23) ?_
  rw [ApplyOF_eq]
  unfold ApplyOF ApplyOF_s1
  unfold errB
  rw [grd_of hok, br_if, if_neg (by simp [hm]), br_if, if_pos hb, if_neg (by decide), br_if, if_neg (by simp [hl])]
  have h2 := fun k0 k1 => ApplyO_fst (R := Out) 70 n l m hx hok k0 k1 70 (by omega)
  dsimp only
  rw [h2, if_neg (by omega), hS]
  rfl
noncomputable def ApplyO_ent : List V → List Blk → Option (Bool × Out)
  | [.agg [.s (.int .i64 z), w0], .s (.int .i64 n), w1], [] => (asSl (.pair (.int .i64) (.sl (.int .u64))) w0).bind fun m => (asSl .str w1).bind fun l => some ((okM m && decide (1 ≤ m.length) && decide (applyE z m n l = 0)), (.tup [.sl 0 1 0 ((applyS z m n l).length), .s (.int .i64 0)], [some ⟨9, .ls (applyS z m n l), true⟩]))
  | _, _ => none
theorem ApplyO_ok : ∀ args bs out, ApplyO_ent args bs = some (true, out) → Fact Tryd.prog gTab 38 args bs out := by
  intro args bs out h
  unfold ApplyO_ent at h
  split at h
  · rename_i z w0 n w1
    obtain ⟨m, h_m, h⟩ := Option.bind_eq_some_iff.1 h
    obtain ⟨l, h_l, h⟩ := Option.bind_eq_some_iff.1 h
    simp only [Option.some.injEq, Prod.mk.injEq] at h
    obtain ⟨hg, rfl⟩ := h
    exact (ApplyO_fact z m n l hg).args (fun _ _ _ => fun _ h => RVs_two (fun _ h => RV_agg_two (fun _ h => RVs_two (fun _ h => h) (fun _ h => RVs_two (fun _ h => RV_sl (s := (.pair (.int .i64) (.sl (.int .u64)))) h_m h) (fun _ h => h) h) h) h) (fun _ h => RVs_two (fun _ h => h) (fun _ h => RVs_two (fun _ h => RV_ls h_l h) (fun _ h => h) h) h) h)
  · cases h
noncomputable def T_ApplyO : Tbl := Tbl.cons 38 ApplyO_ent T_Spans
theorem T_ApplyO_ok : CallOk Tryd.prog gTab T_ApplyO := cons_ok T_Spans_ok ApplyO_ok
noncomputable def lawWAF_s1 {R : Type} (m : List (Int × List Int)) (z n : Int) (x : List ByteArray) (q y : Int) (c0 : Bool → Option R) : Option R :=
  grd (okM (fewRS m) && decide (1 ≤ (fewRS m).length) && decide (applyE z (fewRS m) n (fewBS x) = 0)) <|
  br (((((applyS z (fewRS m) n (fewBS x)).length : Nat) : Int) : Int) == 0)
    (br (((((applyS z (fewRS m) n (fewBS x)).length : Nat) : Int) : Int) == 0)
      (c0 true)
      (c0 (n == 0)))
    (br (n == 0)
      (br (((((applyS z (fewRS m) n (fewBS x)).length : Nat) : Int) : Int) == 0)
        (c0 true)
        (c0 (n == 0)))
      (bnd (divI .rem .i64 q (((applyS z (fewRS m) n (fewBS x)).length : Nat) : Int)) fun v5 =>
      bnd (divI .rem .i64 (IntKind.i64.wrap (v5 + (((applyS z (fewRS m) n (fewBS x)).length : Nat) : Int))) (((applyS z (fewRS m) n (fewBS x)).length : Nat) : Int)) fun v6 =>
      bnd (below v6 ((applyS z (fewRS m) n (fewBS x)).length)) fun j7 =>
      bnd ((applyS z (fewRS m) n (fewBS x))[(0 + j7)]?) fun e8 =>
      bnd (below (IntKind.i64.wrap (((e8.size : Nat) : Int) - 1)) e8.size) fun j9 =>
      bnd ((bytesL e8)[(0 + j9)]?) fun e0 =>
      bnd (below (IntKind.i64.wrap (((e8.size : Nat) : Int) - 1)) e8.size) fun j0 =>
      bnd ((bytesL e8)[(0 + j0)]?) fun e1 =>
      grd (Nat.ble (0 + e8.size) (((bytesL e8).set (0 + j0) (xorI .u8 e0 (orI .u8 y 1))).length)) <|
      bnd (below v6 ((applyS z (fewRS m) n (fewBS x)).length)) fun j1 =>
      bnd ((applyS z (fewRS m) n (fewBS x))[(0 + j1)]?) fun e2 =>
      bnd (upTo v6 ((fewRS m).length)) fun j2 =>
      grd (okN (0 + (((fewRS m).drop 0).take (j2 - 0)).length) 32) <|
      bnd (upTo (IntKind.i64.wrap (v6 + 1)) ((fewRS m).length)) fun j3 =>
      grd (Nat.beq ((((fewRS m).drop 0).take (j2 - 0)).length) ((((fewRS m).drop 0).take (j2 - 0)).length)) <|
      grd (okN ((((fewRS m).drop 0).take (j2 - 0)).length + (((fewRS m).drop j3).take ((fewRS m).length - j3)).length) 32) <|
      bnd (ix (fewRS m) v6) fun e3 =>
      grd ((okM ((((((fewRS m).drop 0).take (j2 - 0)) ++ (((fewRS m).drop j3).take ((fewRS m).length - j3))).drop 0).take (((((fewRS m).drop 0).take (j2 - 0)) ++ (((fewRS m).drop j3).take ((fewRS m).length - j3))).length)) && decide (((((((fewRS m).drop 0).take (j2 - 0)) ++ (((fewRS m).drop j3).take ((fewRS m).length - j3))).drop 0).take (((((fewRS m).drop 0).take (j2 - 0)) ++ (((fewRS m).drop j3).take ((fewRS m).length - j3))).length)).length ≤ 1000)) && okW e3.2) <|
      grd (okM (fewRS m) && decide ((fewRS m).length ≤ 1000)) <|
      grd (okM (fewRS m) && decide ((fewRS m).length ≤ 1000)) <|
      br (((spE z ((((((fewRS m).drop 0).take (j2 - 0)) ++ (((fewRS m).drop j3).take ((fewRS m).length - j3))).drop 0).take (((((fewRS m).drop 0).take (j2 - 0)) ++ (((fewRS m).drop j3).take ((fewRS m).length - j3))).length)) e3.1 e3.2) : Int) == 0)
        (br (((bmayE z (fewRS m) n ((((applyS z (fewRS m) n (fewBS x)).set (0 + j1) (txt (((((bytesL e8).set (0 + j0) (xorI .u8 e0 (orI .u8 y 1)))).drop 0).take e8.size))).drop 0).take ((applyS z (fewRS m) n (fewBS x)).length))) : Int) == 0)
          (br ((ftB z (fewRS m) n ((((applyS z (fewRS m) n (fewBS x)).set (0 + j1) (txt (((((bytesL e8).set (0 + j0) (xorI .u8 e0 (orI .u8 y 1)))).drop 0).take e8.size))).drop 0).take ((applyS z (fewRS m) n (fewBS x)).length))) == (!(spB z ((((((fewRS m).drop 0).take (j2 - 0)) ++ (((fewRS m).drop j3).take ((fewRS m).length - j3))).drop 0).take (((((fewRS m).drop 0).take (j2 - 0)) ++ (((fewRS m).drop j3).take ((fewRS m).length - j3))).length)) e3.1 e3.2)))
            (c0 ((((slE z (fewRS m) n ((((applyS z (fewRS m) n (fewBS x)).set (0 + j1) (txt (((((bytesL e8).set (0 + j0) (xorI .u8 e0 (orI .u8 y 1)))).drop 0).take e8.size))).drop 0).take ((applyS z (fewRS m) n (fewBS x)).length))) : Int) == 10) == (spB z ((((((fewRS m).drop 0).take (j2 - 0)) ++ (((fewRS m).drop j3).take ((fewRS m).length - j3))).drop 0).take (((((fewRS m).drop 0).take (j2 - 0)) ++ (((fewRS m).drop j3).take ((fewRS m).length - j3))).length)) e3.1 e3.2)))
            (c0 false))
          (c0 false))
        (c0 false)))
theorem lawWAF_s1_eq (fuel : Nat)  (m : List (Int × List Int)) (z n : Int) (x : List ByteArray) (q y : Int) : callN Tryd.prog mode23 T_ApplyO fuel 8 [.agg [vI z, vR m], vI n, .ls x, vI q, .s (.int .u8 y)] [] = lawWAF_s1 m z n x q y (fun a1 => some (vB a1, [])) := by kernel_rfl
noncomputable def lawWAF {R : Type} (fuel : Nat) (z : Int) (m : List (Int × List Int)) (n : Int) (x : List ByteArray) (q y : Int) (r0 : Bool → Option R) : Option R :=
  (lawWAF_s1 m z n x q y (fun a1 => r0 a1))
theorem lawWAF_eq (fuel : Nat) (z : Int) (m : List (Int × List Int)) (n : Int) (x : List ByteArray) (q y : Int) : callN Tryd.prog mode23 T_ApplyO fuel 8 [.agg [.s (.int .i64 z), .lt (.pair (.int .i64) (.sl (.int .u64))) m], .s (.int .i64 n), .ls x, .s (.int .i64 q), .s (.int .u8 y)] [] = lawWAF fuel z m n x q y (fun z0 => some (.s (.bool z0), [])) := by
  unfold lawWAF
  exact (lawWAF_s1_eq fuel  m z n x q y)
/-! downpour/matrix.Apply -/
theorem ApplyN_fact (z : Int) (m : List (Int × List Int)) (n : Int) (l : List ByteArray) (hg : (okM m && decide (m.length = 0 ∨ applyE z m n l ≠ 0)) = true) : Fact Tryd.prog gTab 38 [.agg [.s (.int .i64 z), .lt (.pair (.int .i64) (.sl (.int .u64))) m], .s (.int .i64 n), .ls l] [] (.tup [.s (.slice none 0 0), .s (.int .i64 (applyE z m n l))], []) := by
  simp only [Bool.and_eq_true, decide_eq_true_eq] at hg
  obtain ⟨hok, h0⟩ := hg
  refine callN_fact hN hM T_Spans_ok (n := 70) (mode := mode23) ?_
  rw [ApplyOF_eq]
  unfold ApplyOF ApplyOF_s1
  unfold errB
  by_cases hm : mrt z m = true
  · obtain ⟨_, hx, _⟩ := mrt_iff.1 hm
    rw [grd_of hok, br_if, if_neg (by simp [hm]), br_if]
    by_cases hb : bok n l = true
    · rw [if_pos hb, if_neg (by decide), br_if]
      by_cases hl : (l.length : Int) = z
      · have hE := applyE_iff.2 ⟨hm, hb, hl⟩
        have hm0 : m.length = 0 := by
          rcases h0 with h | h
          · exact h
          · exact absurd hE h
        have h2 := fun k0 k1 => ApplyO_fst (R := Out) 70 n l m hx hok k0 k1 70 (by omega)
        rw [if_neg (by simp [hl])]
        dsimp only
        rw [h2, if_pos hm0, hE]
        rfl
      · have hE : applyE z m n l = 2 := by rw [applyE_eq]; unfold applyEI; rw [if_pos hm, if_neg (fun h => hl h.2)]
        rw [if_pos (by simpa using hl), hE]
    · have hE : applyE z m n l = 2 := by rw [applyE_eq]; unfold applyEI; rw [if_pos hm, if_neg (fun h => hb h.1)]
      rw [if_neg hb, if_pos (by decide), hE]
  · have hE : applyE z m n l = 1 := by rw [applyE_eq]; unfold applyEI; rw [if_neg hm]
    rw [grd_of hok, br_if, if_pos (by simp [hm]), hE]
noncomputable def ApplyN_ent : List V → List Blk → Option (Bool × Out)
  | [.agg [.s (.int .i64 z), w0], .s (.int .i64 n), w1], [] => (asSl (.pair (.int .i64) (.sl (.int .u64))) w0).bind fun m => (asSl .str w1).bind fun l => some ((okM m && decide (m.length = 0 ∨ applyE z m n l ≠ 0)), (.tup [.s (.slice none 0 0), .s (.int .i64 (applyE z m n l))], []))
  | _, _ => none
theorem ApplyN_ok : ∀ args bs out, ApplyN_ent args bs = some (true, out) → Fact Tryd.prog gTab 38 args bs out := by
  intro args bs out h
  unfold ApplyN_ent at h
  split at h
  · rename_i z w0 n w1
    obtain ⟨m, h_m, h⟩ := Option.bind_eq_some_iff.1 h
    obtain ⟨l, h_l, h⟩ := Option.bind_eq_some_iff.1 h
    simp only [Option.some.injEq, Prod.mk.injEq] at h
    obtain ⟨hg, rfl⟩ := h
    exact (ApplyN_fact z m n l hg).args (fun _ _ _ => fun _ h => RVs_two (fun _ h => RV_agg_two (fun _ h => RVs_two (fun _ h => h) (fun _ h => RVs_two (fun _ h => RV_sl (s := (.pair (.int .i64) (.sl (.int .u64)))) h_m h) (fun _ h => h) h) h) h) (fun _ h => RVs_two (fun _ h => h) (fun _ h => RVs_two (fun _ h => RV_ls h_l h) (fun _ h => h) h) h) h)
  · cases h
noncomputable def T_ApplyN : Tbl := Tbl.cons 38 ApplyN_ent T_ApplyO
theorem T_ApplyN_ok : CallOk Tryd.prog gTab T_ApplyN := cons_ok T_ApplyO_ok ApplyN_ok
/-! One equation that has another block. -/
theorem sp_cons_or {l : List Nat} {a w : Nat} (h : Sp (a :: l) w) : Sp l w ∨ Sp l (w ^^^ a) := by
  induction h with
  | zero => exact .inl .zero
  | @step b v hb _ ih =>
    rcases List.mem_cons.1 hb with rfl | hb
    · rcases ih with h | h
      · right; rw [xor_back]; exact h
      · left; exact h
    · rcases ih with h | h
      · exact .inl (.step hb h)
      · right
        have := Lin.Sp.step hb h
        rwa [Nat.xor_assoc, Nat.xor_comm a b, ← Nat.xor_assoc] at this
theorem or8 {y : Int} (h0 : 0 ≤ y) (h1 : y < 256) : ∃ r : Nat, r ≠ 0 ∧ r < 256 ∧ orI .u8 y 1 = (r : Int) := by
  have h : orI .u8 y 1 = IntKind.u8.wrap ((BitVec.ofInt 8 y ||| BitVec.ofInt 8 1).toNat : Int) := rfl
  have hlt := Nat.or_lt_two_pow (n := 8) (x := y.toNat) (y := 1) (by omega) (by omega)
  refine ⟨y.toNat ||| 1, fun e => ?_, by omega, ?_⟩
  · have := congrArg (fun v => v.testBit 0) e
    simp at this
  · rw [h, BitVec.toNat_or, bv8 h0 h1, bv8 (by decide) (by decide), show (1 : Int).toNat = 1 from rfl]
    exact wrap_u8 (by omega) (by omega)
/-- The byte that is changed is another one. -/
theorem x8_ne {x y : Int} (h0 : 0 ≤ x ∧ x < 256) (g0 : 0 ≤ y) (g1 : y < 256) : (0 ≤ xorI .u8 x (orI .u8 y 1) ∧ xorI .u8 x (orI .u8 y 1) < 256) ∧ xorI .u8 x (orI .u8 y 1) ≠ x := by
  obtain ⟨r, h1, h2, h3⟩ := or8 g0 g1
  rw [h3]
  refine ⟨x8_range h0.1 h0.2 (by omega) (by omega), fun e => ?_⟩
  rw [x8_nat h0.1 h0.2 (by omega) (by omega), Int.toNat_natCast] at e
  have e2 : x.toNat ^^^ r = x.toNat := by omega
  have e3 : x.toNat ^^^ (x.toNat ^^^ r) = r := by rw [← Nat.xor_assoc, Nat.xor_self, Nat.zero_xor]
  rw [e2, Nat.xor_self] at e3
  exact h1 e3.symm
theorem wr_bytes {s : ByteArray} {k : Nat} (hk : k < s.size) {b : Int} (hb : 0 ≤ b ∧ b < 256) (hne : b ≠ (bytesL s).getD k 0) : ByteOk ((bytesL s).set k b) ∧ bytesL (txt ((bytesL s).set k b)) = (bytesL s).set k b ∧ (txt ((bytesL s).set k b)).size = s.size ∧ bval (bytesL (txt ((bytesL s).set k b))) ≠ bval (bytesL s) := by
  have hl : ((bytesL s).set k b).length = s.size := by rw [List.length_set, bytes_len]
  have ho : ByteOk ((bytesL s).set k b) := fun x hx => by
    rcases List.mem_or_eq_of_mem_set hx with h | h
    · exact bytes_ok s x h
    · rw [h]; exact hb
  refine ⟨ho, bytes_txt ho, by rw [txt_size, hl], fun e => hne ?_⟩
  rw [bytes_txt ho] at e
  have e2 := bval_inj ho (bytes_ok s) (by rw [hl, bytes_len]) e
  have e3 : ((bytesL s).set k b).getD k 0 = b := by
    rw [List.getD_eq_getElem?_getD, List.getElem?_set, if_pos rfl, if_pos (by rw [bytes_len]; exact hk)]; rfl
  rw [← e3, e2]
theorem mem_split {α : Type} {l : List α} {j : Nat} (hj : j < l.length) (a b : α) : b ∈ l.set j a ↔ b ∈ a :: (l.take j ++ l.drop (j + 1)) := by
  rw [List.set_eq_take_append_cons_drop, if_pos hj, List.mem_append, List.mem_cons, List.mem_cons, List.mem_append]
  constructor
  · rintro (h | h | h)
    · exact .inr (.inl h)
    · exact .inl h
    · exact .inr (.inr h)
  · rintro (h | h | h)
    · exact .inr (.inl h)
    · exact .inl h
    · exact .inr (.inr h)
theorem zipWith_set {α β γ : Type} (f : α → β → γ) : ∀ (a : List α) (b : List β) (j : Nat) (s : β) (hj : j < a.length), j < b.length → a.zipWith f (b.set j s) = (a.zipWith f b).set j (f a[j] s)
  | [], b, j, s, h, _ => by simp at h
  | x :: a, [], j, s, _, h => by simp at h
  | x :: a, y :: b, 0, s, _, _ => rfl
  | x :: a, y :: b, j + 1, s, h1, h2 => by
    rw [List.set_cons_succ, List.zipWith_cons_cons, List.zipWith_cons_cons, List.set_cons_succ, zipWith_set f a b j s (by simpa using h1) (by simpa using h2)]
    rfl
theorem wr_fit {z n : Int} {u : List Rw} {y : List ByteArray} (hok : okM u = true) (hE : applyE z u n y = 0) {j : Nat} (hj : j < u.length) {s' : ByteArray} (hs' : s'.size = n.toNat) (hne : bval (bytesL s') ≠ bval (bytesL (pickT n y (u[j]).1 (u[j]).2))) :
    okM (u.take j ++ u.drop (j + 1)) = true ∧ mrt z (u.take j ++ u.drop (j + 1)) = true ∧ bmayE z u n ((applyS z u n y).set j s') = 0 ∧ (fitB z u ((applyS z u n y).set j s') = true ↔ ¬ Sp (vals (u.take j ++ u.drop (j + 1))) (val (u[j]).2)) := by
  obtain ⟨hm, hz, hzn, hs, hn, hy, hx, e⟩ := tl_basic hE
  obtain ⟨_, hb, hyz⟩ := applyE_iff.1 hE
  obtain ⟨_, _, hrows⟩ := mrt_iff.1 hm
  obtain ⟨_, hv, _⟩ := mrt_vals hok hm
  have hsub : ∀ r, r ∈ u.take j ++ u.drop (j + 1) → r ∈ u := fun r hr => by
    rcases List.mem_append.1 hr with h | h
    · exact List.mem_of_mem_take h
    · exact List.mem_of_mem_drop h
  have hok2 : okM (u.take j ++ u.drop (j + 1)) = true := okM_iff.2 fun r hr => okM_iff.1 hok r (hsub r hr)
  have hm2 : mrt z (u.take j ++ u.drop (j + 1)) = true := mrt_iff.2 ⟨hz, by rw [List.length_append, List.length_take, List.length_drop]; omega, fun r hr => hrows r (hsub r hr)⟩
  have hE2 : applyE z (u.take j ++ u.drop (j + 1)) n y = 0 := applyE_iff.2 ⟨hm2, hb, hyz⟩
  have hal : (applyS z u n y).length = u.length := by rw [e, List.length_map]
  have hsz : ∀ s, s ∈ applyS z u n y → s.size = n.toNat := fun s h => by
    rw [e] at h
    obtain ⟨r, hr, rfl⟩ := List.mem_map.1 h
    rw [tl_pick hok hE hr, txt_size, sel_len hs _ _ (Nat.le_refl _)]
  have hvj : val (u[j]).2 < 2 ^ z.toNat := by
    obtain ⟨h1, h2⟩ := hrows _ (List.getElem_mem hj)
    have := (rtS_iff.1 h2).2.2
    rwa [h1] at this
  refine ⟨hok2, hm2, bmay_iff.2 ⟨hm, bok_iff.2 ⟨hn, by rw [List.length_set, hal]; exact hx, fun s h => ?_⟩, by rw [List.length_set, hal]⟩, ?_⟩
  · rcases List.mem_or_eq_of_mem_set h with h | h
    · have := hsz s h; omega
    · rw [h, hs']; omega
  have ea : augs z u ((applyS z u n y).set j s') = (augs z u (applyS z u n y)).set j (aug z.toNat (val (u[j]).2) (bval (bytesL s'))) := by
    unfold augs
    exact zipWith_set _ u (applyS z u n y) j s' hj (by omega)
  have eO : (augs z u (applyS z u n y)).take j ++ (augs z u (applyS z u n y)).drop (j + 1) = augs z (u.take j ++ u.drop (j + 1)) (applyS z (u.take j ++ u.drop (j + 1)) n y) := by
    rw [tl_augs hok hE, tl_augs hok2 hE2]
    unfold vals
    rw [List.map_append, List.map_append, List.map_take, List.map_take, List.map_drop, List.map_drop]
  have hlen : j < (augs z u (applyS z u n y)).length := by rw [augs_len hal]; exact hj
  have hSp : ∀ w, Sp (augs z u ((applyS z u n y).set j s')) w ↔ Sp (aug z.toNat (val (u[j]).2) (bval (bytesL s')) :: augs z (u.take j ++ u.drop (j + 1)) (applyS z (u.take j ++ u.drop (j + 1)) n y)) w := fun w => by
    rw [ea, ← eO]
    exact ⟨Sp.sub fun b hb => (mem_split hlen _ _).1 hb, Sp.sub fun b hb => (mem_split hlen _ _).2 hb⟩
  have hlo2 := tl_lo hok2 hE2
  have hla : lo z.toNat (aug z.toNat (val (u[j]).2) (bval (bytesL s'))) = val (u[j]).2 := lo_aug hvj
  rw [fit_iff]
  constructor
  · intro hF hsp
    rw [← hlo2] at hsp
    obtain ⟨w, hw, hwl⟩ := Sp.up hsp
    have hw2 := tl_span hok2 hE2 hw
    have h1 := (hSp _).2 ((hw.sub fun b hb => List.mem_cons_of_mem _ hb).xor (.of_mem List.mem_cons_self))
    have h2 := hF _ h1 (by rw [lo_xor, hwl, hla, Nat.xor_self])
    have h3 := xor_eq_zero h2
    apply hne
    have h4 := congrArg (hi z.toNat) h3
    rw [hi_aug hvj, hw2, hwl, hi_aug hvj] at h4
    rw [tl_pick hok hE (List.getElem_mem hj), bytes_txt (sel_ok _ _ _ _)]
    exact h4.symm
  · intro hns w hw h0
    rcases sp_cons_or ((hSp w).1 hw) with h | h
    · exact tl_fit hok2 hE2 w h h0
    · exfalso
      apply hns
      have := Sp.lo (N := z.toNat) h
      rw [lo_xor, h0, hla, Nat.zero_xor, hlo2] at this
      exact this
theorem tmodW (a : Int) {b : Int} (hb : 0 < b) : ∃ v, divI .rem .i64 a b = some v ∧ -b < v ∧ v < b := remT a hb
theorem wf_u8 {x : Int} (h : (Lit.int .u8 x).wf = true) : 0 ≤ x ∧ x < 256 := by
  unfold Lit.wf at h
  simp only [IntKind.min, IntKind.max, IntKind.signed, IntKind.bits, Bool.and_eq_true, decide_eq_true_eq] at h
  simp at h
  omega
/-! downpour/downpourlaw05.BacksubWrong -/
noncomputable def lawWrongF_s1 {R : Type} (m : List (Int × List Int)) (z n : Int) (x : List ByteArray) (q y : Int) (c0 : Bool → Option R) : Option R :=
  grd (okM (fewRS m) && decide ((fewRS m).length = 0 ∨ applyE z (fewRS m) n (fewBS x) ≠ 0)) <|
  br (((applyE z (fewRS m) n (fewBS x)) : Int) != 0)
    (br (((applyE z (fewRS m) n (fewBS x)) : Int) != 0)
      (c0 true)
      (c0 true))
    (br (((applyE z (fewRS m) n (fewBS x)) : Int) != 0)
      (c0 true)
      (c0 true))
theorem lawWrongF_s1_eq (fuel : Nat)  (m : List (Int × List Int)) (z n : Int) (x : List ByteArray) (q y : Int) : callN Tryd.prog mode23 T_ApplyN fuel 8 [.agg [vI z, vR m], vI n, .ls x, vI q, .s (.int .u8 y)] [] = lawWrongF_s1 m z n x q y (fun a1 => some (vB a1, [])) := by kernel_rfl
noncomputable def lawWrongF {R : Type} (fuel : Nat) (z : Int) (m : List (Int × List Int)) (n : Int) (x : List ByteArray) (q y : Int) (r0 : Bool → Option R) : Option R :=
  (lawWrongF_s1 m z n x q y (fun a1 => r0 a1))
theorem lawWrongF_eq (fuel : Nat) (z : Int) (m : List (Int × List Int)) (n : Int) (x : List ByteArray) (q y : Int) : callN Tryd.prog mode23 T_ApplyN fuel 8 [.agg [.s (.int .i64 z), .lt (.pair (.int .i64) (.sl (.int .u64))) m], .s (.int .i64 n), .ls x, .s (.int .i64 q), .s (.int .u8 y)] [] = lawWrongF fuel z m n x q y (fun z0 => some (.s (.bool z0), [])) := by
  unfold lawWrongF
  exact (lawWrongF_s1_eq fuel  m z n x q y)
theorem lawWrong_fact (z : Int) (m : List (Int × List Int)) (n : Int) (x : List ByteArray) (q : Int) (y : Int) (hg : (okM m && decide (0 ≤ y) && decide (y < 256)) = true) : Fact Tryd.prog gTab 8 [.agg [.s (.int .i64 z), .lt (.pair (.int .i64) (.sl (.int .u64))) m], .s (.int .i64 n), .ls x, .s (.int .i64 q), .s (.int .u8 y)] [] (.s (.bool true), []) := by
  simp only [Bool.and_eq_true, decide_eq_true_eq] at hg
  obtain ⟨⟨hgm, y0⟩, y1⟩ := hg
  obtain ⟨hok, hlen⟩ := fewR_ok hgm
  by_cases hc : (fewRS m).length = 0 ∨ applyE z (fewRS m) n (fewBS x) ≠ 0
  · refine callN_fact hN hM T_ApplyN_ok (n := 0) (mode := mode23) ?_
    rw [lawWrongF_eq]
    unfold lawWrongF lawWrongF_s1
    rw [grd_of (by rw [hok, decide_eq_true hc]; rfl)]
    simp only [br_if]
    split <;> rfl
  · have h1 : 1 ≤ (fewRS m).length := by omega
    have hE : applyE z (fewRS m) n (fewBS x) = 0 := Classical.byContradiction fun h => hc (.inr h)
    clear hc
    refine callN_fact hN hM T_ApplyO_ok (n := 0) (mode := mode23) ?_
    rw [lawWAF_eq]
    unfold lawWAF lawWAF_s1
    generalize fewRS m = u at *
    generalize fewBS x = t at *
    obtain ⟨hm, hz, hzn, hs, hn, hy, hx, e⟩ := tl_basic hE
    have hal : (applyS z u n t).length = u.length := by rw [e, List.length_map]
    have hnz : ((((applyS z u n t).length : Nat) : Int) == 0) = false := by rw [beq_eq_false_iff_ne]; omega
    rw [grd_of (by rw [hok, decide_eq_true hE]; simp; omega), hnz, br_ff, br_if]
    by_cases h0 : n = 0
    · subst h0
      rw [if_pos (by rfl), br_ff]
      rfl
    · rw [if_neg (by simpa using h0)]
      obtain ⟨v, e1, v1, v2⟩ := remT q (b := (((applyS z u n t).length : Nat) : Int)) (by omega)
      obtain ⟨w, e2, w1, w2⟩ := remU (a := v + (((applyS z u n t).length : Nat) : Int)) (b := (((applyS z u n t).length : Nat) : Int)) (by omega) (by omega)
      rw [bnd_of e1, wrap_i64 (x := v + (((applyS z u n t).length : Nat) : Int)) (by omega) (by omega), bnd_of e2]
      clear e1 e2 v1 v2
      obtain ⟨j, rfl⟩ : ∃ j : Nat, w = (j : Int) := ⟨w.toNat, by omega⟩
      have hj : j < u.length := by omega
      have hjl : j < (applyS z u n t).length := by omega
      have b1 : below (j : Int) (applyS z u n t).length = some j := by rw [below_of (by omega) (by omega)]; rfl
      have g1 : (applyS z u n t)[0 + j]? = some (pickT n t (u[j]).1 (u[j]).2) := by
        rw [Nat.zero_add, e, List.getElem?_map, List.getElem?_eq_getElem hj]; rfl
      have hsz : (pickT n t (u[j]).1 (u[j]).2).size = n.toNat := by rw [tl_pick hok hE (List.getElem_mem hj), txt_size, sel_len hs _ _ (Nat.le_refl _)]
      obtain ⟨k, hk⟩ : ∃ k, n.toNat = k + 1 := ⟨n.toNat - 1, by omega⟩
      have b2 : below (IntKind.i64.wrap ((((pickT n t (u[j]).1 (u[j]).2).size : Nat) : Int) - 1)) (pickT n t (u[j]).1 (u[j]).2).size = some k := by
        rw [hsz, wrap_i64 (by omega) (by omega), below_of (by omega) (by omega)]; congr 1; omega
      have hbl : (bytesL (pickT n t (u[j]).1 (u[j]).2)).length = n.toNat := by rw [bytes_len, hsz]
      have g2 : (bytesL (pickT n t (u[j]).1 (u[j]).2))[0 + k]? = some ((bytesL (pickT n t (u[j]).1 (u[j]).2)).getD k 0) := by
        rw [Nat.zero_add, List.getD_eq_getElem?_getD, List.getElem?_eq_getElem (by omega)]; rfl
      obtain ⟨x1, x2⟩ := x8_ne (getD_ok (bytes_ok (pickT n t (u[j]).1 (u[j]).2)) k) y0 y1
      obtain ⟨p1, p2, p3, p4⟩ := wr_bytes (s := pickT n t (u[j]).1 (u[j]).2) (k := k) (by omega) x1 x2
      obtain ⟨f1, f2, f3, f4⟩ := wr_fit hok hE hj (p3.trans hsz) p4
      have b3 : upTo (j : Int) u.length = some j := by rw [upTo_of (by omega) (by omega)]; rfl
      have b4 : upTo (IntKind.i64.wrap ((j : Int) + 1)) u.length = some (j + 1) := by rw [wrap_i64 (by omega) (by omega), upTo_of (by omega) (by omega)]; congr 1
      have e3 : (u.drop 0).take (j - 0) = u.take j := by rw [List.drop_zero, Nat.sub_zero]
      have e4 : (u.drop (j + 1)).take (u.length - (j + 1)) = u.drop (j + 1) := List.take_of_length_le (by rw [List.length_drop]; omega)
      have e5 : ((u.take j ++ u.drop (j + 1)).drop 0).take (u.take j ++ u.drop (j + 1)).length = u.take j ++ u.drop (j + 1) := by rw [List.drop_zero, List.take_length]
      have hol : (u.take j ++ u.drop (j + 1)).length ≤ 64 := by rw [List.length_append, List.length_take, List.length_drop]; omega
      have e6 : ∀ s : ByteArray, (((applyS z u n t).set (0 + j) s).drop 0).take (applyS z u n t).length = (applyS z u n t).set j s := fun s => by
        rw [Nat.zero_add, List.drop_zero, List.take_of_length_le (by rw [List.length_set]; omega)]
      have e7 : ∀ b : Int, txt ((((bytesL (pickT n t (u[j]).1 (u[j]).2)).set (0 + k) b).drop 0).take (pickT n t (u[j]).1 (u[j]).2).size) = txt ((bytesL (pickT n t (u[j]).1 (u[j]).2)).set k b) := fun b => by
        rw [Nat.zero_add, List.drop_zero, List.take_of_length_le (by rw [List.length_set]; omega)]
      obtain ⟨hr1, hr2⟩ := (mrt_iff.1 hm).2.2 _ (List.getElem_mem hj)
      have hok3 := okM_iff.1 hok _ (List.getElem_mem hj)
      rw [bnd_of b1, bnd_of g1, bnd_of b2, bnd_of g2, bnd_of b2, bnd_of g2, grd_of (by rw [Nat.ble_eq, List.length_set]; omega), bnd_of b1, bnd_of g1, bnd_of b3, e3, grd_of (okN_of (by rw [List.length_take]; omega) (by rw [List.length_take]; omega)), bnd_of b4, grd_of (beq_self _), e4, grd_of (okN_of (by rw [List.length_take, List.length_drop]; omega) (by rw [List.length_take, List.length_drop]; omega)), bnd_of ((ix_nat u j).trans (List.getElem?_eq_getElem hj)), e5, grd_of (by rw [f1, hok3]; simp; omega), grd_of (by rw [hok]; simp; omega), grd_of (by rw [hok]; simp; omega), e7, e6, f3]
      have hspE : spE z (u.take j ++ u.drop (j + 1)) (u[j]).1 (u[j]).2 = 0 := by
        rw [spE_eq]; unfold spEI
        rw [if_pos ⟨f2, hr2⟩, if_pos hr1]
      have hspB : spB z (u.take j ++ u.drop (j + 1)) (u[j]).1 (u[j]).2 = @decide (Sp (vals (u.take j ++ u.drop (j + 1))) (val (u[j]).2)) (Classical.propDecidable _) := by
        rw [spB_eq]; unfold spBI
        rw [hspE]; rfl
      rw [hspE]
      generalize (applyS z u n t).set j (txt ((bytesL (pickT n t (u[j]).1 (u[j]).2)).set k (xorI .u8 ((bytesL (pickT n t (u[j]).1 (u[j]).2)).getD k 0) (orI .u8 y 1)))) = l' at *
      have hft : ftB z u n l' = fitB z u l' := by rw [ftB_eq]; unfold ftBI; rw [f3]; rfl
      rw [hft, hspB]
      by_cases hsp : Sp (vals (u.take j ++ u.drop (j + 1))) (val (u[j]).2)
      · have hf : fitB z u l' = false := Bool.eq_false_iff.2 fun h => f4.1 h hsp
        have hk : knE z u n l' = 10 := by rw [knE_eq]; unfold knEI; rw [if_pos f3, hf, if_neg (by decide)]
        have hS : slE z u n l' = 10 := by rw [slE_eq]; unfold slEI; rw [hk, if_neg (by decide)]
        rw [@decide_eq_true _ (Classical.propDecidable _) hsp, hf, hS]
        rfl
      · have hf : fitB z u l' = true := f4.2 hsp
        have hk : knE z u n l' = 0 := by rw [knE_eq]; unfold knEI; rw [if_pos f3, if_pos hf]
        have hS : (slE z u n l' == 10) = false := by
          rw [slE_eq]; unfold slEI; rw [hk, if_pos rfl, beq_eq_false_iff_ne]
          split <;> decide
        rw [@decide_eq_false _ (Classical.propDecidable _) hsp, hf, hS]
        rfl
noncomputable def lawWrong_ent : List V → List Blk → Option (Bool × Out)
  | [.agg [.s (.int .i64 z), w0], .s (.int .i64 n), w1, .s (.int .i64 q), .s (.int .u8 y)], [] => (asSl (.pair (.int .i64) (.sl (.int .u64))) w0).bind fun m => (asSl .str w1).bind fun x => some ((okM m && decide (0 ≤ y) && decide (y < 256)), (.s (.bool true), []))
  | _, _ => none
theorem lawWrong_ok : ∀ args bs out, lawWrong_ent args bs = some (true, out) → Fact Tryd.prog gTab 8 args bs out := by
  intro args bs out h
  unfold lawWrong_ent at h
  split at h
  · rename_i z w0 n w1 q y
    obtain ⟨m, h_m, h⟩ := Option.bind_eq_some_iff.1 h
    obtain ⟨x, h_x, h⟩ := Option.bind_eq_some_iff.1 h
    simp only [Option.some.injEq, Prod.mk.injEq] at h
    obtain ⟨hg, rfl⟩ := h
    exact (lawWrong_fact z m n x q y hg).args (fun _ _ _ => fun _ h => RVs_two (fun _ h => RV_agg_two (fun _ h => RVs_two (fun _ h => h) (fun _ h => RVs_two (fun _ h => RV_sl (s := (.pair (.int .i64) (.sl (.int .u64)))) h_m h) (fun _ h => h) h) h) h) (fun _ h => RVs_two (fun _ h => h) (fun _ h => RVs_two (fun _ h => RV_ls h_x h) (fun _ h => h) h) h) h)
  · cases h
noncomputable def T_lawWrong : Tbl := Tbl.cons 8 lawWrong_ent T_ApplyN
theorem T_lawWrong_ok : CallOk Tryd.prog gTab T_lawWrong := cons_ok T_ApplyN_ok lawWrong_ok
end Go.Proofs.YtfpdcfgjhkiklaaDoor
