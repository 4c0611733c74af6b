/- Columns that are put off: what the document tells, and the law. -/
import Derived.Test.YtfpdcfgjhkiklaaDoorPmTab
import Derived.KernelRfl
import Derived.Test.YtfpdcfgjhkiklaaDoorProg
import Derived.Test.YtfpdcfgjhkiklaaDoorInactM
set_option autoImplicit false
set_option maxRecDepth 100000
set_option maxHeartbeats 4000000
set_option linter.unusedVariables false
set_option linter.unusedSimpArgs false
namespace Go.Proofs.YtfpdcfgjhkiklaaDoor
open Go Go.PM Go.Proofs Go.Shelf Go.PM.Row Go.PM.Bits Go.PM.Bit
def mode13 : FuncId → Nat := fun f => 0
noncomputable def T_Places_2 : Tbl := Tbl.cons 26 Places_ent T_Make
theorem T_Places_2_ok : CallOk Tryd.prog gTab T_Places_2 := cons_ok T_Make_ok Places_ok
/-! downpour/inactive.Choose -/
noncomputable abbrev qd0 : Code := (sub (bodyOf Tryd.prog 15) [1, 1, 1, 0, 1, 0, 0])
noncomputable abbrev qd1 (fuel : Nat) : Ctx Out := (fnX Tryd.prog mode13 T_Places_2 fuel 49 0)
noncomputable abbrev qd2 : List Nat := [2, 3, 4, 6, 7, 19, 20, 21, 22, 23, 24, 25, 26, 27, 28, 29, 30, 31, 32]
noncomputable def ChooseF_s3 {R : Type} (w0 w1 : Int) (w2 : List Int) (n3 : Nat) (w3 : List Int) (w4 : Bool) (w5 : Int) (w6 : List Int) (w7 : Int) (m : List (Int × List Int)) (w8 w9 : Int) (c0 : List Int → Bool → Int → List Int → Int → Int → Int → List Int → Option R) (c1 : List Int → Bool → Int → List Int → Int → Int → Int → Bool → List Int → Option R) : Option R :=
  br (decide (w0 < w1))
    (bnd (ix w2 w0) fun e0 =>
    bnd (below e0 n3) fun j0 =>
    bnd (w3[(0 + j0)]?) fun e1 =>
    bnd (below e0 n3) fun j1 =>
    bnd (w3[(0 + j1)]?) fun e2 =>
    c0 w2 w4 w5 w6 w7 w1 (IntKind.i64.wrap (w0 + 1)) (w3.set (0 + j1) (IntKind.i64.wrap (e1 + 1))))
    (c1 w2 w4 w5 w6 w7 w1 w0 (decide (w0 < w1)) w3)
theorem ChooseF_s3_eq (fuel k : Nat) (K : Ex → St → Option Out) (w0 w1 : Int) (w2 : List Int) (n3 : Nat) (w3 : List Int) (w4 : Bool) (w5 : Int) (w6 : List Int) (w7 : Int) (m : List (Int × List Int)) (w8 w9 : Int) : lpN (sub qd0 [1, 1, 0, 0, 1, 1, 1, 0, 0]) (qd1 fuel) 562949952900316 qd2 (k + 1) ⟨[(2, vI 0), (3, vI 0), (4, .sl 0 1 0 n3), (6, .ptr 1 2 0 0), (7, vL w2), (19, vR m), (20, vI w8), (21, vI w9), (22, vB w4), (23, .lp [vI w5, vW w6] 0), (24, .agg [vI w5, vW w6]), (25, .tup [vL w2, vI w7]), (26, .agg [vI w5, vW w6]), (27, .tup [vL w2, vI w7]), (28, vL w2), (29, vI w7), (30, vL w2), (31, vI w1), (32, vI w0)], [(0, bL 3 w3), (1, some ⟨44, .agg [vI w5, vW w6], true⟩)], 2, none⟩ K = ChooseF_s3 w0 w1 w2 n3 w3 w4 w5 w6 w7 m w8 w9 (fun a0 a1 a2 a3 a4 a5 a6 a7 => lpN (sub qd0 [1, 1, 0, 0, 1, 1, 1, 0, 0]) (qd1 fuel) 562949952900316 qd2 k ⟨[(2, vI 0), (3, vI 0), (4, .sl 0 1 0 n3), (6, .ptr 1 2 0 0), (7, vL a0), (19, vR m), (20, vI w8), (21, vI w9), (22, vB a1), (23, .lp [vI a2, vW a3] 0), (24, .agg [vI a2, vW a3]), (25, .tup [vL a0, vI a4]), (26, .agg [vI a2, vW a3]), (27, .tup [vL a0, vI a4]), (28, vL a0), (29, vI a4), (30, vL a0), (31, vI a5), (32, vI a6)], [(0, bL 3 a7), (1, some ⟨44, .agg [vI a2, vW a3], true⟩)], 2, none⟩ K) (fun a8 a9 a10 a11 a12 a13 a14 a15 a16 => K (.exit 2) ⟨[(2, vI 0), (3, vI 0), (4, .sl 0 1 0 n3), (6, .ptr 1 2 0 0), (7, vL a8), (19, vR m), (20, vI w8), (21, vI w9), (22, vB a9), (23, .lp [vI a10, vW a11] 0), (24, .agg [vI a10, vW a11]), (25, .tup [vL a8, vI a12]), (26, .agg [vI a10, vW a11]), (27, .tup [vL a8, vI a12]), (28, vL a8), (29, vI a12), (30, vL a8), (31, vI a13), (32, vI a14), (33, vB a15)], [(0, bL 3 a16), (1, some ⟨44, .agg [vI a10, vW a11], true⟩)], 2, none⟩) := by kernel_rfl
noncomputable def ChooseF_l2 {R : Type} (fuel n3 : Nat) (m : List (Int × List Int)) (w0 w1 : Int) (k0 : List Int → Bool → Int → List Int → Int → Int → Int → Bool → List Int → Option R) : Nat → List Int → Bool → Int → List Int → Int → Int → Int → List Int → Option R
  | 0, _, _, _, _, _, _, _, _ => none
  | k + 1, w2, w3, w4, w5, w6, w7, w8, w9 =>
    (ChooseF_s3 w8 w7 w2 n3 w9 w3 w4 w5 w6 m w0 w1 (fun a0 a1 a2 a3 a4 a5 a6 a7 => ( ChooseF_l2 fuel n3 m w0 w1 k0 k a0 a1 a2 a3 a4 a5 a6 a7 )) (fun a8 a9 a10 a11 a12 a13 a14 a15 a16 => k0 a8 a9 a10 a11 a12 a13 a14 a15 a16))
theorem ChooseF_l2_eq (fuel n3 : Nat) (m : List (Int × List Int)) (w0 w1 : Int) (K : Ex → St → Option Out) : ∀ (k : Nat) (w2 : List Int) (w3 : Bool) (w4 : Int) (w5 : List Int) (w6 w7 w8 : Int) (w9 : List Int), lpN (sub qd0 [1, 1, 0, 0, 1, 1, 1, 0, 0]) (qd1 fuel) 562949952900316 qd2 k ⟨[(2, vI 0), (3, vI 0), (4, .sl 0 1 0 n3), (6, .ptr 1 2 0 0), (7, vL w2), (19, vR m), (20, vI w0), (21, vI w1), (22, vB w3), (23, .lp [vI w4, vW w5] 0), (24, .agg [vI w4, vW w5]), (25, .tup [vL w2, vI w6]), (26, .agg [vI w4, vW w5]), (27, .tup [vL w2, vI w6]), (28, vL w2), (29, vI w6), (30, vL w2), (31, vI w7), (32, vI w8)], [(0, bL 3 w9), (1, some ⟨44, .agg [vI w4, vW w5], true⟩)], 2, none⟩ K = ChooseF_l2 fuel n3 m w0 w1 (fun y0 y1 y2 y3 y4 y5 y6 y7 y8 => K (.exit 2) ⟨[(2, vI 0), (3, vI 0), (4, .sl 0 1 0 n3), (6, .ptr 1 2 0 0), (7, vL y0), (19, vR m), (20, vI w0), (21, vI w1), (22, vB y1), (23, .lp [vI y2, vW y3] 0), (24, .agg [vI y2, vW y3]), (25, .tup [vL y0, vI y4]), (26, .agg [vI y2, vW y3]), (27, .tup [vL y0, vI y4]), (28, vL y0), (29, vI y4), (30, vL y0), (31, vI y5), (32, vI y6), (33, vB y7)], [(0, bL 3 y8), (1, some ⟨44, .agg [vI y2, vW y3], true⟩)], 2, none⟩) k w2 w3 w4 w5 w6 w7 w8 w9
  | 0, _, _, _, _, _, _, _, _ => rfl
  | k + 1, w2, w3, w4, w5, w6, w7, w8, w9 => by
    unfold ChooseF_l2
    exact (ChooseF_s3_eq fuel k K w8 w7 w2 n3 w9 w3 w4 w5 w6 m w0 w1).trans (congr (congr (Eq.refl (ChooseF_s3 (R := Out) w8 w7 w2 n3 w9 w3 w4 w5 w6 m w0 w1)) (funext fun a0 => funext fun a1 => funext fun a2 => funext fun a3 => funext fun a4 => funext fun a5 => funext fun a6 => funext fun a7 => ChooseF_l2_eq fuel n3 m w0 w1 K k a0 a1 a2 a3 a4 a5 a6 a7)) (rfl))
noncomputable def ChooseF_s4 {R : Type} (w0 w1 : Int) (x0 : List Int) (n3 : Nat) (x1 : List Int) (m : List (Int × List Int)) (x2 : Bool) (x3 : Int) (x4 : List Int) (x5 x6 x7 : Int) (x8 : Bool) (c0 : Int → Int → List Int → Option R) : Option R :=
  c0 w0 (IntKind.i64.wrap (w1 + 1)) x0
theorem ChooseF_s4_eq (fuel k : Nat) (K : Ex → St → Option Out) (w0 w1 : Int) (x0 : List Int) (n3 : Nat) (x1 : List Int) (m : List (Int × List Int)) (x2 : Bool) (x3 : Int) (x4 : List Int) (x5 x6 x7 : Int) (x8 : Bool) : (kont (qd1 fuel) qd0 [1, 1, 0, 0, 1, 1, 1, 0] 562949952900316 (rdK qd0 (qd1 fuel) 545357767378972 [2, 3, 4, 19, 20, 21] k K)) (.exit 2) ⟨[(2, vI 0), (3, vI 0), (4, .sl 0 1 0 n3), (6, .ptr 1 2 0 0), (7, vL x1), (19, vR m), (20, vI w0), (21, vI w1), (22, vB x2), (23, .lp [vI x3, vW x4] 0), (24, .agg [vI x3, vW x4]), (25, .tup [vL x1, vI x5]), (26, .agg [vI x3, vW x4]), (27, .tup [vL x1, vI x5]), (28, vL x1), (29, vI x5), (30, vL x1), (31, vI x6), (32, vI x7), (33, vB x8)], [(0, bL 3 x0), (1, some ⟨44, .agg [vI x3, vW x4], true⟩)], 2, none⟩ = ChooseF_s4 w0 w1 x0 n3 x1 m x2 x3 x4 x5 x6 x7 x8 (fun a0 a1 a2 => lpN qd0 (qd1 fuel) 545357767378972 [2, 3, 4, 19, 20, 21] k ⟨[(2, vI 0), (3, vI 0), (4, .sl 0 1 0 n3), (19, vR m), (20, vI a0), (21, vI a1)], [(0, bL 3 a2)], 1, none⟩ K) := by kernel_rfl
noncomputable def ChooseF_s2 {R : Type} (w0 w1 : Int) (m : List (Int × List Int)) (w2 : List Int) (n3 : Nat) (c0 : List Int → Bool → Int → List Int → Int → Int → Int → List Int → Option R) (c1 : List Int → Option R) : Option R :=
  br (decide (w0 < w1))
    (bnd (ix m w0) fun e0 =>
    grd (okW e0.2) <|
    c0 (plcS e0.1 e0.2) (decide (w0 < w1)) e0.1 e0.2 (if rtS e0.1 e0.2 = true then 0 else 1) (((plcS e0.1 e0.2).length : Nat) : Int) 0 w2)
    (c1 w2)
theorem ChooseF_s2_eq (fuel k : Nat) (K : Ex → St → Option Out) (w0 w1 : Int) (m : List (Int × List Int)) (w2 : List Int) (n3 : Nat) : lpN qd0 (qd1 fuel) 545357767378972 [2, 3, 4, 19, 20, 21] (k + 1) ⟨[(2, vI 0), (3, vI 0), (4, .sl 0 1 0 n3), (19, vR m), (20, vI w1), (21, vI w0)], [(0, bL 3 w2)], 1, none⟩ K = ChooseF_s2 w0 w1 m w2 n3 (fun a0 a1 a2 a3 a4 a5 a6 a7 => lpN (sub qd0 [1, 1, 0, 0, 1, 1, 1, 0, 0]) (qd1 fuel) 562949952900316 qd2 fuel ⟨[(2, vI 0), (3, vI 0), (4, .sl 0 1 0 n3), (6, .ptr 1 2 0 0), (7, vL a0), (19, vR m), (20, vI w1), (21, vI w0), (22, vB a1), (23, .lp [vI a2, vW a3] 0), (24, .agg [vI a2, vW a3]), (25, .tup [vL a0, vI a4]), (26, .agg [vI a2, vW a3]), (27, .tup [vL a0, vI a4]), (28, vL a0), (29, vI a4), (30, vL a0), (31, vI a5), (32, vI a6)], [(0, bL 3 a7), (1, some ⟨44, .agg [vI a2, vW a3], true⟩)], 2, none⟩ (kont (qd1 fuel) qd0 [1, 1, 0, 0, 1, 1, 1, 0] 562949952900316 (rdK qd0 (qd1 fuel) 545357767378972 [2, 3, 4, 19, 20, 21] k K))) (fun a8 => K (.exit 0) ⟨[(2, vI 0), (3, vI 0), (4, .sl 0 1 0 n3)], [(0, bL 3 a8)], 1, none⟩) := by kernel_rfl
noncomputable def ChooseF_l1 {R : Type} (fuel n3 : Nat) (m : List (Int × List Int)) (k0 : List Int → Option R) : Nat → Int → Int → List Int → Option R
  | 0, _, _, _ => none
  | k + 1, w0, w1, w2 =>
    (ChooseF_s2 w1 w0 m w2 n3 (fun a0 a1 a2 a3 a4 a5 a6 a7 => (ChooseF_l2 fuel n3 m w0 w1 (fun x0 x1 x2 x3 x4 x5 x6 x7 x8 => (ChooseF_s4 w0 w1 x8 n3 x0 m x1 x2 x3 x4 x5 x6 x7 (fun a8 a9 a10 => ( ChooseF_l1 fuel n3 m k0 k a8 a9 a10 )))) fuel a0 a1 a2 a3 a4 a5 a6 a7)) (fun a11 => k0 a11))
theorem ChooseF_l1_eq (fuel n3 : Nat) (m : List (Int × List Int)) (K : Ex → St → Option Out) : ∀ (k : Nat) (w0 w1 : Int) (w2 : List Int), lpN qd0 (qd1 fuel) 545357767378972 [2, 3, 4, 19, 20, 21] k ⟨[(2, vI 0), (3, vI 0), (4, .sl 0 1 0 n3), (19, vR m), (20, vI w0), (21, vI w1)], [(0, bL 3 w2)], 1, none⟩ K = ChooseF_l1 fuel n3 m (fun y0 => K (.exit 0) ⟨[(2, vI 0), (3, vI 0), (4, .sl 0 1 0 n3)], [(0, bL 3 y0)], 1, none⟩) k w0 w1 w2
  | 0, _, _, _ => rfl
  | k + 1, w0, w1, w2 => by
    unfold ChooseF_l1
    exact (ChooseF_s2_eq fuel k K w1 w0 m w2 n3).trans (congr (congr (Eq.refl (ChooseF_s2 (R := Out) w1 w0 m w2 n3)) (funext fun a0 => funext fun a1 => funext fun a2 => funext fun a3 => funext fun a4 => funext fun a5 => funext fun a6 => funext fun a7 => (ChooseF_l2_eq fuel n3 m w0 w1 (kont (qd1 fuel) qd0 [1, 1, 0, 0, 1, 1, 1, 0] 562949952900316 (rdK qd0 (qd1 fuel) 545357767378972 [2, 3, 4, 19, 20, 21] k K)) fuel a0 a1 a2 a3 a4 a5 a6 a7).trans (congrFun (congrFun (congrFun (congrFun (congrFun (congrFun (congrFun (congrFun (congrFun (congr (Eq.refl (ChooseF_l2 (R := Out) fuel n3 m w0 w1)) (funext fun x0 => funext fun x1 => funext fun x2 => funext fun x3 => funext fun x4 => funext fun x5 => funext fun x6 => funext fun x7 => funext fun x8 => (ChooseF_s4_eq fuel k K w0 w1 x8 n3 x0 m x1 x2 x3 x4 x5 x6 x7).trans (congr (Eq.refl (ChooseF_s4 (R := Out) w0 w1 x8 n3 x0 m x1 x2 x3 x4 x5 x6 x7)) (funext fun a8 => funext fun a9 => funext fun a10 => ChooseF_l1_eq fuel n3 m K k a8 a9 a10)))) fuel) a0) a1) a2) a3) a4) a5) a6) a7))) (rfl))
noncomputable def ChooseF_s5 {R : Type} (x0 : List Int) (n3 : Nat) (c0 : Int → Int → Option R) : Option R :=
  grd (decide (((x0.drop 0).take n3).length ≤ 1000)) <|
  br (decide (((mostS ((x0.drop 0).take n3)) : Int) ≥ 0))
    (c0 (mostS ((x0.drop 0).take n3)) 0)
    (c0 0 4)
theorem ChooseF_s5_eq (fuel : Nat)  (x0 : List Int) (n3 : Nat) : (kont (qd1 fuel) (bodyOf Tryd.prog 15) [1, 1, 1, 0, 1, 0] 12 (endK Tryd.prog 0 0 15)) (.exit 0) ⟨[(2, vI 0), (3, vI 0), (4, .sl 0 1 0 n3)], [(0, bL 3 x0)], 1, none⟩ = ChooseF_s5 x0 n3 (fun a0 a1 => some (.tup [vI a0, vI a1], [])) := by kernel_rfl
noncomputable def ChooseF_s1 {R : Type} (m : List (Int × List Int)) (n : Int) (c0 : Int → Int → Option R) (c1 : Int → Int → List Int → Nat → Option R) : Option R :=
  grd (okM m) <|
  br (!(mrt n m))
    (c0 0 1)
    (bnd (mkN n n 8) fun n3 =>
    c1 ((m.length : Nat) : Int) 0 (List.replicate n3 (0 : Int)) n3)
theorem ChooseF_s1_eq (fuel : Nat)  (m : List (Int × List Int)) (n : Int) : callN Tryd.prog mode13 T_Places_2 fuel 15 [.agg [vI n, vR m]] [] = ChooseF_s1 m n (fun a1 a2 => some (.tup [vI a1, vI a2], [])) (fun a0 a3 a4 n3 => lpN qd0 (qd1 fuel) 545357767378972 [2, 3, 4, 19, 20, 21] fuel ⟨[(2, vI 0), (3, vI 0), (4, .sl 0 1 0 n3), (19, vR m), (20, vI a0), (21, vI a3)], [(0, bL 3 a4)], 1, none⟩ (kont (qd1 fuel) (bodyOf Tryd.prog 15) [1, 1, 1, 0, 1, 0] 12 (endK Tryd.prog 0 0 15))) := by kernel_rfl
noncomputable def ChooseF {R : Type} (fuel : Nat) (n : Int) (m : List (Int × List Int)) (r0 : Int → Int → Option R) : Option R :=
  (ChooseF_s1 m n (fun a1 a2 => r0 a1 a2) (fun a0 a3 a4 n3 => (ChooseF_l1 fuel n3 m (fun x0 => (ChooseF_s5 x0 n3 (fun a5 a6 => r0 a5 a6))) fuel a0 a3 a4)))
theorem ChooseF_eq (fuel : Nat) (n : Int) (m : List (Int × List Int)) : callN Tryd.prog mode13 T_Places_2 fuel 15 [.agg [.s (.int .i64 n), .lt (.pair (.int .i64) (.sl (.int .u64))) m]] [] = ChooseF fuel n m (fun z0 z1 => some (.tup [.s (.int .i64 z0), .s (.int .i64 z1)], [])) := by
  unfold ChooseF
  exact (ChooseF_s1_eq fuel  m n).trans (congr (congr (Eq.refl (ChooseF_s1 (R := Out) m n)) (rfl)) (funext fun a0 => funext fun a1 => funext fun a2 => funext fun n3 => (ChooseF_l1_eq fuel n3 m (kont (qd1 fuel) (bodyOf Tryd.prog 15) [1, 1, 1, 0, 1, 0] 12 (endK Tryd.prog 0 0 15)) fuel a0 a1 a2).trans (congrFun (congrFun (congrFun (congrFun (congr (Eq.refl (ChooseF_l1 (R := Out) fuel n3 m)) (funext fun x0 => (ChooseF_s5_eq fuel  x0 n3))) fuel) a0) a1) a2)))
theorem Choose_i {R : Type} (fuel N : Nat) (m : List Rw) (len p : Int) (k0 : List Int → Bool → Int → List Int → Int → Int → Int → Bool → List Int → Option R) (b1 : Bool) (z e : Int) (ws l : List Int) (hl : l.length ≤ 64) (hr : ∀ i, i ∈ l → 0 ≤ i ∧ i < (N : Int)) : ∀ (k j : Nat) (cs : List Int) (M : Int), j ≤ l.length → l.length < j + k → cs.length = N → 0 ≤ M → M + (l.length : Int) ≤ 100000 + (j : Int) → (∀ x, x ∈ cs → 0 ≤ x ∧ x ≤ M) →
    ChooseF_l2 fuel N m len p k0 k l b1 z ws e (l.length : Int) (j : Int) cs = k0 l b1 z ws e (l.length : Int) (l.length : Int) (decide ((l.length : Int) < (l.length : Int))) (addL cs (l.drop j))
  | 0, j, cs, M, h1, h2, _, _, _, _ => by omega
  | k + 1, j, cs, M, h1, h2, h3, h4, h5, h6 => by
    unfold ChooseF_l2 ChooseF_s3
    rw [br_if]
    by_cases hc : j < l.length
    · have hj := hr _ (List.getElem_mem hc)
      obtain ⟨i, hi⟩ : ∃ i : Nat, l[j] = (i : Int) := ⟨(l[j]).toNat, by omega⟩
      have hiN : i < cs.length := by omega
      have ei : ix l (j : Int) = some (i : Int) := by rw [ix_nat, List.getElem?_eq_getElem hc, hi]
      have eb : below (i : Int) N = some i := by rw [below_of (by omega) (by omega)]; rfl
      have ec : cs[0 + i]? = some cs[i] := by rw [Nat.zero_add]; exact List.getElem?_eq_getElem hiN
      have hv := h6 _ (List.getElem_mem hiN)
      rw [if_pos (by simpa using hc), bnd_of ei, bnd_of eb, bnd_of ec, bnd_of eb, bnd_of ec, Nat.zero_add, wrap_i64 (by omega) (by omega), wrap_i64 (by omega) (by omega), show (j : Int) + 1 = ((j + 1 : Nat) : Int) by omega, List.drop_eq_getElem_cons hc, hi]
      have e1 : addL cs ((i : Int) :: l.drop (j + 1)) = addL (cs.set i (cs[i] + 1)) (l.drop (j + 1)) := by
        show addL (cs.set ((i : Int).toNat) (cs.getD ((i : Int).toNat) 0 + 1)) (l.drop (j + 1)) = _
        rw [Int.toNat_natCast, List.getD_eq_getElem?_getD, List.getElem?_eq_getElem hiN]; rfl
      rw [e1]
      exact Choose_i fuel N m len p k0 b1 z e ws l hl hr k (j + 1) (cs.set i (cs[i] + 1)) (M + 1) (by omega) (by omega) (by rw [List.length_set]; exact h3) (by omega) (by omega) (set_bound h6 (by omega))
    · have e : j = l.length := by omega
      subst e
      rw [if_neg (by simp), List.drop_length]
      rfl
theorem keep_zeros (k : Nat) : ∀ l : List Int, keepC (zeros0 k) l = l
  | [] => keep_nil _
  | i :: t => by
    have h : goneB (zeros0 k) i = false := by
      rw [goneB_eq]; unfold goneI zeros0
      refine decide_eq_false fun h => ?_
      rw [List.getD_eq_getElem?_getD, List.getElem?_replicate] at h
      split at h <;> simp at h
    rw [keep_cons, h, if_neg (by simp), keep_zeros k t]
theorem act_zeros {n : Int} {m : List Rw} {p : Nat} (hp : p < m.length) (k k' : Nat) : actS m (zeros0 k) (zeros0 k') (p : Int) = plS (m[p]).2 := by
  rw [actS_eq]; unfold actI
  rw [Int.toNat_natCast, keep_zeros, if_neg]
  · rw [List.getD_eq_getElem?_getD, List.getElem?_eq_getElem hp]; rfl
  · unfold zeros0
    rw [List.getD_eq_getElem?_getD, List.getElem?_replicate]
    split <;> simp
theorem Choose_loop {R : Type} (fuel N : Nat) (hf : 64 < fuel) (m : List Rw) (hok : okM m = true) (hm : mrt (N : Int) m = true) (k0 : List Int → Option R) : ∀ (k p : Nat) (cs : List Int), p ≤ m.length → m.length < p + k → cs.length = N → (∀ x, x ∈ cs → 0 ≤ x ∧ x ≤ 64 * (p : Int)) →
    ChooseF_l1 fuel N m k0 k (m.length : Int) (p : Int) cs = k0 (cntFrom m (zeros0 m.length) (zeros0 N) (m.length - p) p cs)
  | 0, p, cs, h1, h2, _, _ => by omega
  | k + 1, p, cs, h1, h2, h3, h4 => by
    obtain ⟨⟨_, hn⟩, hml, hrow⟩ := mrt_iff.1 hm
    unfold ChooseF_l1 ChooseF_s2
    rw [br_if]
    by_cases hc : p < m.length
    · have hmem := List.getElem_mem hc
      obtain ⟨g1, g2⟩ := hrow _ hmem
      have hw := okM_iff.1 hok _ hmem
      obtain ⟨p1, p2⟩ := plc_le64 hw g2 (by omega)
      have hpl : plcS (m[p]).1 (m[p]).2 = plS (m[p]).2 := by rw [plcS_eq]; unfold plcI; rw [if_pos g2]
      rw [if_pos (by simpa using hc), bnd_of ((ix_nat _ p).trans (List.getElem?_eq_getElem hc)), grd_of hw, hpl, show m.length - p = (m.length - (p + 1)) + 1 by omega, cntFrom, act_zeros (n := (N : Int)) hc]
      have hab := addL_bound (plS (m[p]).2) cs (64 * (p : Int)) (by omega) h4
      have hin := fun k0 => Choose_i (R := R) fuel N m (m.length : Int) (p : Int) k0 (decide ((p : Int) < (m.length : Int))) (m[p]).1 (if rtS (m[p]).1 (m[p]).2 = true then 0 else 1) (m[p]).2 (plS (m[p]).2) p1 (fun i hi => by have := p2 i hi; omega) fuel 0 cs (64 * (p : Int)) (by omega) (by omega) h3 (by omega) (by omega) h4
      rw [show ((0 : Nat) : Int) = 0 from rfl, List.drop_zero] at hin
      refine (hin _).trans ?_
      unfold ChooseF_s4
      rw [wrap_i64 (by omega) (by omega), show (p : Int) + 1 = ((p + 1 : Nat) : Int) by omega]
      exact Choose_loop fuel N hf m hok hm k0 k (p + 1) (addL cs (plS (m[p]).2)) (by omega) (by omega) (by rw [addL_len]; exact h3) (fun x hx => by have := hab x hx; omega)
    · have e : p = m.length := by omega
      subst e
      rw [if_neg (by simp), Nat.sub_self, cntFrom]
theorem Choose_fact (n : Int) (m : List (Int × List Int)) (hg : (okM m) = true) : Fact Tryd.prog gTab 15 [.agg [.s (.int .i64 n), .lt (.pair (.int .i64) (.sl (.int .u64))) m]] [] (.tup [.s (.int .i64 (chN n m)), .s (.int .i64 (chE n m))], []) := by
  refine callN_fact hN hM T_Places_2_ok (n := 70) (mode := mode13) ?_
  rw [ChooseF_eq]
  unfold ChooseF ChooseF_s1
  rw [grd_of hg, br_if, chN_eq, chE_eq]
  unfold chNI chEI
  by_cases hm : mrt n m = true
  · obtain ⟨⟨hn0, hn⟩, hml, hrow⟩ := mrt_iff.1 hm
    obtain ⟨N, rfl⟩ : ∃ N : Nat, n = (N : Int) := ⟨n.toNat, by omega⟩
    have hloop := fun k0 => Choose_loop (R := Out) 70 N (by decide) m hg hm k0 70 0 (List.replicate N 0) (by omega) (by omega) (by simp) (fun x hx => by rw [List.eq_of_mem_replicate hx]; decide)
    have hc : cntFrom m (zeros0 m.length) (zeros0 N) (m.length - 0) 0 (List.replicate N 0) = cntS (N : Int) m (zeros0 m.length) (zeros0 N) := by unfold cntS; rw [Int.toNat_natCast]; rfl
    rw [hc, show ((0 : Nat) : Int) = 0 from rfl] at hloop
    have hlen : (cntS (N : Int) m (zeros0 m.length) (zeros0 N)).length = N := by unfold cntS; rw [cnt_len]; simp
    rw [if_neg (by simp [hm]), if_pos hm, if_pos hm, bnd_of (mkN_of (by omega) (by omega) (by omega)), Int.toNat_natCast]
    dsimp only
    refine (hloop _).trans ?_
    unfold ChooseF_s5
    rw [List.drop_zero, List.take_of_length_le (by omega), grd_of (by simp; omega), br_if]
    by_cases h : mostS (cntS (N : Int) m (zeros0 m.length) (zeros0 N)) < 0
    · rw [if_neg (by simpa using h), if_pos h, if_pos h]
    · rw [if_pos (by simpa using h), if_neg h, if_neg h]
  · rw [if_pos (by simp [hm]), if_neg hm, if_neg hm]
noncomputable def Choose_ent : List V → List Blk → Option (Bool × Out)
  | [.agg [.s (.int .i64 n), w0]], [] => (asSl (.pair (.int .i64) (.sl (.int .u64))) w0).bind fun m => some ((okM m), (.tup [.s (.int .i64 (chN n m)), .s (.int .i64 (chE n m))], []))
  | _, _ => none
theorem Choose_ok : ∀ args bs out, Choose_ent args bs = some (true, out) → Fact Tryd.prog gTab 15 args bs out := by
  intro args bs out h
  unfold Choose_ent at h
  split at h
  · rename_i n w0
    obtain ⟨m, h_m, h⟩ := Option.bind_eq_some_iff.1 h
    simp only [Option.some.injEq, Prod.mk.injEq] at h
    obtain ⟨hg, rfl⟩ := h
    exact (Choose_fact n m hg).args (fun _ _ _ => fun _ h => RVs_two (fun _ h => RV_agg_two (fun _ h => RVs_two (fun _ h => h) (fun _ h => RVs_two (fun _ h => RV_sl (s := (.pair (.int .i64) (.sl (.int .u64)))) h_m h) (fun _ h => h) h) h) h) (fun _ h => h) h)
  · cases h
noncomputable def T_Choose : Tbl := Tbl.cons 15 Choose_ent T_Places_2
theorem T_Choose_ok : CallOk Tryd.prog gTab T_Choose := cons_ok T_Places_2_ok Choose_ok
def mode14 : FuncId → Nat := fun f => 0
/-! What the document's plan comes to. -/
noncomputable def refAI (ws g : List Int) : List Int := (plS ws).filter fun i => !(inL g i)
noncomputable def refA : List Int → List Int → List Int := Classical.choose (⟨refAI, rfl⟩ : ∃ f, f = refAI)
theorem refA_eq : refA = refAI := Classical.choose_spec (⟨refAI, rfl⟩ : ∃ f, f = refAI)
/-- In how many rows that are none of some a column is active. -/
noncomputable def nFrom (b g : List Int) (i : Int) : List Rw → Int → Int
  | [], _ => 0
  | r :: t, j => (if (!(inL b j) && inL (refA r.2 g) i) = true then 1 else 0) + nFrom b g i t (j + 1)
noncomputable def chsI (n : Int) (m : List Rw) (b g : List Int) : Int := mostS ((List.range n.toNat).map fun (i : Nat) => nFrom b g (i : Int) m 0)
noncomputable def chsS : Int → List Rw → List Int → List Int → Int := Classical.choose (⟨chsI, rfl⟩ : ∃ f, f = chsI)
theorem chsS_eq : chsS = chsI := Classical.choose_spec (⟨chsI, rfl⟩ : ∃ f, f = chsI)
noncomputable def oneRF (b g : List Int) : List Rw → Int → Int
  | [], _ => -1
  | r :: t, j => if (!(inL b j) && decide ((refA r.2 g).length = 1)) = true then j else oneRF b g t (j + 1)
noncomputable def oneRI (m : List Rw) (b g : List Int) : Int := oneRF b g m 0
noncomputable def oneR : List Rw → List Int → List Int → Int := Classical.choose (⟨oneRI, rfl⟩ : ∃ f, f = oneRI)
theorem oneR_eq : oneR = oneRI := Classical.choose_spec (⟨oneRI, rfl⟩ : ∃ f, f = oneRI)
def plOkI (a b d o : List Int) : Bool := decide (a.length ≤ 1000) && decide (b.length ≤ 1000) && decide (d.length ≤ 1000) && decide (o.length ≤ 1000)
noncomputable def plOk : List Int → List Int → List Int → List Int → Bool := Classical.choose (⟨plOkI, rfl⟩ : ∃ f, f = plOkI)
theorem plOk_eq : plOk = plOkI := Classical.choose_spec (⟨plOkI, rfl⟩ : ∃ f, f = plOkI)
theorem in_plc_rise (v n : Nat) : (plc v n).Pairwise (· < ·) := by
  unfold plc
  exact List.Pairwise.map _ (fun a b h => by omega) ((List.pairwise_lt_range (n := n)).filter _)
theorem act_nodup {n : Int} {m : List Rw} {r c : List Int} {p : Int} (h : actOk n m r c p = true) : (actS m r c p).Nodup := by
  obtain ⟨hok, hm, hr, hc, q0, q1⟩ := actOk_iff.1 h
  obtain ⟨hn64, hml, hrow⟩ := mrt_iff.1 hm
  obtain ⟨j, rfl⟩ : ∃ j : Nat, p = (j : Int) := ⟨p.toNat, by omega⟩
  have hj : j < m.length := by omega
  have hmem := List.getElem_mem hj
  obtain ⟨g1, g2⟩ := hrow _ hmem
  have em : m.getD j (0, []) = m[j] := by rw [List.getD_eq_getElem?_getD, List.getElem?_eq_getElem hj]; rfl
  rw [actS_eq]; unfold actI
  rw [Int.toNat_natCast, em]
  split
  · simp
  · rw [keepC_eq, pl_plc (okM_iff.1 hok _ hmem) g2]
    unfold keepI
    exact ((in_plc_rise _ _).filter _).imp fun h e => by omega
theorem addL_get : ∀ (l cs : List Int) (q : Nat), (∀ i, i ∈ l → 0 ≤ i) → l.Nodup → q < cs.length → (addL cs l).getD q 0 = cs.getD q 0 + if (q : Int) ∈ l then 1 else 0
  | [], cs, q, _, _, _ => by show cs.getD q 0 = _; simp
  | i :: t, cs, q, h0, hn, hq => by
    show (addL (cs.set i.toNat (cs.getD i.toNat 0 + 1)) t).getD q 0 = _
    have hi := h0 i List.mem_cons_self
    obtain ⟨h1, h2⟩ := List.nodup_cons.1 hn
    rw [addL_get t _ q (fun x hx => h0 x (List.mem_cons_of_mem _ hx)) h2 (by rw [List.length_set]; exact hq)]
    by_cases e : i.toNat = q
    · have e2 : (q : Int) = i := by omega
      rw [if_neg (by rw [e2]; exact h1), if_pos (by rw [e2]; exact List.mem_cons_self), e, List.getD_eq_getElem?_getD, List.getElem?_set_self hq]
      show cs.getD q 0 + 1 + 0 = _
      omega
    · have e3 : (cs.set i.toNat (cs.getD i.toNat 0 + 1)).getD q 0 = cs.getD q 0 := by
        rw [List.getD_eq_getElem?_getD, List.getElem?_set_ne e, ← List.getD_eq_getElem?_getD]
      have e4 : ((q : Int) ∈ i :: t) ↔ (q : Int) ∈ t := by
        rw [List.mem_cons]
        exact ⟨fun h => h.resolve_left (by omega), .inr⟩
      rw [e3]
      simp only [e4]
/-- The document's sets of what is gone, against the marks. -/
structure RInv (n : Int) (m : List Rw) (a b d r c : List Int) : Prop extends MInv n m a b d r c where
  hr : ∀ j : Nat, j < m.length → (r.getD j 0 = 0 ∨ r.getD j 0 = 1) ∧ (r.getD j 0 = 1 ↔ (j : Int) ∈ b)
  hc : ∀ i : Nat, (i : Int) < n → (c.getD i 0 = 1 ↔ (i : Int) ∈ a ++ d)
theorem RInv.act_ref {n : Int} {m : List Rw} {a b d r c : List Int} (h : RInv n m a b d r c) {q : Nat} (hq : q < m.length) : actS m r c (q : Int) = if (inL b (q : Int)) = true then [] else refA (m[q]).2 (a ++ d) := by
  obtain ⟨hn64, hml, hrow⟩ := mrt_iff.1 h.may
  have hmem := List.getElem_mem hq
  obtain ⟨g1, g2⟩ := hrow _ hmem
  obtain ⟨_, p2⟩ := plc_le64 (okM_iff.1 h.ok _ hmem) g2 (by omega)
  have em : m.getD q (0, []) = m[q] := by rw [List.getD_eq_getElem?_getD, List.getElem?_eq_getElem hq]; rfl
  rw [actS_eq]; unfold actI
  rw [Int.toNat_natCast, em]
  have hb := (h.hr q hq).2
  by_cases e : r.getD q 0 = 1
  · rw [if_pos e, if_pos (inL_iff.2 (hb.1 e))]
  · rw [if_neg e, if_neg (fun g => e (hb.2 (inL_iff.1 g))), keepC_eq, refA_eq]
    unfold keepI refAI
    refine List.filter_congr fun x hx => ?_
    have hx2 := p2 x hx
    have hc := h.hc x.toNat (by omega)
    rw [show ((x.toNat : Nat) : Int) = x by omega] at hc
    rw [goneB_eq]; unfold goneI
    by_cases g : x ∈ a ++ d
    · rw [inL_iff.2 g, decide_eq_true (hc.2 g)]
    · rw [decide_eq_false (fun u => g (hc.1 u)), Bool.eq_false_iff.2 (fun u => g (inL_iff.1 u))]
theorem RInv.one_ref {n : Int} {m : List Rw} {a b d r c : List Int} (h : RInv n m a b d r c) : ∀ (e p : Nat), p + e = m.length → oneRF b (a ++ d) (m.drop p) (p : Int) = match oneFrom m r c e p with | some q => (q : Int) | none => -1
  | 0, p, hp => by rw [List.drop_eq_nil_of_le (by omega)]; rfl
  | e + 1, p, hp => by
    have hpl : p < m.length := by omega
    rw [List.drop_eq_getElem_cons hpl, oneRF, oneFrom, h.act_ref hpl, show (p : Int) + 1 = ((p + 1 : Nat) : Int) by omega, h.one_ref e (p + 1) (by omega)]
    by_cases g : inL b (p : Int) = true
    · rw [g, if_neg (by simp), if_neg (by simp)]
    · rw [Bool.eq_false_iff.2 g, if_neg (c := false = true) (by simp)]
      by_cases g2 : (refA (m[p]).2 (a ++ d)).length = 1
      · rw [if_pos (by simp [g2]), if_pos g2]
      · rw [if_neg (by simp [g2]), if_neg g2]
theorem RInv.cnt_ref {n : Int} {m : List Rw} {a b d r c : List Int} (h : RInv n m a b d r c) (i : Nat) : ∀ (e p : Nat) (cs : List Int), p + e = m.length → i < cs.length → (cntFrom m r c e p cs).getD i 0 = cs.getD i 0 + nFrom b (a ++ d) (i : Int) (m.drop p) (p : Int)
  | 0, p, cs, hp, _ => by rw [List.drop_eq_nil_of_le (by omega), cntFrom, nFrom]; omega
  | e + 1, p, cs, hp, hi => by
    have hpl : p < m.length := by omega
    have ho := h.act hpl
    have hg := addL_get (actS m r c (p : Int)) cs i (fun x hx => ((act_range ho).2 x hx).1.1) (act_nodup ho) hi
    rw [List.drop_eq_getElem_cons hpl, nFrom, cntFrom, show (p : Int) + 1 = ((p + 1 : Nat) : Int) by omega, h.cnt_ref i e (p + 1) _ (by omega) (by rw [addL_len]; exact hi), hg, h.act_ref hpl]
    by_cases g : inL b (p : Int) = true
    · rw [g, if_pos rfl, if_neg (by simp), if_neg (by simp)]; omega
    · rw [Bool.eq_false_iff.2 g, if_neg (c := false = true) (by simp)]
      by_cases g2 : (i : Int) ∈ refA (m[p]).2 (a ++ d)
      · rw [if_pos g2, if_pos (by simp [inL_iff.2 g2])]; omega
      · rw [if_neg g2, if_neg (by simp [inL_iff, g2])]; omega
theorem RInv.chs_ref {n : Int} {m : List Rw} {a b d r c : List Int} (h : RInv n m a b d r c) : chsS n m b (a ++ d) = mostS (cntS n m r c) := by
  have hlen : (cntS n m r c).length = n.toNat := by unfold cntS; rw [cnt_len]; simp
  rw [chsS_eq]; unfold chsI
  congr 1
  refine List.ext_getElem (by rw [hlen]; simp) fun i h1 h2 => ?_
  have hi : i < n.toNat := by omega
  have := h.cnt_ref i m.length 0 (List.replicate n.toNat 0) (by omega) (by rw [List.length_replicate]; exact hi)
  rw [List.drop_zero] at this
  have e1 : (cntS n m r c).getD i 0 = (cntS n m r c)[i] := by rw [List.getD_eq_getElem?_getD, List.getElem?_eq_getElem h2]; rfl
  have e2 : (List.replicate n.toNat (0 : Int)).getD i 0 = 0 := by rw [List.getD_eq_getElem?_getD, List.getElem?_replicate]; split <;> rfl
  unfold cntS at e1 ⊢
  rw [← e1, this, e2, List.getElem_map, List.getElem_range]
  simp
theorem rinv_start {n : Int} {m : List Rw} (hok : okM m = true) (hm : mrt n m = true) : RInv n m [] [] [] (List.replicate m.length 0) (List.replicate n.toNat 0) := by
  refine ⟨minv_start hok hm, fun j hj => ?_, fun i hi => ?_⟩
  · rw [List.getD_eq_getElem?_getD, List.getElem?_replicate]; simp [hj]
  · rw [List.getD_eq_getElem?_getD, List.getElem?_replicate]; split <;> simp
theorem set_getD (l : List Int) (i j : Nat) (h : i < l.length) : (l.set i 1).getD j 0 = if j = i then 1 else l.getD j 0 := by
  by_cases e : j = i
  · subst e; rw [if_pos rfl, List.getD_eq_getElem?_getD, List.getElem?_set_self h]; rfl
  · rw [if_neg e, List.getD_eq_getElem?_getD, List.getElem?_set_ne (fun g => e g.symm), ← List.getD_eq_getElem?_getD]
/-- A step of the document's. -/
theorem RInv.step {n : Int} {m : List Rw} {a b d r c : List Int} (h : RInv n m a b d r c) :
    (∃ (q i : Nat) (hq : q < m.length), oneFrom m r c m.length 0 = some q ∧ actS m r c (q : Int) = [(i : Int)] ∧ oneR m b (a ++ d) = (q : Int) ∧ okW (m[q]).2 = true ∧ rtS (m[q]).1 (m[q]).2 = true ∧ refA (m[q]).2 (a ++ d) = [(i : Int)] ∧ opens (c.set i 1) + 1 = opens c ∧ RInv n m a (b ++ [(q : Int)]) (d ++ [(i : Int)]) (r.set q 1) (c.set i 1)) ∨
    (oneFrom m r c m.length 0 = none ∧ oneR m b (a ++ d) = -1 ∧ mostS (cntS n m r c) < 0 ∧ chsS n m b (a ++ d) < 0) ∨
    (∃ i : Nat, oneFrom m r c m.length 0 = none ∧ oneR m b (a ++ d) = -1 ∧ mostS (cntS n m r c) = (i : Int) ∧ chsS n m b (a ++ d) = (i : Int) ∧ opens (c.set i 1) + 1 = opens c ∧ RInv n m (a ++ [(i : Int)]) b d r (c.set i 1)) := by
  have h1 := h.one_ref m.length 0 (by omega)
  rw [List.drop_zero] at h1
  have h1 : oneR m b (a ++ d) = match oneFrom m r c m.length 0 with | some q => (q : Int) | none => -1 := by rw [oneR_eq]; exact h1
  have h2 := h.chs_ref
  have hcl := h.cl
  have hrl := h.rl
  cases ho : oneFrom m r c m.length 0 with
  | some q =>
    rw [ho] at h1
    obtain ⟨hq, i, g1, g2, g3, g4⟩ := h.one ho
    have g5 := h.act_ref hq
    obtain ⟨_, _, hrow⟩ := mrt_iff.1 h.may
    have hmem := List.getElem_mem hq
    have hnb : ¬ inL b (q : Int) = true := fun e => by rw [if_pos e, g1] at g5; cases g5
    rw [if_neg hnb, g1] at g5
    refine .inl ⟨q, i, hq, rfl, g1, h1, okM_iff.1 h.ok _ hmem, (hrow _ hmem).2, g5.symm, g3, g4, fun j hj => ?_, fun x hx => ?_⟩
    · rw [set_getD r q j (by omega)]
      by_cases e : j = q
      · subst e; simp
      · rw [if_neg e]
        refine ⟨(h.hr j hj).1, (h.hr j hj).2.trans ?_⟩
        rw [List.mem_append, List.mem_singleton]
        exact ⟨.inl, fun u => u.resolve_right (by omega)⟩
    · rw [set_getD c i x g2]
      by_cases e : x = i
      · subst e; simp
      · rw [if_neg e, h.hc x hx, ← List.append_assoc, List.mem_append (t := [(i : Int)]), List.mem_singleton]
        exact ⟨.inl, fun u => u.resolve_right (by omega)⟩
  | none =>
    rw [ho] at h1
    by_cases hm : mostS (cntS n m r c) < 0
    · exact .inr (.inl ⟨rfl, h1, hm, by omega⟩)
    · obtain ⟨i, g1, g2, g3, g4⟩ := h.most hm
      refine .inr (.inr ⟨i, rfl, h1, g1, by rw [h2]; exact g1, g3, g4, h.hr, fun x hx => ?_⟩)
      rw [set_getD c i x g2]
      by_cases e : x = i
      · subst e; simp
      · rw [if_neg e, h.hc x hx, List.mem_append, List.mem_append, List.mem_append, List.mem_singleton]
        exact ⟨fun u => u.imp_left .inl, fun u => u.imp_left (fun v => v.resolve_right (by omega))⟩
theorem rinv_end {n : Int} {m : List Rw} : ∀ (f : Nat) {a b d r c : List Int}, RInv n m a b d r c → RInv n m (plnN n m f a b d r c).1 (plnN n m f a b d r c).2.1 (plnN n m f a b d r c).2.2.1 (plnN n m f a b d r c).2.2.2.1 (plnN n m f a b d r c).2.2.2.2
  | 0, a, b, d, r, c, h => by rw [plnN]; exact h
  | f + 1, a, b, d, r, c, h => by
    rcases h.step with ⟨q, i, hq, h1, h2, _, _, _, _, _, hJ⟩ | ⟨h1, _, h2, _⟩ | ⟨i, h1, _, h2, _, _, hJ⟩
    · rw [plnN_one f h1 h2]; exact rinv_end f hJ
    · rw [plnN_stop h1 h2]; exact h
    · rw [plnN_most f h1 h2]; exact rinv_end f hJ
/-! downpour/downpourref16.active -/
noncomputable abbrev qd3 (fuel : Nat) : Ctx Out := (fnX Tryd.prog mode14 T_Choose fuel 26 0)
noncomputable abbrev qd4 : Code := (sub (bodyOf Tryd.prog 63) [1, 1, 0, 1, 0, 0])
noncomputable def refActF_s2 {R : Type} (w7 w6 : Int) (w5 g w8 : List Int) (w4 : Nat) (c0 c1 : Nat → List Int → Int → Int → List Int → Option R) (c2 : Nat → List Int → Option R) : Option R :=
  br (decide (w7 < w6))
    (bnd (ix w5 w7) fun e0 =>
    grd (decide (List.length (α := Int) g ≤ 1000000)) <|
    br (!(inL g e0))
      (grd (Nat.beq w8.length w4) <|
      grd (okN (w4 + 1) 8) <|
      c0 ((w8 ++ [e0]).length) w5 w6 (IntKind.i64.wrap (w7 + 1)) (w8 ++ [e0]))
      (c1 w4 w5 w6 (IntKind.i64.wrap (w7 + 1)) w8))
    (c2 w4 w8)
theorem refActF_s2_eq (fuel k : Nat) (K : Ex → St → Option Out) (w7 w6 : Int) (w5 g w8 : List Int) (w4 : Nat) : lpN qd4 (qd3 fuel) 33554480 [1, 4, 5, 10, 11, 12] (k + 1) ⟨[(1, vL g), (4, vN), (5, .sl 0 1 0 w4), (10, vL w5), (11, vI w6), (12, vI w7)], [(0, bL 3 w8)], 1, none⟩ K = refActF_s2 w7 w6 w5 g w8 w4 (fun a0 a1 a2 a3 a4 => lpN qd4 (qd3 fuel) 33554480 [1, 4, 5, 10, 11, 12] k ⟨[(1, vL g), (4, vN), (5, .sl 0 1 0 a0), (10, vL a1), (11, vI a2), (12, vI a3)], [(0, bL 3 a4)], 1, none⟩ K) (fun a5 a6 a7 a8 a9 => lpN qd4 (qd3 fuel) 33554480 [1, 4, 5, 10, 11, 12] k ⟨[(1, vL g), (4, vN), (5, .sl 0 1 0 a5), (10, vL a6), (11, vI a7), (12, vI a8)], [(0, bL 3 a9)], 1, none⟩ K) (fun a23 a24 => K (.exit 0) ⟨[(4, vN), (5, .sl 0 1 0 a23)], [(0, bL 3 a24)], 1, none⟩) := by kernel_rfl
noncomputable def refActF_l1 {R : Type} (fuel : Nat) (g : List Int) (k0 : Nat → List Int → Option R) : Nat → Nat → List Int → Int → Int → List Int → Option R
  | 0, _, _, _, _, _ => none
  | k + 1, w4, w5, w6, w7, w8 =>
    (refActF_s2 w7 w6 w5 g w8 w4 (fun a0 a1 a2 a3 a4 => ( refActF_l1 fuel g k0 k a0 a1 a2 a3 a4 )) (fun a5 a6 a7 a8 a9 => ( refActF_l1 fuel g k0 k a5 a6 a7 a8 a9 )) (fun a23 a24 => k0 a23 a24))
theorem refActF_l1_eq (fuel : Nat) (g : List Int) (K : Ex → St → Option Out) : ∀ (k w4 : Nat) (w5 : List Int) (w6 w7 : Int) (w8 : List Int), lpN qd4 (qd3 fuel) 33554480 [1, 4, 5, 10, 11, 12] k ⟨[(1, vL g), (4, vN), (5, .sl 0 1 0 w4), (10, vL w5), (11, vI w6), (12, vI w7)], [(0, bL 3 w8)], 1, none⟩ K = refActF_l1 fuel g (fun y0 y1 => K (.exit 0) ⟨[(4, vN), (5, .sl 0 1 0 y0)], [(0, bL 3 y1)], 1, none⟩) k w4 w5 w6 w7 w8
  | 0, _, _, _, _, _ => rfl
  | k + 1, w4, w5, w6, w7, w8 => by
    unfold refActF_l1
    exact (refActF_s2_eq fuel k K w7 w6 w5 g w8 w4).trans (congr (congr (congr (Eq.refl (refActF_s2 (R := Out) w7 w6 w5 g w8 w4)) (funext fun a0 => funext fun a1 => funext fun a2 => funext fun a3 => funext fun a4 => refActF_l1_eq fuel g K k a0 a1 a2 a3 a4)) (funext fun a5 => funext fun a6 => funext fun a7 => funext fun a8 => funext fun a9 => refActF_l1_eq fuel g K k a5 a6 a7 a8 a9)) (rfl))
noncomputable def refActF_s3 {R : Type} (x0 : List Int) (x1 : Nat) (c0 : List Int → Option R) : Option R :=
  c0 ((x0.drop 0).take x1)
theorem refActF_s3_eq (fuel : Nat)  (x0 : List Int) (x1 : Nat) : (kont (qd3 fuel) (bodyOf Tryd.prog 63) [1, 1, 0, 1, 0] 16 (endK Tryd.prog 0 0 63)) (.exit 0) ⟨[(4, vN), (5, .sl 0 1 0 x1)], [(0, bL 3 x0)], 1, none⟩ = refActF_s3 x0 x1 (fun a0 => some (vL a0, [])) := by kernel_rfl
noncomputable def refActF_s1 {R : Type} (ws : List Int) (z : Int) (g : List Int) (c0 : Nat → List Int → Int → Int → List Int → Option R) : Option R :=
  grd (okW ws && decide (z ≤ 64 * (ws.length : Int)) && decide (ws.length ≤ 1000)) <|
  c0 0 (plcR z ws) (((plcR z ws).length : Nat) : Int) 0 ([])
theorem refActF_s1_eq (fuel : Nat)  (ws : List Int) (z : Int) (g : List Int) : callN Tryd.prog mode14 T_Choose fuel 63 [.agg [vI z, vW ws], vL g] [] = refActF_s1 ws z g (fun a0 a1 a2 a3 a4 => lpN qd4 (qd3 fuel) 33554480 [1, 4, 5, 10, 11, 12] fuel ⟨[(1, vL g), (4, vN), (5, .sl 0 1 0 a0), (10, vL a1), (11, vI a2), (12, vI a3)], [(0, bL 3 a4)], 1, none⟩ (kont (qd3 fuel) (bodyOf Tryd.prog 63) [1, 1, 0, 1, 0] 16 (endK Tryd.prog 0 0 63))) := by kernel_rfl
noncomputable def refActF {R : Type} (fuel : Nat) (z : Int) (ws g : List Int) (r0 : List Int → Option R) : Option R :=
  (refActF_s1 ws z g (fun a0 a1 a2 a3 a4 => (refActF_l1 fuel g (fun x0 x1 => (refActF_s3 x1 x0 (fun a5 => r0 a5))) fuel a0 a1 a2 a3 a4)))
theorem refActF_eq (fuel : Nat) (z : Int) (ws g : List Int) : callN Tryd.prog mode14 T_Choose fuel 63 [.agg [.s (.int .i64 z), .li .u64 ws], .li .i64 g] [] = refActF fuel z ws g (fun z0 => some (.li .i64 z0, [])) := by
  unfold refActF
  exact (refActF_s1_eq fuel  ws z g).trans (congr (Eq.refl (refActF_s1 (R := Out) ws z g)) (funext fun a0 => funext fun a1 => funext fun a2 => funext fun a3 => funext fun a4 => (refActF_l1_eq fuel g (kont (qd3 fuel) (bodyOf Tryd.prog 63) [1, 1, 0, 1, 0] 16 (endK Tryd.prog 0 0 63)) fuel a0 a1 a2 a3 a4).trans (congrFun (congrFun (congrFun (congrFun (congrFun (congrFun (congr (Eq.refl (refActF_l1 (R := Out) fuel g)) (funext fun x0 => funext fun x1 => (refActF_s3_eq fuel  x1 x0))) fuel) a0) a1) a2) a3) a4)))
theorem refAct_loop {R : Type} (fuel : Nat) (g l : List Int) (hg : g.length ≤ 1000) (hl : l.length ≤ 1000) (k0 : Nat → List Int → Option R) : ∀ (k j : Nat) (acc : List Int), j ≤ l.length → l.length < j + k → acc.length ≤ j →
    refActF_l1 fuel g k0 k acc.length l (l.length : Int) (j : Int) acc = k0 (acc ++ (l.drop j).filter fun i => !(inL g i)).length (acc ++ (l.drop j).filter fun i => !(inL g i))
  | 0, j, acc, h1, h2, _ => by omega
  | k + 1, j, acc, h1, h2, h3 => by
    unfold refActF_l1 refActF_s2
    rw [br_if]
    by_cases hc : j < l.length
    · rw [if_pos (by simpa using hc), bnd_of ((ix_nat _ j).trans (List.getElem?_eq_getElem hc)), grd_of (by simp; omega), br_if, List.drop_eq_getElem_cons hc, wrap_i64 (by omega) (by omega), show (j : Int) + 1 = ((j + 1 : Nat) : Int) by omega]
      by_cases h : inL g l[j] = true
      · rw [if_neg (by simp [h]), List.filter_cons_of_neg (by simp [h])]
        exact refAct_loop fuel g l hg hl k0 k (j + 1) acc (by omega) (by omega) (by omega)
      · rw [if_pos (by simp [h]), List.filter_cons_of_pos (by simp [h]), grd_of (beq_self _), grd_of (okN_of (by omega) (by omega))]
        have := refAct_loop fuel g l hg hl k0 k (j + 1) (acc ++ [l[j]]) (by omega) (by omega) (by simp; omega)
        rw [List.append_assoc] at this
        exact this
    · rw [if_neg (by simpa using hc), List.drop_eq_nil_of_le (by omega), List.filter_nil, List.append_nil]
theorem refAct_fact (z : Int) (ws : List Int) (g : List Int) (hg : (okW ws && rtS z ws && decide (List.length (α := Int) g ≤ 1000)) = true) : Fact Tryd.prog gTab 63 [.agg [.s (.int .i64 z), .li .u64 ws], .li .i64 g] [] (.li .i64 (refA ws g), []) := by
  simp only [Bool.and_eq_true, decide_eq_true_eq] at hg
  obtain ⟨⟨h1, h2⟩, h3⟩ := hg
  have hl := rt_le h2
  have hlen : (plcR z ws).length ≤ 512 := by
    rw [plcR_eq]; unfold plcRI
    have := (rtS_iff.1 h2).1.2
    have h := plc_length (val ws) z.toNat
    have : Pop.cnt z.toNat (val ws) ≤ z.toNat := by
      rw [← h]; unfold plc
      rw [List.length_map]
      exact Nat.le_trans (List.length_filter_le _ _) (by rw [List.length_range]; omega)
    omega
  have hz : z ≤ 64 * (ws.length : Int) := by
    have h4 := (rtS_iff.1 h2).1
    have h5 := rt_lens h2
    have h6 := nw_cast h4.1
    omega
  refine callN_fact hN hM T_Choose_ok (n := 1001) (mode := mode14) ?_
  rw [refActF_eq]
  unfold refActF refActF_s1
  rw [grd_of (by rw [h1]; simp; omega)]
  dsimp only
  have h := fun k0 => refAct_loop (R := Out) 1001 g (plcR z ws) h3 (by omega) k0 1001 0 [] (by omega) (by omega) (by simp)
  rw [show ((0 : Nat) : Int) = 0 from rfl, List.drop_zero, List.nil_append] at h
  refine (h _).trans ?_
  unfold refActF_s3
  rw [List.drop_zero, List.take_length, refA_eq]
  unfold refAI
  rw [pl_val h1 h2]
noncomputable def refAct_ent : List V → List Blk → Option (Bool × Out)
  | [.agg [.s (.int .i64 z), w0], w1], [] => (asSl (.int .u64) w0).bind fun ws => (asSl (.int .i64) w1).bind fun g => some ((okW ws && rtS z ws && decide (List.length (α := Int) g ≤ 1000)), (.li .i64 (refA ws g), []))
  | _, _ => none
theorem refAct_ok : ∀ args bs out, refAct_ent args bs = some (true, out) → Fact Tryd.prog gTab 63 args bs out := by
  intro args bs out h
  unfold refAct_ent at h
  split at h
  · rename_i z w0 w1
    obtain ⟨ws, h_ws, h⟩ := Option.bind_eq_some_iff.1 h
    obtain ⟨g, h_g, h⟩ := Option.bind_eq_some_iff.1 h
    simp only [Option.some.injEq, Prod.mk.injEq] at h
    obtain ⟨hg, rfl⟩ := h
    exact (refAct_fact z ws g hg).args (fun _ _ _ => fun _ h => RVs_two (fun _ h => RV_agg_two (fun _ h => RVs_two (fun _ h => h) (fun _ h => RVs_two (fun _ h => RV_li h_ws h) (fun _ h => h) h) h) h) (fun _ h => RVs_two (fun _ h => RV_li h_g h) (fun _ h => h) h) h)
  · cases h
noncomputable def T_refAct : Tbl := Tbl.cons 63 refAct_ent T_Choose
theorem T_refAct_ok : CallOk Tryd.prog gTab T_refAct := cons_ok T_Choose_ok refAct_ok
def mode15 : FuncId → Nat := fun f => bif Nat.beq f 62 then 2 else 0
/-! downpour/downpourref16.gone -/
noncomputable def refGoneF_s1 {R : Type} (a d b o : List Int) (c0 : Nat → Nat → List Int → Option R) : Option R :=
  grd (okN (0 + a.length) 8) <|
  grd (Nat.beq a.length a.length) <|
  grd (okN (a.length + d.length) 8) <|
  c0 0 ((a ++ d).length) (a ++ d)
theorem refGoneF_s1_eq (fuel : Nat)  (a d b o : List Int) : callN Tryd.prog mode15 T_refAct fuel 62 [.agg [vL a, vL b, vL d, vL o]] [] = refGoneF_s1 a d b o (fun a1 a2 a3 => some (.sl 0 1 a1 a2, [bL 3 a3])) := by kernel_rfl
noncomputable def refGoneF {R : Type} (fuel : Nat) (a b d o : List Int) (r0 : Nat → Nat → List Int → Option R) : Option R :=
  (refGoneF_s1 a d b o (fun a1 a2 a3 => r0 a1 a2 a3))
theorem refGoneF_eq (fuel : Nat) (a b d o : List Int) : callN Tryd.prog mode15 T_refAct fuel 62 [.agg [.li .i64 a, .li .i64 b, .li .i64 d, .li .i64 o]] [] = refGoneF fuel a b d o (fun z0 z1 z2 => some (.sl 0 1 z0 z1, [some ⟨3, .li .i64 z2, true⟩])) := by
  unfold refGoneF
  exact (refGoneF_s1_eq fuel  a d b o)
theorem refGone_fact (a : List Int) (b : List Int) (d : List Int) (o : List Int) (hg : (decide ((List.length (α := Int) a) ≤ 1000) && decide ((List.length (α := Int) d) ≤ 1000)) = true) : Fact Tryd.prog gTab 62 [.agg [.li .i64 a, .li .i64 b, .li .i64 d, .li .i64 o]] [] (.sl 0 1 0 (List.length (α := Int) (a ++ d)), [some ⟨3, .li .i64 (a ++ d), true⟩]) := by
  simp only [Bool.and_eq_true, decide_eq_true_eq] at hg
  refine callN_fact hN hM T_refAct_ok (n := 0) (mode := mode15) ?_
  rw [refGoneF_eq]
  unfold refGoneF refGoneF_s1
  rw [grd_of (okN_of (by omega) (by omega)), grd_of (beq_self _), grd_of (okN_of (by omega) (by omega))]
noncomputable def refGone_ent : List V → List Blk → Option (Bool × Out)
  | [.agg [w0, w1, w2, w3]], [] => (asSl (.int .i64) w0).bind fun a => (asSl (.int .i64) w1).bind fun b => (asSl (.int .i64) w2).bind fun d => (asSl (.int .i64) w3).bind fun o => some ((decide ((List.length (α := Int) a) ≤ 1000) && decide ((List.length (α := Int) d) ≤ 1000)), (.sl 0 1 0 (List.length (α := Int) (a ++ d)), [some ⟨3, .li .i64 (a ++ d), true⟩]))
  | _, _ => none
theorem refGone_ok : ∀ args bs out, refGone_ent args bs = some (true, out) → Fact Tryd.prog gTab 62 args bs out := by
  intro args bs out h
  unfold refGone_ent at h
  split at h
  · rename_i w0 w1 w2 w3
    obtain ⟨a, h_a, h⟩ := Option.bind_eq_some_iff.1 h
    obtain ⟨b, h_b, h⟩ := Option.bind_eq_some_iff.1 h
    obtain ⟨d, h_d, h⟩ := Option.bind_eq_some_iff.1 h
    obtain ⟨o, h_o, h⟩ := Option.bind_eq_some_iff.1 h
    simp only [Option.some.injEq, Prod.mk.injEq] at h
    obtain ⟨hg, rfl⟩ := h
    exact (refGone_fact a b d o hg).args (fun _ _ _ => fun _ h => RVs_two (fun _ h => RV_agg_two (fun _ h => RVs_two (fun _ h => RV_li h_a h) (fun _ h => RVs_two (fun _ h => RV_li h_b h) (fun _ h => RVs_two (fun _ h => RV_li h_d h) (fun _ h => RVs_two (fun _ h => RV_li h_o h) (fun _ h => h) h) h) h) h) h) (fun _ h => h) h)
  · cases h
noncomputable def T_refGone : Tbl := Tbl.cons 62 refGone_ent T_refAct
theorem T_refGone_ok : CallOk Tryd.prog gTab T_refGone := cons_ok T_refAct_ok refGone_ok
/-! downpour/downpourref16.gone -/
noncomputable def refGone01F_s1 {R : Type} (pc : List Int) (x3 : Nat) (pr : List Int) (x2 : Nat) (c0 : Nat → Nat → List Int → List Int → List Int → Option R) : Option R :=
  grd (okN (0 + ((pc.drop 0).take x3).length) 8) <|
  c0 0 (((pc.drop 0).take x3).length) pr pc ((pc.drop 0).take x3)
theorem refGone01F_s1_eq (fuel : Nat)  (pc : List Int) (x3 : Nat) (pr : List Int) (x2 : Nat) : callN Tryd.prog mode15 T_refGone fuel 62 [.agg [vN, .sl 0 1 0 x2, .sl 1 1 0 x3, vN]] [⟨3, vL pr, true⟩, ⟨3, vL pc, true⟩] = refGone01F_s1 pc x3 pr x2 (fun a1 a2 a3 a4 a5 => some (.sl 2 1 a1 a2, [bL 3 a3, bL 3 a4, bL 3 a5])) := by kernel_rfl
noncomputable def refGone01F {R : Type} (fuel x2 x3 : Nat) (pr pc : List Int) (r0 : Nat → Nat → List Int → List Int → List Int → Option R) : Option R :=
  (refGone01F_s1 pc x3 pr x2 (fun a1 a2 a3 a4 a5 => r0 a1 a2 a3 a4 a5))
theorem refGone01F_eq (fuel x2 x3 : Nat) (pr pc : List Int) : callN Tryd.prog mode15 T_refGone fuel 62 [.agg [.s (.slice none 0 0), .sl 0 1 0 x2, .sl 1 1 0 x3, .s (.slice none 0 0)]] [⟨3, .li .i64 pr, true⟩, ⟨3, .li .i64 pc, true⟩] = refGone01F fuel x2 x3 pr pc (fun z0 z1 z2 z3 z4 => some (.sl 2 1 z0 z1, [some ⟨3, .li .i64 z2, true⟩, some ⟨3, .li .i64 z3, true⟩, some ⟨3, .li .i64 z4, true⟩])) := by
  unfold refGone01F
  exact (refGone01F_s1_eq fuel  pc x3 pr x2)
theorem refGone01_fact (x2 : Nat) (x3 : Nat) (pr : List Int) (pc : List Int) (hg : (decide (x2 = (List.length (α := Int) pr) ∧ (List.length (α := Int) pr) ≤ 1000) && decide (x3 = (List.length (α := Int) pc) ∧ (List.length (α := Int) pc) ≤ 1000)) = true) : Fact Tryd.prog gTab 62 [.agg [.s (.slice none 0 0), .sl 0 1 0 x2, .sl 1 1 0 x3, .s (.slice none 0 0)]] [⟨3, .li .i64 pr, true⟩, ⟨3, .li .i64 pc, true⟩] (.sl 2 1 0 (List.length (α := Int) ([] ++ pc)), [some ⟨3, .li .i64 pr, true⟩, some ⟨3, .li .i64 pc, true⟩, some ⟨3, .li .i64 ([] ++ pc), true⟩]) := by
  simp only [Bool.and_eq_true, decide_eq_true_eq] at hg
  obtain ⟨⟨rfl, h1⟩, rfl, h2⟩ := hg
  refine callN_fact hN hM T_refGone_ok (n := 0) (mode := mode15) ?_
  rw [refGone01F_eq]
  unfold refGone01F refGone01F_s1
  rw [List.drop_zero, List.take_length, grd_of (okN_of (by omega) (by omega)), List.nil_append]
noncomputable def refGone01_ent : List V → List Blk → Option (Bool × Out)
  | [.agg [.s (.slice none 0 0), .sl 0 1 0 x2, .sl 1 1 0 x3, .s (.slice none 0 0)]], [⟨3, .li .i64 pr, true⟩, ⟨3, .li .i64 pc, true⟩] => some ((decide (x2 = (List.length (α := Int) pr) ∧ (List.length (α := Int) pr) ≤ 1000) && decide (x3 = (List.length (α := Int) pc) ∧ (List.length (α := Int) pc) ≤ 1000)), (.sl 2 1 0 (List.length (α := Int) ([] ++ pc)), [some ⟨3, .li .i64 pr, true⟩, some ⟨3, .li .i64 pc, true⟩, some ⟨3, .li .i64 ([] ++ pc), true⟩]))
  | _, _ => none
theorem refGone01_ok : ∀ args bs out, refGone01_ent args bs = some (true, out) → Fact Tryd.prog gTab 62 args bs out := by
  intro args bs out h
  unfold refGone01_ent at h
  split at h
  · rename_i x2 x3 pr pc
    simp only [Option.some.injEq, Prod.mk.injEq] at h
    obtain ⟨hg, rfl⟩ := h
    exact refGone01_fact x2 x3 pr pc hg
  · cases h
noncomputable def T_refGone01 : Tbl := Tbl.cons 62 refGone01_ent T_refGone
theorem T_refGone01_ok : CallOk Tryd.prog gTab T_refGone01 := cons_ok T_refGone_ok refGone01_ok
/-! downpour/downpourref16.gone -/
noncomputable def refGone10F_s1 {R : Type} (pi : List Int) (x1 : Nat) (c0 : Nat → Nat → List Int → List Int → Option R) : Option R :=
  grd (okN (0 + ((pi.drop 0).take x1).length) 8) <|
  grd (Nat.beq (((pi.drop 0).take x1).length) (((pi.drop 0).take x1).length)) <|
  grd (okN (((pi.drop 0).take x1).length + 0) 8) <|
  c0 0 (((pi.drop 0).take x1).length) pi ((pi.drop 0).take x1)
theorem refGone10F_s1_eq (fuel : Nat)  (pi : List Int) (x1 : Nat) : callN Tryd.prog mode15 T_refGone01 fuel 62 [.agg [.sl 0 1 0 x1, vN, vN, vN]] [⟨3, vL pi, true⟩] = refGone10F_s1 pi x1 (fun a1 a2 a3 a4 => some (.sl 1 1 a1 a2, [bL 3 a3, bL 3 a4])) := by kernel_rfl
noncomputable def refGone10F {R : Type} (fuel x1 : Nat) (pi : List Int) (r0 : Nat → Nat → List Int → List Int → Option R) : Option R :=
  (refGone10F_s1 pi x1 (fun a1 a2 a3 a4 => r0 a1 a2 a3 a4))
theorem refGone10F_eq (fuel x1 : Nat) (pi : List Int) : callN Tryd.prog mode15 T_refGone01 fuel 62 [.agg [.sl 0 1 0 x1, .s (.slice none 0 0), .s (.slice none 0 0), .s (.slice none 0 0)]] [⟨3, .li .i64 pi, true⟩] = refGone10F fuel x1 pi (fun z0 z1 z2 z3 => some (.sl 1 1 z0 z1, [some ⟨3, .li .i64 z2, true⟩, some ⟨3, .li .i64 z3, true⟩])) := by
  unfold refGone10F
  exact (refGone10F_s1_eq fuel  pi x1)
theorem refGone10_fact (x1 : Nat) (pi : List Int) (hg : (decide (x1 = (List.length (α := Int) pi) ∧ (List.length (α := Int) pi) ≤ 1000)) = true) : Fact Tryd.prog gTab 62 [.agg [.sl 0 1 0 x1, .s (.slice none 0 0), .s (.slice none 0 0), .s (.slice none 0 0)]] [⟨3, .li .i64 pi, true⟩] (.sl 1 1 0 (List.length (α := Int) (pi ++ [])), [some ⟨3, .li .i64 pi, true⟩, some ⟨3, .li .i64 (pi ++ []), true⟩]) := by
  simp only [Bool.and_eq_true, decide_eq_true_eq] at hg
  obtain ⟨rfl, h1⟩ := hg
  refine callN_fact hN hM T_refGone01_ok (n := 0) (mode := mode15) ?_
  rw [refGone10F_eq]
  unfold refGone10F refGone10F_s1
  simp only [List.drop_zero, List.take_length, List.append_nil]
  rw [grd_of (okN_of (by omega) (by omega)), grd_of (beq_self _), grd_of (okN_of (by omega) (by omega))]
noncomputable def refGone10_ent : List V → List Blk → Option (Bool × Out)
  | [.agg [.sl 0 1 0 x1, .s (.slice none 0 0), .s (.slice none 0 0), .s (.slice none 0 0)]], [⟨3, .li .i64 pi, true⟩] => some ((decide (x1 = (List.length (α := Int) pi) ∧ (List.length (α := Int) pi) ≤ 1000)), (.sl 1 1 0 (List.length (α := Int) (pi ++ [])), [some ⟨3, .li .i64 pi, true⟩, some ⟨3, .li .i64 (pi ++ []), true⟩]))
  | _, _ => none
theorem refGone10_ok : ∀ args bs out, refGone10_ent args bs = some (true, out) → Fact Tryd.prog gTab 62 args bs out := by
  intro args bs out h
  unfold refGone10_ent at h
  split at h
  · rename_i x1 pi
    simp only [Option.some.injEq, Prod.mk.injEq] at h
    obtain ⟨hg, rfl⟩ := h
    exact refGone10_fact x1 pi hg
  · cases h
noncomputable def T_refGone10 : Tbl := Tbl.cons 62 refGone10_ent T_refGone01
theorem T_refGone10_ok : CallOk Tryd.prog gTab T_refGone10 := cons_ok T_refGone01_ok refGone10_ok
/-! downpour/downpourref16.gone -/
noncomputable def refGone11F_s1 {R : Type} (pi : List Int) (x1 : Nat) (pc : List Int) (x3 : Nat) (pr : List Int) (x2 : Nat) (c0 : Nat → Nat → List Int → List Int → List Int → List Int → Option R) : Option R :=
  grd (okN (0 + ((pi.drop 0).take x1).length) 8) <|
  grd (Nat.beq (((pi.drop 0).take x1).length) (((pi.drop 0).take x1).length)) <|
  grd (okN (((pi.drop 0).take x1).length + ((pc.drop 0).take x3).length) 8) <|
  c0 0 ((((pi.drop 0).take x1) ++ ((pc.drop 0).take x3)).length) pi pr pc (((pi.drop 0).take x1) ++ ((pc.drop 0).take x3))
theorem refGone11F_s1_eq (fuel : Nat)  (pi : List Int) (x1 : Nat) (pc : List Int) (x3 : Nat) (pr : List Int) (x2 : Nat) : callN Tryd.prog mode15 T_refGone10 fuel 62 [.agg [.sl 0 1 0 x1, .sl 1 1 0 x2, .sl 2 1 0 x3, vN]] [⟨3, vL pi, true⟩, ⟨3, vL pr, true⟩, ⟨3, vL pc, true⟩] = refGone11F_s1 pi x1 pc x3 pr x2 (fun a1 a2 a3 a4 a5 a6 => some (.sl 3 1 a1 a2, [bL 3 a3, bL 3 a4, bL 3 a5, bL 3 a6])) := by kernel_rfl
noncomputable def refGone11F {R : Type} (fuel x1 x2 x3 : Nat) (pi pr pc : List Int) (r0 : Nat → Nat → List Int → List Int → List Int → List Int → Option R) : Option R :=
  (refGone11F_s1 pi x1 pc x3 pr x2 (fun a1 a2 a3 a4 a5 a6 => r0 a1 a2 a3 a4 a5 a6))
theorem refGone11F_eq (fuel x1 x2 x3 : Nat) (pi pr pc : List Int) : callN Tryd.prog mode15 T_refGone10 fuel 62 [.agg [.sl 0 1 0 x1, .sl 1 1 0 x2, .sl 2 1 0 x3, .s (.slice none 0 0)]] [⟨3, .li .i64 pi, true⟩, ⟨3, .li .i64 pr, true⟩, ⟨3, .li .i64 pc, true⟩] = refGone11F fuel x1 x2 x3 pi pr pc (fun z0 z1 z2 z3 z4 z5 => some (.sl 3 1 z0 z1, [some ⟨3, .li .i64 z2, true⟩, some ⟨3, .li .i64 z3, true⟩, some ⟨3, .li .i64 z4, true⟩, some ⟨3, .li .i64 z5, true⟩])) := by
  unfold refGone11F
  exact (refGone11F_s1_eq fuel  pi x1 pc x3 pr x2)
theorem refGone11_fact (x1 : Nat) (x2 : Nat) (x3 : Nat) (pi : List Int) (pr : List Int) (pc : List Int) (hg : (decide (x1 = (List.length (α := Int) pi) ∧ (List.length (α := Int) pi) ≤ 1000) && decide (x2 = (List.length (α := Int) pr) ∧ (List.length (α := Int) pr) ≤ 1000) && decide (x3 = (List.length (α := Int) pc) ∧ (List.length (α := Int) pc) ≤ 1000)) = true) : Fact Tryd.prog gTab 62 [.agg [.sl 0 1 0 x1, .sl 1 1 0 x2, .sl 2 1 0 x3, .s (.slice none 0 0)]] [⟨3, .li .i64 pi, true⟩, ⟨3, .li .i64 pr, true⟩, ⟨3, .li .i64 pc, true⟩] (.sl 3 1 0 (List.length (α := Int) (pi ++ pc)), [some ⟨3, .li .i64 pi, true⟩, some ⟨3, .li .i64 pr, true⟩, some ⟨3, .li .i64 pc, true⟩, some ⟨3, .li .i64 (pi ++ pc), true⟩]) := by
  simp only [Bool.and_eq_true, decide_eq_true_eq] at hg
  obtain ⟨⟨⟨rfl, h1⟩, rfl, h2⟩, rfl, h3⟩ := hg
  refine callN_fact hN hM T_refGone10_ok (n := 0) (mode := mode15) ?_
  rw [refGone11F_eq]
  unfold refGone11F refGone11F_s1
  simp only [List.drop_zero, List.take_length]
  rw [grd_of (okN_of (by omega) (by omega)), grd_of (beq_self _), grd_of (okN_of (by omega) (by omega))]
noncomputable def refGone11_ent : List V → List Blk → Option (Bool × Out)
  | [.agg [.sl 0 1 0 x1, .sl 1 1 0 x2, .sl 2 1 0 x3, .s (.slice none 0 0)]], [⟨3, .li .i64 pi, true⟩, ⟨3, .li .i64 pr, true⟩, ⟨3, .li .i64 pc, true⟩] => some ((decide (x1 = (List.length (α := Int) pi) ∧ (List.length (α := Int) pi) ≤ 1000) && decide (x2 = (List.length (α := Int) pr) ∧ (List.length (α := Int) pr) ≤ 1000) && decide (x3 = (List.length (α := Int) pc) ∧ (List.length (α := Int) pc) ≤ 1000)), (.sl 3 1 0 (List.length (α := Int) (pi ++ pc)), [some ⟨3, .li .i64 pi, true⟩, some ⟨3, .li .i64 pr, true⟩, some ⟨3, .li .i64 pc, true⟩, some ⟨3, .li .i64 (pi ++ pc), true⟩]))
  | _, _ => none
theorem refGone11_ok : ∀ args bs out, refGone11_ent args bs = some (true, out) → Fact Tryd.prog gTab 62 args bs out := by
  intro args bs out h
  unfold refGone11_ent at h
  split at h
  · rename_i x1 x2 x3 pi pr pc
    simp only [Option.some.injEq, Prod.mk.injEq] at h
    obtain ⟨hg, rfl⟩ := h
    exact refGone11_fact x1 x2 x3 pi pr pc hg
  · cases h
noncomputable def T_refGone11 : Tbl := Tbl.cons 62 refGone11_ent T_refGone10
theorem T_refGone11_ok : CallOk Tryd.prog gTab T_refGone11 := cons_ok T_refGone10_ok refGone11_ok
/-! downpour/downpourref16.choose -/
noncomputable abbrev qd5 : Code := (sub (bodyOf Tryd.prog 61) [1, 1, 1, 0, 1, 0, 0])
noncomputable abbrev qd6 (fuel : Nat) : Ctx Out := (fnX Tryd.prog mode15 T_refGone11 fuel 47 0)
noncomputable abbrev qd7 (n : Int) (m : List (Int × List Int)) : List (Nat × Option Blk) := [(0, some ⟨24, .agg [vI n, vR m], true⟩)]
noncomputable abbrev qd8 : List Nat := [1, 2, 3, 6, 7, 8, 9, 10, 13, 14, 15, 16, 19, 20, 21, 22]
noncomputable abbrev qd9 : Nat × V := (3, .ptr 0 2 0 0)
noncomputable abbrev qd10 : Code := (sub qd5 [1, 0, 0, 1, 0, 1, 0, 0])
noncomputable def refChsF_s3 {R : Type} (w0 w1 : Int) (m : List (Int × List Int)) (b g : List Int) (w2 w3 : Int) (w4 : Bool) (w5 w6 n : Int) (c0 c1 c2 : Int → Bool → Int → Int → Option R) (c3 : Int → Bool → Int → Int → Bool → Option R) : Option R :=
  br (decide (w0 < w1))
    (bnd (ix m w0) fun e0 =>
    grd (decide (List.length (α := Int) b ≤ 1000000)) <|
    br (!(inL b w0))
      (grd (okW e0.2 && rtS e0.1 e0.2 && decide (List.length (α := Int) g ≤ 1000)) <|
      grd (decide (List.length (α := Int) (refA e0.2 g) ≤ 1000000)) <|
      br (inL (refA e0.2 g) w2)
        (c0 (IntKind.i64.wrap (w3 + 1)) w4 w1 (IntKind.i64.wrap (w0 + 1)))
        (c1 w3 w4 w1 (IntKind.i64.wrap (w0 + 1))))
      (c2 w3 w4 w1 (IntKind.i64.wrap (w0 + 1))))
    (c3 w3 w4 w1 w0 (decide (w0 < w1)))
theorem refChsF_s3_eq (fuel k : Nat) (K : Ex → St → Option Out) (w0 w1 : Int) (m : List (Int × List Int)) (b g : List Int) (w2 w3 : Int) (w4 : Bool) (w5 w6 n : Int) : lpN qd10 (qd6 fuel) 140737488355278 qd8 (k + 1) ⟨[(1, vL b), (2, vL g), qd9, (6, vI 0), (7, vI w5), (8, vI w6), (9, vI w2), (10, vI w3), (13, vI w2), (14, .ptr 0 2 0 0), (15, vI n), (16, vB w4), (19, .ptr 0 2 0 1), (20, vR m), (21, vI w1), (22, vI w0)], (qd7 n m), 1, none⟩ K = refChsF_s3 w0 w1 m b g w2 w3 w4 w5 w6 n (fun a0 a1 a2 a3 => lpN qd10 (qd6 fuel) 140737488355278 qd8 k ⟨[(1, vL b), (2, vL g), qd9, (6, vI 0), (7, vI w5), (8, vI w6), (9, vI w2), (10, vI a0), (13, vI w2), (14, .ptr 0 2 0 0), (15, vI n), (16, vB a1), (19, .ptr 0 2 0 1), (20, vR m), (21, vI a2), (22, vI a3)], (qd7 n m), 1, none⟩ K) (fun a4 a5 a6 a7 => lpN qd10 (qd6 fuel) 140737488355278 qd8 k ⟨[(1, vL b), (2, vL g), qd9, (6, vI 0), (7, vI w5), (8, vI w6), (9, vI w2), (10, vI a4), (13, vI w2), (14, .ptr 0 2 0 0), (15, vI n), (16, vB a5), (19, .ptr 0 2 0 1), (20, vR m), (21, vI a6), (22, vI a7)], (qd7 n m), 1, none⟩ K) (fun a8 a9 a73 a74 => lpN qd10 (qd6 fuel) 140737488355278 qd8 k ⟨[(1, vL b), (2, vL g), qd9, (6, vI 0), (7, vI w5), (8, vI w6), (9, vI w2), (10, vI a8), (13, vI w2), (14, .ptr 0 2 0 0), (15, vI n), (16, vB a9), (19, .ptr 0 2 0 1), (20, vR m), (21, vI a73), (22, vI a74)], (qd7 n m), 1, none⟩ K) (fun a75 a76 a77 a78 a79 => K (.exit 2) ⟨[(1, vL b), (2, vL g), qd9, (6, vI 0), (7, vI w5), (8, vI w6), (9, vI w2), (10, vI a75), (13, vI w2), (14, .ptr 0 2 0 0), (15, vI n), (16, vB a76), (19, .ptr 0 2 0 1), (20, vR m), (21, vI a77), (22, vI a78), (23, vB a79)], (qd7 n m), 1, none⟩) := by kernel_rfl
noncomputable def refChsF_l2 {R : Type} (fuel : Nat) (b g : List Int) (w0 w1 w2 n : Int) (m : List (Int × List Int)) (k0 : Int → Bool → Int → Int → Bool → Option R) : Nat → Int → Bool → Int → Int → Option R
  | 0, _, _, _, _ => none
  | k + 1, w3, w4, w5, w6 =>
    (refChsF_s3 w6 w5 m b g w2 w3 w4 w0 w1 n (fun a0 a1 a2 a3 => ( refChsF_l2 fuel b g w0 w1 w2 n m k0 k a0 a1 a2 a3 )) (fun a4 a5 a6 a7 => ( refChsF_l2 fuel b g w0 w1 w2 n m k0 k a4 a5 a6 a7 )) (fun a8 a9 a73 a74 => ( refChsF_l2 fuel b g w0 w1 w2 n m k0 k a8 a9 a73 a74 )) (fun a75 a76 a77 a78 a79 => k0 a75 a76 a77 a78 a79))
theorem refChsF_l2_eq (fuel : Nat) (b g : List Int) (w0 w1 w2 n : Int) (m : List (Int × List Int)) (K : Ex → St → Option Out) : ∀ (k : Nat) (w3 : Int) (w4 : Bool) (w5 w6 : Int), lpN qd10 (qd6 fuel) 140737488355278 qd8 k ⟨[(1, vL b), (2, vL g), qd9, (6, vI 0), (7, vI w0), (8, vI w1), (9, vI w2), (10, vI w3), (13, vI w2), (14, .ptr 0 2 0 0), (15, vI n), (16, vB w4), (19, .ptr 0 2 0 1), (20, vR m), (21, vI w5), (22, vI w6)], (qd7 n m), 1, none⟩ K = refChsF_l2 fuel b g w0 w1 w2 n m (fun y0 y1 y2 y3 y4 => K (.exit 2) ⟨[(1, vL b), (2, vL g), qd9, (6, vI 0), (7, vI w0), (8, vI w1), (9, vI w2), (10, vI y0), (13, vI w2), (14, .ptr 0 2 0 0), (15, vI n), (16, vB y1), (19, .ptr 0 2 0 1), (20, vR m), (21, vI y2), (22, vI y3), (23, vB y4)], (qd7 n m), 1, none⟩) k w3 w4 w5 w6
  | 0, _, _, _, _ => rfl
  | k + 1, w3, w4, w5, w6 => by
    unfold refChsF_l2
    exact (refChsF_s3_eq fuel k K w6 w5 m b g w2 w3 w4 w0 w1 n).trans (congr (congr (congr (congr (Eq.refl (refChsF_s3 (R := Out) w6 w5 m b g w2 w3 w4 w0 w1 n)) (funext fun a0 => funext fun a1 => funext fun a2 => funext fun a3 => refChsF_l2_eq fuel b g w0 w1 w2 n m K k a0 a1 a2 a3)) (funext fun a4 => funext fun a5 => funext fun a6 => funext fun a7 => refChsF_l2_eq fuel b g w0 w1 w2 n m K k a4 a5 a6 a7)) (funext fun a8 => funext fun a9 => funext fun a73 => funext fun a74 => refChsF_l2_eq fuel b g w0 w1 w2 n m K k a8 a9 a73 a74)) (rfl))
noncomputable def refChsF_s4 {R : Type} (x0 w0 w1 w2 : Int) (b g : List Int) (n : Int) (x1 : Bool) (m : List (Int × List Int)) (x2 x3 : Int) (x4 : Bool) (c0 c1 : Int → Int → Int → Option R) : Option R :=
  br (decide (x0 > w0))
    (c0 w1 x0 (IntKind.i64.wrap (w1 + 1)))
    (c1 w2 w0 (IntKind.i64.wrap (w1 + 1)))
theorem refChsF_s4_eq (fuel k : Nat) (K : Ex → St → Option Out) (x0 w0 w1 w2 : Int) (b g : List Int) (n : Int) (x1 : Bool) (m : List (Int × List Int)) (x2 x3 : Int) (x4 : Bool) : (kont (qd6 fuel) qd5 [1, 0, 0, 1, 0, 1, 0] 140737488355278 (rdK qd5 (qd6 fuel) 70368744177856 [1, 2, 3, 6, 7, 8, 9] k K)) (.exit 2) ⟨[(1, vL b), (2, vL g), qd9, (6, vI 0), (7, vI w2), (8, vI w0), (9, vI w1), (10, vI x0), (13, vI w1), (14, .ptr 0 2 0 0), (15, vI n), (16, vB x1), (19, .ptr 0 2 0 1), (20, vR m), (21, vI x2), (22, vI x3), (23, vB x4)], (qd7 n m), 1, none⟩ = refChsF_s4 x0 w0 w1 w2 b g n x1 m x2 x3 x4 (fun a0 a1 a2 => lpN qd5 (qd6 fuel) 70368744177856 [1, 2, 3, 6, 7, 8, 9] k ⟨[(1, vL b), (2, vL g), qd9, (6, vI 0), (7, vI a0), (8, vI a1), (9, vI a2)], (qd7 n m), 1, none⟩ K) (fun a3 a4 a5 => lpN qd5 (qd6 fuel) 70368744177856 [1, 2, 3, 6, 7, 8, 9] k ⟨[(1, vL b), (2, vL g), qd9, (6, vI 0), (7, vI a3), (8, vI a4), (9, vI a5)], (qd7 n m), 1, none⟩ K) := by kernel_rfl
noncomputable def refChsF_s2 {R : Type} (w0 n : Int) (m : List (Int × List Int)) (w1 : Int) (b g : List Int) (w2 : Int) (c0 : Int → Bool → Int → Int → Option R) (c1 : Int → Option R) : Option R :=
  br (decide (w0 < n))
    (c0 0 (decide (w0 < n)) ((m.length : Nat) : Int) 0)
    (c1 w1)
theorem refChsF_s2_eq (fuel k : Nat) (K : Ex → St → Option Out) (w0 n : Int) (m : List (Int × List Int)) (w1 : Int) (b g : List Int) (w2 : Int) : lpN qd5 (qd6 fuel) 70368744177856 [1, 2, 3, 6, 7, 8, 9] (k + 1) ⟨[(1, vL b), (2, vL g), qd9, (6, vI 0), (7, vI w1), (8, vI w2), (9, vI w0)], (qd7 n m), 1, none⟩ K = refChsF_s2 w0 n m w1 b g w2 (fun a0 a1 a2 a3 => lpN qd10 (qd6 fuel) 140737488355278 qd8 fuel ⟨[(1, vL b), (2, vL g), qd9, (6, vI 0), (7, vI w1), (8, vI w2), (9, vI w0), (10, vI a0), (13, vI w0), (14, .ptr 0 2 0 0), (15, vI n), (16, vB a1), (19, .ptr 0 2 0 1), (20, vR m), (21, vI a2), (22, vI a3)], (qd7 n m), 1, none⟩ (kont (qd6 fuel) qd5 [1, 0, 0, 1, 0, 1, 0] 140737488355278 (rdK qd5 (qd6 fuel) 70368744177856 [1, 2, 3, 6, 7, 8, 9] k K))) (fun a4 => K (.exit 0) ⟨[(6, vI 0), (7, vI a4)], [], 0, none⟩) := by kernel_rfl
noncomputable def refChsF_l1 {R : Type} (fuel : Nat) (b g : List Int) (n : Int) (m : List (Int × List Int)) (k0 : Int → Option R) : Nat → Int → Int → Int → Option R
  | 0, _, _, _ => none
  | k + 1, w0, w1, w2 =>
    (refChsF_s2 w2 n m w0 b g w1 (fun a0 a1 a2 a3 => (refChsF_l2 fuel b g w0 w1 w2 n m (fun x0 x1 x2 x3 x4 => (refChsF_s4 x0 w1 w2 w0 b g n x1 m x2 x3 x4 (fun a4 a5 a6 => ( refChsF_l1 fuel b g n m k0 k a4 a5 a6 )) (fun a7 a8 a9 => ( refChsF_l1 fuel b g n m k0 k a7 a8 a9 )))) fuel a0 a1 a2 a3)) (fun a95 => k0 a95))
theorem refChsF_l1_eq (fuel : Nat) (b g : List Int) (n : Int) (m : List (Int × List Int)) (K : Ex → St → Option Out) : ∀ (k : Nat) (w0 w1 w2 : Int), lpN qd5 (qd6 fuel) 70368744177856 [1, 2, 3, 6, 7, 8, 9] k ⟨[(1, vL b), (2, vL g), qd9, (6, vI 0), (7, vI w0), (8, vI w1), (9, vI w2)], (qd7 n m), 1, none⟩ K = refChsF_l1 fuel b g n m (fun y0 => K (.exit 0) ⟨[(6, vI 0), (7, vI y0)], [], 0, none⟩) k w0 w1 w2
  | 0, _, _, _ => rfl
  | k + 1, w0, w1, w2 => by
    unfold refChsF_l1
    exact (refChsF_s2_eq fuel k K w2 n m w0 b g w1).trans (congr (congr (Eq.refl (refChsF_s2 (R := Out) w2 n m w0 b g w1)) (funext fun a0 => funext fun a1 => funext fun a2 => funext fun a3 => (refChsF_l2_eq fuel b g w0 w1 w2 n m (kont (qd6 fuel) qd5 [1, 0, 0, 1, 0, 1, 0] 140737488355278 (rdK qd5 (qd6 fuel) 70368744177856 [1, 2, 3, 6, 7, 8, 9] k K)) fuel a0 a1 a2 a3).trans (congrFun (congrFun (congrFun (congrFun (congrFun (congr (Eq.refl (refChsF_l2 (R := Out) fuel b g w0 w1 w2 n m)) (funext fun x0 => funext fun x1 => funext fun x2 => funext fun x3 => funext fun x4 => (refChsF_s4_eq fuel k K x0 w1 w2 w0 b g n x1 m x2 x3 x4).trans (congr (congr (Eq.refl (refChsF_s4 (R := Out) x0 w1 w2 w0 b g n x1 m x2 x3 x4)) (funext fun a4 => funext fun a5 => funext fun a6 => refChsF_l1_eq fuel b g n m K k a4 a5 a6)) (funext fun a7 => funext fun a8 => funext fun a9 => refChsF_l1_eq fuel b g n m K k a7 a8 a9)))) fuel) a0) a1) a2) a3))) (rfl))
noncomputable def refChsF_s5 {R : Type} (x0 : Int) (c0 : Int → Option R) : Option R :=
  c0 x0
theorem refChsF_s5_eq (fuel : Nat)  (x0 : Int) : (kont (qd6 fuel) (bodyOf Tryd.prog 61) [1, 1, 1, 0, 1, 0] 64 (endK Tryd.prog 0 0 61)) (.exit 0) ⟨[(6, vI 0), (7, vI x0)], [], 0, none⟩ = refChsF_s5 x0 (fun a0 => some (vI a0, [])) := by kernel_rfl
noncomputable def refChsF_s1 {R : Type} (n : Int) (m : List (Int × List Int)) (b g : List Int) (c0 : Int → Int → Int → Option R) : Option R :=
  c0 (-1) 0 0
theorem refChsF_s1_eq (fuel : Nat)  (n : Int) (m : List (Int × List Int)) (b g : List Int) : callN Tryd.prog mode15 T_refGone11 fuel 61 [.agg [vI n, vR m], vL b, vL g] [] = refChsF_s1 n m b g (fun a0 a1 a2 => lpN qd5 (qd6 fuel) 70368744177856 [1, 2, 3, 6, 7, 8, 9] fuel ⟨[(1, vL b), (2, vL g), qd9, (6, vI 0), (7, vI a0), (8, vI a1), (9, vI a2)], (qd7 n m), 1, none⟩ (kont (qd6 fuel) (bodyOf Tryd.prog 61) [1, 1, 1, 0, 1, 0] 64 (endK Tryd.prog 0 0 61))) := by kernel_rfl
noncomputable def refChsF {R : Type} (fuel : Nat) (n : Int) (m : List (Int × List Int)) (b g : List Int) (r0 : Int → Option R) : Option R :=
  (refChsF_s1 n m b g (fun a0 a1 a2 => (refChsF_l1 fuel b g n m (fun x0 => (refChsF_s5 x0 (fun a3 => r0 a3))) fuel a0 a1 a2)))
theorem refChsF_eq (fuel : Nat) (n : Int) (m : List (Int × List Int)) (b g : List Int) : callN Tryd.prog mode15 T_refGone11 fuel 61 [.agg [.s (.int .i64 n), .lt (.pair (.int .i64) (.sl (.int .u64))) m], .li .i64 b, .li .i64 g] [] = refChsF fuel n m b g (fun z0 => some (.s (.int .i64 z0), [])) := by
  unfold refChsF
  exact (refChsF_s1_eq fuel  n m b g).trans (congr (Eq.refl (refChsF_s1 (R := Out) n m b g)) (funext fun a0 => funext fun a1 => funext fun a2 => (refChsF_l1_eq fuel b g n m (kont (qd6 fuel) (bodyOf Tryd.prog 61) [1, 1, 1, 0, 1, 0] 64 (endK Tryd.prog 0 0 61)) fuel a0 a1 a2).trans (congrFun (congrFun (congrFun (congrFun (congr (Eq.refl (refChsF_l1 (R := Out) fuel b g n m)) (funext fun x0 => (refChsF_s5_eq fuel  x0))) fuel) a0) a1) a2)))
theorem nFrom_le (b g : List Int) (i : Int) : ∀ (t : List Rw) (j : Int), 0 ≤ nFrom b g i t j ∧ nFrom b g i t j ≤ (t.length : Int)
  | [], j => by rw [nFrom]; simp
  | r :: t, j => by
    have := nFrom_le b g i t (j + 1)
    rw [nFrom, List.length_cons]
    split <;> omega
theorem refA_len {z : Int} {ws : List Int} (g : List Int) (h1 : okW ws = true) (h2 : rtS z ws = true) : (refA ws g).length ≤ 512 := by
  rw [refA_eq]; unfold refAI
  have h0 := (rtS_iff.1 h2).1.2
  refine Nat.le_trans (List.length_filter_le _ _) ?_
  rw [pl_plc h1 h2]
  unfold plc
  rw [List.length_map]
  exact Nat.le_trans (List.length_filter_le _ _) (by rw [List.length_range]; omega)
theorem refChs_in {R : Type} (fuel : Nat) (n : Int) (m : List Rw) (b g : List Int) (hok : okM m = true) (hm : mrt n m = true) (hb : b.length ≤ 1000) (hg : g.length ≤ 1000) (w25 w23 i : Int) (k0 : Int → Bool → Int → Int → Bool → Option R) (t : Bool) : ∀ (k j : Nat) (s : Int), j ≤ m.length → m.length < j + k → 0 ≤ s → s ≤ (j : Int) →
    refChsF_l2 fuel b g w25 w23 i n m k0 k s t (m.length : Int) (j : Int) = k0 (s + nFrom b g i (m.drop j) (j : Int)) t (m.length : Int) (m.length : Int) (decide ((m.length : Int) < (m.length : Int)))
  | 0, j, s, h1, h2, _, _ => by omega
  | k + 1, j, s, h1, h2, h3, h4 => by
    obtain ⟨_, hml, hrow⟩ := mrt_iff.1 hm
    unfold refChsF_l2 refChsF_s3
    rw [br_if]
    by_cases hc : j < m.length
    · have hmem := List.getElem_mem hc
      rw [if_pos (by simpa using hc), bnd_of ((ix_nat _ j).trans (List.getElem?_eq_getElem hc)), grd_of (by simp; omega), br_if, List.drop_eq_getElem_cons hc, nFrom, wrap_i64 (x := (j : Int) + 1) (by omega) (by omega), show (j : Int) + 1 = ((j + 1 : Nat) : Int) by omega]
      by_cases h : inL b (j : Int) = true
      · rw [if_neg (by simp [h]), if_neg (by simp [h]), show s + (0 + nFrom b g i (m.drop (j + 1)) ((j + 1 : Nat) : Int)) = s + nFrom b g i (m.drop (j + 1)) ((j + 1 : Nat) : Int) by omega]
        exact refChs_in fuel n m b g hok hm hb hg w25 w23 i k0 t k (j + 1) s (by omega) (by omega) h3 (by omega)
      · have hrl := refA_len g (okM_iff.1 hok _ hmem) (hrow _ hmem).2
        rw [if_pos (by simp [h]), grd_of (by rw [okM_iff.1 hok _ hmem, (hrow _ hmem).2]; simp; omega), grd_of (by simp; omega), br_if]
        by_cases h5 : inL (refA (m[j]).2 g) i = true
        · rw [if_pos h5, if_pos (by simp [h, h5]), wrap_i64 (by omega) (by omega), show s + (1 + nFrom b g i (m.drop (j + 1)) ((j + 1 : Nat) : Int)) = (s + 1) + nFrom b g i (m.drop (j + 1)) ((j + 1 : Nat) : Int) by omega]
          exact refChs_in fuel n m b g hok hm hb hg w25 w23 i k0 t k (j + 1) (s + 1) (by omega) (by omega) (by omega) (by omega)
        · rw [if_neg h5, if_neg (by simp [h5]), show s + (0 + nFrom b g i (m.drop (j + 1)) ((j + 1 : Nat) : Int)) = s + nFrom b g i (m.drop (j + 1)) ((j + 1 : Nat) : Int) by omega]
          exact refChs_in fuel n m b g hok hm hb hg w25 w23 i k0 t k (j + 1) s (by omega) (by omega) h3 (by omega)
    · have e : j = m.length := by omega
      subst e
      rw [if_neg (by simp), List.drop_length, nFrom, show s + 0 = s by omega]
theorem refChs_loop {R : Type} (fuel : Nat) (hf : 64 < fuel) (N : Nat) (m : List Rw) (b g : List Int) (hok : okM m = true) (hm : mrt (N : Int) m = true) (hb : b.length ≤ 1000) (hg : g.length ≤ 1000) (k0 : Int → Option R) : ∀ (k j : Nat) (at' best : Int), j ≤ N → N < j + k →
    refChsF_l1 fuel b g (N : Int) m k0 k at' best (j : Int) = k0 (mostFrom (((List.range N).map fun (i : Nat) => nFrom b g (i : Int) m 0).drop j) (j : Int) at' best)
  | 0, j, at', best, h1, h2 => by omega
  | k + 1, j, at', best, h1, h2 => by
    obtain ⟨⟨_, hn⟩, hml, hrow⟩ := mrt_iff.1 hm
    unfold refChsF_l1 refChsF_s2
    rw [br_if]
    by_cases hc : j < N
    · have hin := fun k0 => refChs_in (R := R) fuel (N : Int) m b g hok hm hb hg at' best (j : Int) k0 (decide ((j : Int) < (N : Int))) fuel 0 0 (by omega) (by omega) (by omega) (by omega)
      rw [show ((0 : Nat) : Int) = 0 from rfl, List.drop_zero] at hin
      rw [if_pos (by simpa using hc)]
      refine (hin _).trans ?_
      unfold refChsF_s4
      rw [br_if, show (0 : Int) + nFrom b g (j : Int) m 0 = nFrom b g (j : Int) m 0 by omega, wrap_i64 (by omega) (by omega), show (j : Int) + 1 = ((j + 1 : Nat) : Int) by omega, List.drop_eq_getElem_cons (by simpa using hc), List.getElem_map, List.getElem_range, mostFrom]
      by_cases h : nFrom b g (j : Int) m 0 > best
      · rw [if_pos (by simpa using h), if_pos h]
        exact refChs_loop fuel hf N m b g hok hm hb hg k0 k (j + 1) _ _ (by omega) (by omega)
      · rw [if_neg (by simpa using h), if_neg h]
        exact refChs_loop fuel hf N m b g hok hm hb hg k0 k (j + 1) _ _ (by omega) (by omega)
    · rw [if_neg (by simpa using hc), List.drop_eq_nil_of_le (by simp; omega), mostFrom]
theorem refChs_fact (n : Int) (m : List (Int × List Int)) (b : List Int) (g : List Int) (hg : (okM m && mrt n m && decide (List.length (α := Int) b ≤ 1000) && decide (List.length (α := Int) g ≤ 1000)) = true) : Fact Tryd.prog gTab 61 [.agg [.s (.int .i64 n), .lt (.pair (.int .i64) (.sl (.int .u64))) m], .li .i64 b, .li .i64 g] [] (.s (.int .i64 (chsS n m b g)), []) := by
  simp only [Bool.and_eq_true, decide_eq_true_eq] at hg
  obtain ⟨⟨⟨h1, h2⟩, h3⟩, h4⟩ := hg
  obtain ⟨⟨hn0, hn⟩, hml, hrow⟩ := mrt_iff.1 h2
  obtain ⟨N, rfl⟩ : ∃ N : Nat, n = (N : Int) := ⟨n.toNat, by omega⟩
  refine callN_fact hN hM T_refGone11_ok (n := 70) (mode := mode15) ?_
  rw [refChsF_eq]
  unfold refChsF refChsF_s1
  dsimp only
  have h := fun k0 => refChs_loop (R := Out) 70 (by decide) N m b g h1 h2 h3 h4 k0 70 0 (-1) 0 (by omega) (by omega)
  rw [show ((0 : Nat) : Int) = 0 from rfl, List.drop_zero] at h
  refine (h _).trans ?_
  unfold refChsF_s5
  rw [chsS_eq]
  unfold chsI
  rw [Int.toNat_natCast, mostS_eq]
  rfl
noncomputable def refChs_ent : List V → List Blk → Option (Bool × Out)
  | [.agg [.s (.int .i64 n), w0], w1, w2], [] => (asSl (.pair (.int .i64) (.sl (.int .u64))) w0).bind fun m => (asSl (.int .i64) w1).bind fun b => (asSl (.int .i64) w2).bind fun g => some ((okM m && mrt n m && decide (List.length (α := Int) b ≤ 1000) && decide (List.length (α := Int) g ≤ 1000)), (.s (.int .i64 (chsS n m b g)), []))
  | _, _ => none
theorem refChs_ok : ∀ args bs out, refChs_ent args bs = some (true, out) → Fact Tryd.prog gTab 61 args bs out := by
  intro args bs out h
  unfold refChs_ent at h
  split at h
  · rename_i n w0 w1 w2
    obtain ⟨m, h_m, h⟩ := Option.bind_eq_some_iff.1 h
    obtain ⟨b, h_b, h⟩ := Option.bind_eq_some_iff.1 h
    obtain ⟨g, h_g, h⟩ := Option.bind_eq_some_iff.1 h
    simp only [Option.some.injEq, Prod.mk.injEq] at h
    obtain ⟨hg, rfl⟩ := h
    exact (refChs_fact n m b g hg).args (fun _ _ _ => fun _ h => RVs_two (fun _ h => RV_agg_two (fun _ h => RVs_two (fun _ h => h) (fun _ h => RVs_two (fun _ h => RV_sl (s := (.pair (.int .i64) (.sl (.int .u64)))) h_m h) (fun _ h => h) h) h) h) (fun _ h => RVs_two (fun _ h => RV_li h_b h) (fun _ h => RVs_two (fun _ h => RV_li h_g h) (fun _ h => h) h) h) h)
  · cases h
noncomputable def T_refChs : Tbl := Tbl.cons 61 refChs_ent T_refGone11
theorem T_refChs_ok : CallOk Tryd.prog gTab T_refChs := cons_ok T_refGone11_ok refChs_ok
/-! downpour/downpourref16.Choose -/
noncomputable def refChooseF_s1 {R : Type} (m : List (Int × List Int)) (n : Int) (c0 : Int → Option R) : Option R :=
  grd (okM m && mrt n m && decide (List.length (α := Int) ([]) ≤ 1000) && decide (List.length (α := Int) ([]) ≤ 1000)) <|
  c0 (chsS n m ([]) ([]))
theorem refChooseF_s1_eq (fuel : Nat)  (m : List (Int × List Int)) (n : Int) : callN Tryd.prog mode15 T_refChs fuel 20 [.agg [vI n, vR m]] [] = refChooseF_s1 m n (fun a1 => some (vI a1, [])) := by kernel_rfl
noncomputable def refChooseF {R : Type} (fuel : Nat) (n : Int) (m : List (Int × List Int)) (r0 : Int → Option R) : Option R :=
  (refChooseF_s1 m n (fun a1 => r0 a1))
theorem refChooseF_eq (fuel : Nat) (n : Int) (m : List (Int × List Int)) : callN Tryd.prog mode15 T_refChs fuel 20 [.agg [.s (.int .i64 n), .lt (.pair (.int .i64) (.sl (.int .u64))) m]] [] = refChooseF fuel n m (fun z0 => some (.s (.int .i64 z0), [])) := by
  unfold refChooseF
  exact (refChooseF_s1_eq fuel  m n)
theorem refChoose_fact (n : Int) (m : List (Int × List Int)) (hg : (okM m && mrt n m) = true) : Fact Tryd.prog gTab 20 [.agg [.s (.int .i64 n), .lt (.pair (.int .i64) (.sl (.int .u64))) m]] [] (.s (.int .i64 (chsS n m [] [])), []) := by
  simp only [Bool.and_eq_true] at hg
  obtain ⟨h1, h2⟩ := hg
  refine callN_fact hN hM T_refChs_ok (n := 0) (mode := mode15) ?_
  rw [refChooseF_eq]
  unfold refChooseF refChooseF_s1
  rw [grd_of (by rw [h1, h2]; rfl)]
noncomputable def refChoose_ent : List V → List Blk → Option (Bool × Out)
  | [.agg [.s (.int .i64 n), w0]], [] => (asSl (.pair (.int .i64) (.sl (.int .u64))) w0).bind fun m => some ((okM m && mrt n m), (.s (.int .i64 (chsS n m [] [])), []))
  | _, _ => none
theorem refChoose_ok : ∀ args bs out, refChoose_ent args bs = some (true, out) → Fact Tryd.prog gTab 20 args bs out := by
  intro args bs out h
  unfold refChoose_ent at h
  split at h
  · rename_i n w0
    obtain ⟨m, h_m, h⟩ := Option.bind_eq_some_iff.1 h
    simp only [Option.some.injEq, Prod.mk.injEq] at h
    obtain ⟨hg, rfl⟩ := h
    exact (refChoose_fact n m hg).args (fun _ _ _ => fun _ h => RVs_two (fun _ h => RV_agg_two (fun _ h => RVs_two (fun _ h => h) (fun _ h => RVs_two (fun _ h => RV_sl (s := (.pair (.int .i64) (.sl (.int .u64)))) h_m h) (fun _ h => h) h) h) h) (fun _ h => h) h)
  · cases h
noncomputable def T_refChoose : Tbl := Tbl.cons 20 refChoose_ent T_refChs
theorem T_refChoose_ok : CallOk Tryd.prog gTab T_refChoose := cons_ok T_refChs_ok refChoose_ok
/-! downpour/downpourref16.one -/
noncomputable abbrev qd11 (fuel : Nat) : Ctx Out := (fnX Tryd.prog mode15 T_refChoose fuel 30 0)
noncomputable abbrev qd12 : Code := (sub (bodyOf Tryd.prog 60) [1, 0, 1, 0, 0])
noncomputable def refOneF_s2 {R : Type} (w3 w4 : Int) (m : List (Int × List Int)) (b a d o : List Int) (c0 : Int → Option R) (c1 c2 : Int → Int → Option R) (c3 : Option R) : Option R :=
  br (decide (w3 < w4))
    (bnd (ix m w3) fun e7 =>
    grd (decide (List.length (α := Int) b ≤ 1000000)) <|
    br (!(inL b w3))
      (grd (decide ((List.length (α := Int) a) ≤ 1000) && decide ((List.length (α := Int) d) ≤ 1000)) <|
      grd (okW e7.2 && rtS e7.1 e7.2 && decide (List.length (α := Int) (((a ++ d).drop 0).take (List.length (α := Int) (a ++ d))) ≤ 1000)) <|
      br (((((refA e7.2 (((a ++ d).drop 0).take (List.length (α := Int) (a ++ d)))).length : Nat) : Int) : Int) == 1)
        (c0 w3)
        (c1 w4 (IntKind.i64.wrap (w3 + 1))))
      (c2 w4 (IntKind.i64.wrap (w3 + 1))))
    (c3)
theorem refOneF_s2_eq (fuel k : Nat) (K : Ex → St → Option Out) (w3 w4 : Int) (m : List (Int × List Int)) (b a d o : List Int) : lpN qd12 (qd11 fuel) 16 [3, 4, 8, 9, 10] (k + 1) ⟨[(3, .ptr 0 4 0 0), (4, vI 0), (8, vR m), (9, vI w4), (10, vI w3)], [(0, some ⟨28, .agg [vL a, vL b, vL d, vL o], true⟩)], 1, none⟩ K = refOneF_s2 w3 w4 m b a d o (fun a8 => K .ret ⟨[(4, vI a8)], [], 0, none⟩) (fun a9 a0 => lpN qd12 (qd11 fuel) 16 [3, 4, 8, 9, 10] k ⟨[(3, .ptr 0 4 0 0), (4, vI 0), (8, vR m), (9, vI a9), (10, vI a0)], [(0, some ⟨28, .agg [vL a, vL b, vL d, vL o], true⟩)], 1, none⟩ K) (fun a1 a2 => lpN qd12 (qd11 fuel) 16 [3, 4, 8, 9, 10] k ⟨[(3, .ptr 0 4 0 0), (4, vI 0), (8, vR m), (9, vI a1), (10, vI a2)], [(0, some ⟨28, .agg [vL a, vL b, vL d, vL o], true⟩)], 1, none⟩ K) (K (.exit 0) ⟨[(4, vI 0)], [], 0, none⟩) := by kernel_rfl
noncomputable def refOneF_l1 {R : Type} (fuel : Nat) (m : List (Int × List Int)) (a b d o : List Int) (k0 : Int → Option R) (k1 : Option R) : Nat → Int → Int → Option R
  | 0, _, _ => none
  | k + 1, w4, w3 =>
    (refOneF_s2 w3 w4 m b a d o (fun a8 => k0 a8) (fun a9 a0 => ( refOneF_l1 fuel m a b d o k0 k1 k a9 a0 )) (fun a1 a2 => ( refOneF_l1 fuel m a b d o k0 k1 k a1 a2 )) (k1))
theorem refOneF_l1_eq (fuel : Nat) (m : List (Int × List Int)) (a b d o : List Int) (K : Ex → St → Option Out) : ∀ (k : Nat) (w4 w3 : Int), lpN qd12 (qd11 fuel) 16 [3, 4, 8, 9, 10] k ⟨[(3, .ptr 0 4 0 0), (4, vI 0), (8, vR m), (9, vI w4), (10, vI w3)], [(0, some ⟨28, .agg [vL a, vL b, vL d, vL o], true⟩)], 1, none⟩ K = refOneF_l1 fuel m a b d o (fun y6 => K .ret ⟨[(4, vI y6)], [], 0, none⟩) (K (.exit 0) ⟨[(4, vI 0)], [], 0, none⟩) k w4 w3
  | 0, _, _ => rfl
  | k + 1, w4, w3 => by
    unfold refOneF_l1
    exact (refOneF_s2_eq fuel k K w3 w4 m b a d o).trans (congr (congr (congr (congr (Eq.refl (refOneF_s2 (R := Out) w3 w4 m b a d o)) (rfl)) (funext fun a9 => funext fun a0 => refOneF_l1_eq fuel m a b d o K k a9 a0)) (funext fun a1 => funext fun a2 => refOneF_l1_eq fuel m a b d o K k a1 a2)) (rfl))
noncomputable def refOneF_s3 {R : Type} (x0 : Int) (c0 : Int → Option R) : Option R :=
  c0 x0
theorem refOneF_s3_eq (fuel : Nat)  (x0 : Int) : (kont (qd11 fuel) (bodyOf Tryd.prog 60) [1, 0, 1, 0] 16 (endK Tryd.prog 0 0 60)) .ret ⟨[(4, vI x0)], [], 0, none⟩ = refOneF_s3 x0 (fun a0 => some (vI a0, [])) := by kernel_rfl
noncomputable def refOneF_s4 {R : Type}  (c0 : Int → Option R) : Option R :=
  c0 (-1)
theorem refOneF_s4_eq (fuel : Nat)   : (kont (qd11 fuel) (bodyOf Tryd.prog 60) [1, 0, 1, 0] 16 (endK Tryd.prog 0 0 60)) (.exit 0) ⟨[(4, vI 0)], [], 0, none⟩ = refOneF_s4  (fun a0 => some (vI a0, [])) := by kernel_rfl
noncomputable def refOneF_s1 {R : Type} (m : List (Int × List Int)) (n : Int) (a b d o : List Int) (c0 : Int → Int → Option R) : Option R :=
  c0 ((m.length : Nat) : Int) 0
theorem refOneF_s1_eq (fuel : Nat)  (m : List (Int × List Int)) (n : Int) (a b d o : List Int) : callN Tryd.prog mode15 T_refChoose fuel 60 [.agg [vI n, vR m], .agg [vL a, vL b, vL d, vL o]] [] = refOneF_s1 m n a b d o (fun a0 a1 => lpN qd12 (qd11 fuel) 16 [3, 4, 8, 9, 10] fuel ⟨[(3, .ptr 0 4 0 0), (4, vI 0), (8, vR m), (9, vI a0), (10, vI a1)], [(0, some ⟨28, .agg [vL a, vL b, vL d, vL o], true⟩)], 1, none⟩ (kont (qd11 fuel) (bodyOf Tryd.prog 60) [1, 0, 1, 0] 16 (endK Tryd.prog 0 0 60))) := by kernel_rfl
noncomputable def refOneF {R : Type} (fuel : Nat) (n : Int) (m : List (Int × List Int)) (a b d o : List Int) (r0 : Int → Option R) : Option R :=
  (refOneF_s1 m n a b d o (fun a0 a1 => (refOneF_l1 fuel m a b d o (fun x0 => (refOneF_s3 x0 (fun a2 => r0 a2))) ((refOneF_s4 (fun a3 => r0 a3))) fuel a0 a1)))
theorem refOneF_eq (fuel : Nat) (n : Int) (m : List (Int × List Int)) (a b d o : List Int) : callN Tryd.prog mode15 T_refChoose fuel 60 [.agg [.s (.int .i64 n), .lt (.pair (.int .i64) (.sl (.int .u64))) m], .agg [.li .i64 a, .li .i64 b, .li .i64 d, .li .i64 o]] [] = refOneF fuel n m a b d o (fun z0 => some (.s (.int .i64 z0), [])) := by
  unfold refOneF
  exact (refOneF_s1_eq fuel  m n a b d o).trans (congr (Eq.refl (refOneF_s1 (R := Out) m n a b d o)) (funext fun a0 => funext fun a1 => (refOneF_l1_eq fuel m a b d o (kont (qd11 fuel) (bodyOf Tryd.prog 60) [1, 0, 1, 0] 16 (endK Tryd.prog 0 0 60)) fuel a0 a1).trans (congrFun (congrFun (congrFun (congr (congr (Eq.refl (refOneF_l1 (R := Out) fuel m a b d o)) (funext fun x0 => (refOneF_s3_eq fuel  x0))) ((refOneF_s4_eq fuel  ))) fuel) a0) a1)))
theorem refOne_loop {R : Type} (fuel : Nat) (n : Int) (m : List Rw) (a b d o : List Int) (hok : okM m = true) (hm : mrt n m = true) (hb : b.length ≤ 500) (ha : a.length ≤ 500) (hd : d.length ≤ 500) (k0 : Int → Option R) (k1 : Option R) : ∀ (k j : Nat), j ≤ m.length → m.length < j + k →
    refOneF_l1 fuel m a b d o k0 k1 k (m.length : Int) (j : Int) = if oneRF b (a ++ d) (m.drop j) (j : Int) = -1 then k1 else k0 (oneRF b (a ++ d) (m.drop j) (j : Int))
  | 0, j, h1, h2 => by omega
  | k + 1, j, h1, h2 => by
    obtain ⟨_, hml, hrow⟩ := mrt_iff.1 hm
    unfold refOneF_l1 refOneF_s2
    rw [br_if]
    by_cases hc : j < m.length
    · have hmem := List.getElem_mem hc
      have ih := refOne_loop fuel n m a b d o hok hm hb ha hd k0 k1 k (j + 1) (by omega) (by omega)
      have e0 : oneRF b (a ++ d) (m.drop j) (j : Int) = if (!(inL b (j : Int)) && decide ((refA (m[j]).2 (a ++ d)).length = 1)) = true then (j : Int) else oneRF b (a ++ d) (m.drop (j + 1)) ((j + 1 : Nat) : Int) := by rw [List.drop_eq_getElem_cons hc, oneRF]; rfl
      rw [if_pos (by simpa using hc), bnd_of ((ix_nat _ j).trans (List.getElem?_eq_getElem hc)), grd_of (by simp; omega), br_if, wrap_i64 (by omega) (by omega), show (j : Int) + 1 = ((j + 1 : Nat) : Int) by omega]
      by_cases h : inL b (j : Int) = true
      · rw [if_neg (by simp [h]) (c := ((!(inL b (j : Int)) && decide ((refA (m[j]).2 (a ++ d)).length = 1)) = true))] at e0
        rw [if_neg (by simp [h]), e0]
        exact ih
      · rw [if_pos (by simp [h]), grd_of (by simp; omega), List.drop_zero, List.take_length, grd_of (by rw [okM_iff.1 hok _ hmem, (hrow _ hmem).2]; simp; omega), br_if]
        by_cases h3 : (refA (m[j]).2 (a ++ d)).length = 1
        · rw [if_pos (by simp [h, h3])] at e0
          rw [if_pos (by simp [h3]), e0, if_neg (by omega)]
        · rw [if_neg (by simp [h3])] at e0
          rw [if_neg (by simp; omega), e0]
          exact ih
    · rw [if_neg (by simpa using hc), List.drop_eq_nil_of_le (by omega), oneRF, if_pos rfl]
theorem refOne_fact (n : Int) (m : List (Int × List Int)) (a : List Int) (b : List Int) (d : List Int) (o : List Int) (hg : (okM m && mrt n m && decide (List.length (α := Int) b ≤ 500) && decide (List.length (α := Int) a ≤ 500) && decide (List.length (α := Int) d ≤ 500)) = true) : Fact Tryd.prog gTab 60 [.agg [.s (.int .i64 n), .lt (.pair (.int .i64) (.sl (.int .u64))) m], .agg [.li .i64 a, .li .i64 b, .li .i64 d, .li .i64 o]] [] (.s (.int .i64 (oneR m b (a ++ d))), []) := by
  simp only [Bool.and_eq_true, decide_eq_true_eq] at hg
  obtain ⟨⟨⟨⟨h1, h2⟩, h3⟩, h4⟩, h5⟩ := hg
  have hml := (mrt_iff.1 h2).2.1
  refine callN_fact hN hM T_refChoose_ok (n := 1001) (mode := mode15) ?_
  rw [refOneF_eq]
  unfold refOneF refOneF_s1
  dsimp only
  have h := fun k0 k1 => refOne_loop (R := Out) 1001 n m a b d o h1 h2 h3 h4 h5 k0 k1 1001 0 (by omega) (by omega)
  rw [show ((0 : Nat) : Int) = 0 from rfl, List.drop_zero] at h
  refine (h _ _).trans ?_
  unfold refOneF_s3 refOneF_s4
  rw [oneR_eq]
  unfold oneRI
  by_cases e : oneRF b (a ++ d) m 0 = -1
  · rw [if_pos e, e]
  · rw [if_neg e]
noncomputable def refOne_ent : List V → List Blk → Option (Bool × Out)
  | [.agg [.s (.int .i64 n), w0], .agg [w1, w2, w3, w4]], [] => (asSl (.pair (.int .i64) (.sl (.int .u64))) w0).bind fun m => (asSl (.int .i64) w1).bind fun a => (asSl (.int .i64) w2).bind fun b => (asSl (.int .i64) w3).bind fun d => (asSl (.int .i64) w4).bind fun o => some ((okM m && mrt n m && decide (List.length (α := Int) b ≤ 500) && decide (List.length (α := Int) a ≤ 500) && decide (List.length (α := Int) d ≤ 500)), (.s (.int .i64 (oneR m b (a ++ d))), []))
  | _, _ => none
theorem refOne_ok : ∀ args bs out, refOne_ent args bs = some (true, out) → Fact Tryd.prog gTab 60 args bs out := by
  intro args bs out h
  unfold refOne_ent at h
  split at h
  · rename_i n w0 w1 w2 w3 w4
    obtain ⟨m, h_m, h⟩ := Option.bind_eq_some_iff.1 h
    obtain ⟨a, h_a, h⟩ := Option.bind_eq_some_iff.1 h
    obtain ⟨b, h_b, h⟩ := Option.bind_eq_some_iff.1 h
    obtain ⟨d, h_d, h⟩ := Option.bind_eq_some_iff.1 h
    obtain ⟨o, h_o, h⟩ := Option.bind_eq_some_iff.1 h
    simp only [Option.some.injEq, Prod.mk.injEq] at h
    obtain ⟨hg, rfl⟩ := h
    exact (refOne_fact n m a b d o hg).args (fun _ _ _ => fun _ h => RVs_two (fun _ h => RV_agg_two (fun _ h => RVs_two (fun _ h => h) (fun _ h => RVs_two (fun _ h => RV_sl (s := (.pair (.int .i64) (.sl (.int .u64)))) h_m h) (fun _ h => h) h) h) h) (fun _ h => RVs_two (fun _ h => RV_agg_two (fun _ h => RVs_two (fun _ h => RV_li h_a h) (fun _ h => RVs_two (fun _ h => RV_li h_b h) (fun _ h => RVs_two (fun _ h => RV_li h_d h) (fun _ h => RVs_two (fun _ h => RV_li h_o h) (fun _ h => h) h) h) h) h) h) (fun _ h => h) h) h)
  · cases h
noncomputable def T_refOne : Tbl := Tbl.cons 60 refOne_ent T_refChoose
theorem T_refOne_ok : CallOk Tryd.prog gTab T_refOne := cons_ok T_refChoose_ok refOne_ok
/-! downpour/downpourref16.Make -/
noncomputable abbrev qd13 : Nat × Option Blk := (0, some ⟨28, .agg [vN, vN, vN, vN], true⟩)
noncomputable abbrev qd14 (fuel : Nat) : Ctx Out := (fnX Tryd.prog mode15 T_refOne fuel 68 0)
noncomputable abbrev qd15 : List (Nat × V) := [(1, .ptr 0 2 0 0), (2, .ptr 1 4 0 0), (3, .ptr 2 4 0 0)]
noncomputable abbrev qd16 : Nat × Option Blk := (1, some ⟨28, .agg [vN, vN, vN, vN], true⟩)
noncomputable abbrev qd17 : Code := (sub (bodyOf Tryd.prog 19) [1, 1, 1, 0, 1, 0, 0])
noncomputable abbrev qd18 (n : Int) (m : List (Int × List Int)) : Nat × Option Blk := (0, some ⟨24, .agg [vI n, vR m], true⟩)
noncomputable abbrev qd19 : List (Nat × V) := [(2, .ptr 0 4 0 0), (3, .ptr 1 4 0 0)]
noncomputable abbrev qd20 : Code := (bodyOf Tryd.prog 19)
noncomputable abbrev qd21 : Nat := 147573952589676412940
noncomputable abbrev qd22 : Nat × V := (2, .ptr 0 4 0 0)
noncomputable abbrev qd23 : Nat × V := (3, .ptr 1 4 0 0)
noncomputable abbrev qd24 : Code := (sub qd20 [1, 1, 0, 0, 0])
noncomputable abbrev qd25 : List Nat := [2, 3, 51, 52]
noncomputable abbrev qd26 : Nat := 295147342229399404622
noncomputable abbrev qd27 : List Nat := [1, 1, 1, 0, 1, 0]
noncomputable abbrev qd28 : Nat × Option Blk := (2, some ⟨28, .agg [vN, vN, vN, vN], true⟩)
noncomputable def refMakeF_s4 {R : Type} (m : List (Int × List Int)) (n : Int) (w0 : List Int) (w1 : Nat) (w2 : List Int) (w3 : Nat) (w4 : List Int) (w5 : Nat) (c0 c1 c2 : Nat → Nat → Nat → List Int → List Int → List Int → Option R) : Option R :=
  grd (okM m && mrt n m && decide (List.length (α := Int) ((w0.drop 0).take w1) ≤ 500) && decide (List.length (α := Int) ((w2.drop 0).take w3) ≤ 500) && decide (List.length (α := Int) ((w4.drop 0).take w5) ≤ 500)) <|
  grd (decide (w3 = (List.length (α := Int) w2) ∧ (List.length (α := Int) w2) ≤ 1000) && decide (w1 = (List.length (α := Int) w0) ∧ (List.length (α := Int) w0) ≤ 1000) && decide (w5 = (List.length (α := Int) w4) ∧ (List.length (α := Int) w4) ≤ 1000)) <|
  grd (okM m && mrt n m && decide (List.length (α := Int) ((w0.drop 0).take w1) ≤ 1000) && decide (List.length (α := Int) (((w2 ++ w4).drop 0).take (List.length (α := Int) (w2 ++ w4))) ≤ 1000)) <|
  br (decide (((oneR m ((w0.drop 0).take w1) (((w2.drop 0).take w3) ++ ((w4.drop 0).take w5))) : Int) ≥ 0))
    (bnd (ix m (oneR m ((w0.drop 0).take w1) (((w2.drop 0).take w3) ++ ((w4.drop 0).take w5)))) fun e0 =>
    grd (decide (w3 = (List.length (α := Int) w2) ∧ (List.length (α := Int) w2) ≤ 1000) && decide (w1 = (List.length (α := Int) w0) ∧ (List.length (α := Int) w0) ≤ 1000) && decide (w5 = (List.length (α := Int) w4) ∧ (List.length (α := Int) w4) ≤ 1000)) <|
    grd (okW e0.2 && rtS e0.1 e0.2 && decide (List.length (α := Int) (((w2 ++ w4).drop 0).take (List.length (α := Int) (w2 ++ w4))) ≤ 1000)) <|
    bnd (ix (refA e0.2 (((w2 ++ w4).drop 0).take (List.length (α := Int) (w2 ++ w4)))) 0) fun e1 =>
    grd (Nat.beq w0.length w1) <|
    grd (okN (w1 + 1) 8) <|
    grd (Nat.beq w4.length w5) <|
    grd (okN (w5 + 1) 8) <|
    c0 w3 ((w0 ++ [(oneR m ((w0.drop 0).take w1) (((w2.drop 0).take w3) ++ ((w4.drop 0).take w5)))]).length) ((w4 ++ [e1]).length) w2 (w0 ++ [(oneR m ((w0.drop 0).take w1) (((w2.drop 0).take w3) ++ ((w4.drop 0).take w5)))]) (w4 ++ [e1]))
    (br (decide (((chsS n m ((w0.drop 0).take w1) (((w2 ++ w4).drop 0).take (List.length (α := Int) (w2 ++ w4)))) : Int) ≥ 0))
      (grd (Nat.beq w2.length w3) <|
      grd (okN (w3 + 1) 8) <|
      c1 ((w2 ++ [(chsS n m ((w0.drop 0).take w1) (((w2 ++ w4).drop 0).take (List.length (α := Int) (w2 ++ w4))))]).length) w1 w5 (w2 ++ [(chsS n m ((w0.drop 0).take w1) (((w2 ++ w4).drop 0).take (List.length (α := Int) (w2 ++ w4))))]) w0 w4)
      (c2 w3 w1 w5 w2 w0 w4))
theorem refMakeF_s4_eq (fuel k : Nat) (K : Ex → St → Option Out) (m : List (Int × List Int)) (n : Int) (w0 : List Int) (w1 : Nat) (w2 : List Int) (w3 : Nat) (w4 : List Int) (w5 : Nat) : lpN qd24 (qd14 fuel) qd26 [1, 2, 3] (k + 1) ⟨qd15, [(qd18 n m), qd16, (2, some ⟨28, .agg [.sl 3 1 0 w3, .sl 4 1 0 w1, .sl 5 1 0 w5, vN], true⟩), (3, bL 3 w2), (4, bL 3 w0), (5, bL 3 w4)], 6, none⟩ K = refMakeF_s4 m n w0 w1 w2 w3 w4 w5 (fun a0 a1 a2 a3 a4 a5 => lpN qd24 (qd14 fuel) qd26 [1, 2, 3] k ⟨qd15, [(qd18 n m), qd16, (2, some ⟨28, .agg [.sl 3 1 0 a0, .sl 4 1 0 a1, .sl 5 1 0 a2, vN], true⟩), (3, bL 3 a3), (4, bL 3 a4), (5, bL 3 a5)], 6, none⟩ K) (fun a6 a7 a8 a9 a10 a11 => lpN qd24 (qd14 fuel) qd26 [1, 2, 3] k ⟨qd15, [(qd18 n m), qd16, (2, some ⟨28, .agg [.sl 3 1 0 a6, .sl 4 1 0 a7, .sl 5 1 0 a8, vN], true⟩), (3, bL 3 a9), (4, bL 3 a10), (5, bL 3 a11)], 6, none⟩ K) (fun a12 a13 a14 a15 a16 a17 => K (.exit 0) ⟨qd15, [(qd18 n m), qd16, (2, some ⟨28, .agg [.sl 3 1 0 a12, .sl 4 1 0 a13, .sl 5 1 0 a14, vN], true⟩), (3, bL 3 a15), (4, bL 3 a16), (5, bL 3 a17)], 6, none⟩) := by kernel_rfl
noncomputable def refMakeF_l3 {R : Type} (fuel : Nat) (n : Int) (m : List (Int × List Int)) (k0 : Nat → Nat → Nat → List Int → List Int → List Int → Option R) : Nat → Nat → Nat → Nat → List Int → List Int → List Int → Option R
  | 0, _, _, _, _, _, _ => none
  | k + 1, w0, w1, w2, w3, w4, w5 =>
    (refMakeF_s4 m n w4 w1 w3 w0 w5 w2 (fun a0 a1 a2 a3 a4 a5 => ( refMakeF_l3 fuel n m k0 k a0 a1 a2 a3 a4 a5 )) (fun a6 a7 a8 a9 a10 a11 => ( refMakeF_l3 fuel n m k0 k a6 a7 a8 a9 a10 a11 )) (fun a12 a13 a14 a15 a16 a17 => k0 a12 a13 a14 a15 a16 a17))
theorem refMakeF_l3_eq (fuel : Nat) (n : Int) (m : List (Int × List Int)) (K : Ex → St → Option Out) : ∀ (k w0 w1 w2 : Nat) (w3 w4 w5 : List Int), lpN qd24 (qd14 fuel) qd26 [1, 2, 3] k ⟨qd15, [(qd18 n m), qd16, (2, some ⟨28, .agg [.sl 3 1 0 w0, .sl 4 1 0 w1, .sl 5 1 0 w2, vN], true⟩), (3, bL 3 w3), (4, bL 3 w4), (5, bL 3 w5)], 6, none⟩ K = refMakeF_l3 fuel n m (fun y0 y1 y2 y3 y4 y5 => K (.exit 0) ⟨qd15, [(qd18 n m), qd16, (2, some ⟨28, .agg [.sl 3 1 0 y0, .sl 4 1 0 y1, .sl 5 1 0 y2, vN], true⟩), (3, bL 3 y3), (4, bL 3 y4), (5, bL 3 y5)], 6, none⟩) k w0 w1 w2 w3 w4 w5
  | 0, _, _, _, _, _, _ => rfl
  | k + 1, w0, w1, w2, w3, w4, w5 => by
    unfold refMakeF_l3
    exact (refMakeF_s4_eq fuel k K m n w4 w1 w3 w0 w5 w2).trans (congr (congr (congr (Eq.refl (refMakeF_s4 (R := Out) m n w4 w1 w3 w0 w5 w2)) (funext fun a0 => funext fun a1 => funext fun a2 => funext fun a3 => funext fun a4 => funext fun a5 => refMakeF_l3_eq fuel n m K k a0 a1 a2 a3 a4 a5)) (funext fun a6 => funext fun a7 => funext fun a8 => funext fun a9 => funext fun a10 => funext fun a11 => refMakeF_l3_eq fuel n m K k a6 a7 a8 a9 a10 a11)) (rfl))
noncomputable def refMakeF_s3 {R : Type} (m : List (Int × List Int)) (n : Int) (w0 : List Int) (w1 : Nat) (w2 : List Int) (w3 : Nat) (c0 : Nat → Nat → List Int → List Int → Option R) (c1 : Nat → Nat → Nat → List Int → List Int → List Int → Option R) (c2 : Nat → Nat → List Int → List Int → Option R) : Option R :=
  grd (okM m && mrt n m && decide (List.length (α := Int) ((w0.drop 0).take w1) ≤ 500) && decide (List.length (α := Int) ([]) ≤ 500) && decide (List.length (α := Int) ((w2.drop 0).take w3) ≤ 500)) <|
  grd (decide (w1 = (List.length (α := Int) w0) ∧ (List.length (α := Int) w0) ≤ 1000) && decide (w3 = (List.length (α := Int) w2) ∧ (List.length (α := Int) w2) ≤ 1000)) <|
  grd (okM m && mrt n m && decide (List.length (α := Int) ((w0.drop 0).take w1) ≤ 1000) && decide (List.length (α := Int) ((([] ++ w2).drop 0).take (List.length (α := Int) ([] ++ w2))) ≤ 1000)) <|
  br (decide (((oneR m ((w0.drop 0).take w1) (([]) ++ ((w2.drop 0).take w3))) : Int) ≥ 0))
    (bnd (ix m (oneR m ((w0.drop 0).take w1) (([]) ++ ((w2.drop 0).take w3)))) fun e0 =>
    grd (decide (w1 = (List.length (α := Int) w0) ∧ (List.length (α := Int) w0) ≤ 1000) && decide (w3 = (List.length (α := Int) w2) ∧ (List.length (α := Int) w2) ≤ 1000)) <|
    grd (okW e0.2 && rtS e0.1 e0.2 && decide (List.length (α := Int) ((([] ++ w2).drop 0).take (List.length (α := Int) ([] ++ w2))) ≤ 1000)) <|
    bnd (ix (refA e0.2 ((([] ++ w2).drop 0).take (List.length (α := Int) ([] ++ w2)))) 0) fun e1 =>
    grd (Nat.beq w0.length w1) <|
    grd (okN (w1 + 1) 8) <|
    grd (Nat.beq w2.length w3) <|
    grd (okN (w3 + 1) 8) <|
    c0 ((w0 ++ [(oneR m ((w0.drop 0).take w1) (([]) ++ ((w2.drop 0).take w3)))]).length) ((w2 ++ [e1]).length) (w0 ++ [(oneR m ((w0.drop 0).take w1) (([]) ++ ((w2.drop 0).take w3)))]) (w2 ++ [e1]))
    (br (decide (((chsS n m ((w0.drop 0).take w1) ((([] ++ w2).drop 0).take (List.length (α := Int) ([] ++ w2)))) : Int) ≥ 0))
      (c1 1 w1 w3 ([(chsS n m ((w0.drop 0).take w1) ((([] ++ w2).drop 0).take (List.length (α := Int) ([] ++ w2))))]) w0 w2)
      (c2 w1 w3 w0 w2))
theorem refMakeF_s3_eq (fuel k : Nat) (K : Ex → St → Option Out) (m : List (Int × List Int)) (n : Int) (w0 : List Int) (w1 : Nat) (w2 : List Int) (w3 : Nat) : lpN qd24 (qd14 fuel) qd26 [1, 2, 3] (k + 1) ⟨qd15, [(qd18 n m), qd16, (2, some ⟨28, .agg [vN, .sl 3 1 0 w1, .sl 4 1 0 w3, vN], true⟩), (3, bL 3 w0), (4, bL 3 w2)], 5, none⟩ K = refMakeF_s3 m n w0 w1 w2 w3 (fun a0 a1 a2 a3 => lpN qd24 (qd14 fuel) qd26 [1, 2, 3] k ⟨qd15, [(qd18 n m), qd16, (2, some ⟨28, .agg [vN, .sl 3 1 0 a0, .sl 4 1 0 a1, vN], true⟩), (3, bL 3 a2), (4, bL 3 a3)], 5, none⟩ K) (fun a4 a5 a6 a7 a8 a9 => lpN qd24 (qd14 fuel) qd26 [1, 2, 3] k ⟨qd15, [(qd18 n m), qd16, (2, some ⟨28, .agg [.sl 3 1 0 a4, .sl 4 1 0 a5, .sl 5 1 0 a6, vN], true⟩), (3, bL 3 a7), (4, bL 3 a8), (5, bL 3 a9)], 6, none⟩ K) (fun a10 a11 a12 a13 => K (.exit 0) ⟨qd15, [(qd18 n m), qd16, (2, some ⟨28, .agg [vN, .sl 3 1 0 a10, .sl 4 1 0 a11, vN], true⟩), (3, bL 3 a12), (4, bL 3 a13)], 5, none⟩) := by kernel_rfl
noncomputable def refMakeF_l2 {R : Type} (fuel : Nat) (n : Int) (m : List (Int × List Int)) (k0 : Nat → Nat → Nat → List Int → List Int → List Int → Option R) (k1 : Nat → Nat → List Int → List Int → Option R) : Nat → Nat → Nat → List Int → List Int → Option R
  | 0, _, _, _, _ => none
  | k + 1, w0, w1, w2, w3 =>
    (refMakeF_s3 m n w2 w0 w3 w1 (fun a0 a1 a2 a3 => ( refMakeF_l2 fuel n m k0 k1 k a0 a1 a2 a3 )) (fun a4 a5 a6 a7 a8 a9 => (refMakeF_l3 fuel n m (fun x0 x1 x2 x3 x4 x5 => k0 x0 x1 x2 x3 x4 x5) k a4 a5 a6 a7 a8 a9)) (fun a10 a11 a12 a13 => k1 a10 a11 a12 a13))
theorem refMakeF_l2_eq (fuel : Nat) (n : Int) (m : List (Int × List Int)) (K : Ex → St → Option Out) : ∀ (k w0 w1 : Nat) (w2 w3 : List Int), lpN qd24 (qd14 fuel) qd26 [1, 2, 3] k ⟨qd15, [(qd18 n m), qd16, (2, some ⟨28, .agg [vN, .sl 3 1 0 w0, .sl 4 1 0 w1, vN], true⟩), (3, bL 3 w2), (4, bL 3 w3)], 5, none⟩ K = refMakeF_l2 fuel n m (fun y0 y1 y2 y3 y4 y5 => K (.exit 0) ⟨qd15, [(qd18 n m), qd16, (2, some ⟨28, .agg [.sl 3 1 0 y0, .sl 4 1 0 y1, .sl 5 1 0 y2, vN], true⟩), (3, bL 3 y3), (4, bL 3 y4), (5, bL 3 y5)], 6, none⟩) (fun y6 y7 y8 y9 => K (.exit 0) ⟨qd15, [(qd18 n m), qd16, (2, some ⟨28, .agg [vN, .sl 3 1 0 y6, .sl 4 1 0 y7, vN], true⟩), (3, bL 3 y8), (4, bL 3 y9)], 5, none⟩) k w0 w1 w2 w3
  | 0, _, _, _, _ => rfl
  | k + 1, w0, w1, w2, w3 => by
    unfold refMakeF_l2
    exact (refMakeF_s3_eq fuel k K m n w2 w0 w3 w1).trans (congr (congr (congr (Eq.refl (refMakeF_s3 (R := Out) m n w2 w0 w3 w1)) (funext fun a0 => funext fun a1 => funext fun a2 => funext fun a3 => refMakeF_l2_eq fuel n m K k a0 a1 a2 a3)) (funext fun a4 => funext fun a5 => funext fun a6 => funext fun a7 => funext fun a8 => funext fun a9 => refMakeF_l3_eq fuel n m K k a4 a5 a6 a7 a8 a9)) (rfl))
noncomputable def refMakeF_s5 {R : Type} (m : List (Int × List Int)) (n : Int) (w0 : List Int) (w1 : Nat) (c0 : Nat → Nat → Nat → List Int → List Int → List Int → Option R) (c1 c2 : Nat → List Int → Option R) : Option R :=
  grd (okM m && mrt n m && decide (List.length (α := Int) ([]) ≤ 500) && decide (List.length (α := Int) ((w0.drop 0).take w1) ≤ 500) && decide (List.length (α := Int) ([]) ≤ 500)) <|
  grd (decide (w1 = (List.length (α := Int) w0) ∧ (List.length (α := Int) w0) ≤ 1000)) <|
  grd (okM m && mrt n m && decide (List.length (α := Int) ([]) ≤ 1000) && decide (List.length (α := Int) (((w0 ++ []).drop 0).take (List.length (α := Int) (w0 ++ []))) ≤ 1000)) <|
  br (decide (((oneR m ([]) (((w0.drop 0).take w1) ++ ([]))) : Int) ≥ 0))
    (bnd (ix m (oneR m ([]) (((w0.drop 0).take w1) ++ ([])))) fun e0 =>
    grd (decide (w1 = (List.length (α := Int) w0) ∧ (List.length (α := Int) w0) ≤ 1000)) <|
    grd (okW e0.2 && rtS e0.1 e0.2 && decide (List.length (α := Int) (((w0 ++ []).drop 0).take (List.length (α := Int) (w0 ++ []))) ≤ 1000)) <|
    bnd (ix (refA e0.2 (((w0 ++ []).drop 0).take (List.length (α := Int) (w0 ++ [])))) 0) fun e1 =>
    c0 w1 1 1 w0 ([(oneR m ([]) (((w0.drop 0).take w1) ++ ([])))]) ([e1]))
    (br (decide (((chsS n m ([]) (((w0 ++ []).drop 0).take (List.length (α := Int) (w0 ++ [])))) : Int) ≥ 0))
      (grd (Nat.beq w0.length w1) <|
      grd (okN (w1 + 1) 8) <|
      c1 ((w0 ++ [(chsS n m ([]) (((w0 ++ []).drop 0).take (List.length (α := Int) (w0 ++ []))))]).length) (w0 ++ [(chsS n m ([]) (((w0 ++ []).drop 0).take (List.length (α := Int) (w0 ++ []))))]))
      (c2 w1 w0))
theorem refMakeF_s5_eq (fuel k : Nat) (K : Ex → St → Option Out) (m : List (Int × List Int)) (n : Int) (w0 : List Int) (w1 : Nat) : lpN qd24 (qd14 fuel) qd26 [1, 2, 3] (k + 1) ⟨qd15, [(qd18 n m), qd16, (2, some ⟨28, .agg [.sl 3 1 0 w1, vN, vN, vN], true⟩), (3, bL 3 w0)], 4, none⟩ K = refMakeF_s5 m n w0 w1 (fun a0 a1 a2 a3 a4 a5 => lpN qd24 (qd14 fuel) qd26 [1, 2, 3] k ⟨qd15, [(qd18 n m), qd16, (2, some ⟨28, .agg [.sl 3 1 0 a0, .sl 4 1 0 a1, .sl 5 1 0 a2, vN], true⟩), (3, bL 3 a3), (4, bL 3 a4), (5, bL 3 a5)], 6, none⟩ K) (fun a6 a7 => lpN qd24 (qd14 fuel) qd26 [1, 2, 3] k ⟨qd15, [(qd18 n m), qd16, (2, some ⟨28, .agg [.sl 3 1 0 a6, vN, vN, vN], true⟩), (3, bL 3 a7)], 4, none⟩ K) (fun a8 a9 => K (.exit 0) ⟨qd15, [(qd18 n m), qd16, (2, some ⟨28, .agg [.sl 3 1 0 a8, vN, vN, vN], true⟩), (3, bL 3 a9)], 4, none⟩) := by kernel_rfl
noncomputable def refMakeF_l4 {R : Type} (fuel : Nat) (n : Int) (m : List (Int × List Int)) (k0 : Nat → Nat → Nat → List Int → List Int → List Int → Option R) (k1 : Nat → List Int → Option R) : Nat → Nat → List Int → Option R
  | 0, _, _ => none
  | k + 1, w0, w1 =>
    (refMakeF_s5 m n w1 w0 (fun a0 a1 a2 a3 a4 a5 => (refMakeF_l3 fuel n m (fun x0 x1 x2 x3 x4 x5 => k0 x0 x1 x2 x3 x4 x5) k a0 a1 a2 a3 a4 a5)) (fun a6 a7 => ( refMakeF_l4 fuel n m k0 k1 k a6 a7 )) (fun a8 a9 => k1 a8 a9))
theorem refMakeF_l4_eq (fuel : Nat) (n : Int) (m : List (Int × List Int)) (K : Ex → St → Option Out) : ∀ (k w0 : Nat) (w1 : List Int), lpN qd24 (qd14 fuel) qd26 [1, 2, 3] k ⟨qd15, [(qd18 n m), qd16, (2, some ⟨28, .agg [.sl 3 1 0 w0, vN, vN, vN], true⟩), (3, bL 3 w1)], 4, none⟩ K = refMakeF_l4 fuel n m (fun y0 y1 y2 y3 y4 y5 => K (.exit 0) ⟨qd15, [(qd18 n m), qd16, (2, some ⟨28, .agg [.sl 3 1 0 y0, .sl 4 1 0 y1, .sl 5 1 0 y2, vN], true⟩), (3, bL 3 y3), (4, bL 3 y4), (5, bL 3 y5)], 6, none⟩) (fun y6 y7 => K (.exit 0) ⟨qd15, [(qd18 n m), qd16, (2, some ⟨28, .agg [.sl 3 1 0 y6, vN, vN, vN], true⟩), (3, bL 3 y7)], 4, none⟩) k w0 w1
  | 0, _, _ => rfl
  | k + 1, w0, w1 => by
    unfold refMakeF_l4
    exact (refMakeF_s5_eq fuel k K m n w1 w0).trans (congr (congr (congr (Eq.refl (refMakeF_s5 (R := Out) m n w1 w0)) (funext fun a0 => funext fun a1 => funext fun a2 => funext fun a3 => funext fun a4 => funext fun a5 => refMakeF_l3_eq fuel n m K k a0 a1 a2 a3 a4 a5)) (funext fun a6 => funext fun a7 => refMakeF_l4_eq fuel n m K k a6 a7)) (rfl))
noncomputable def refMakeF_s2 {R : Type} (m : List (Int × List Int)) (n : Int) (c0 : Nat → Nat → List Int → List Int → Option R) (c1 : Nat → List Int → Option R) (c2 : Option R) : Option R :=
  grd (okM m && mrt n m && decide (List.length (α := Int) ([]) ≤ 500) && decide (List.length (α := Int) ([]) ≤ 500) && decide (List.length (α := Int) ([]) ≤ 500)) <|
  grd (decide ((List.length (α := Int) ([])) ≤ 1000) && decide ((List.length (α := Int) ([])) ≤ 1000)) <|
  grd (okM m && mrt n m && decide (List.length (α := Int) ([]) ≤ 1000) && decide (List.length (α := Int) (((([]) ++ ([])).drop 0).take (List.length (α := Int) (([]) ++ ([])))) ≤ 1000)) <|
  br (decide (((oneR m ([]) (([]) ++ ([]))) : Int) ≥ 0))
    (bnd (ix m (oneR m ([]) (([]) ++ ([])))) fun e0 =>
    grd (decide ((List.length (α := Int) ([])) ≤ 1000) && decide ((List.length (α := Int) ([])) ≤ 1000)) <|
    grd (okW e0.2 && rtS e0.1 e0.2 && decide (List.length (α := Int) (((([]) ++ ([])).drop 0).take (List.length (α := Int) (([]) ++ ([])))) ≤ 1000)) <|
    bnd (ix (refA e0.2 (((([]) ++ ([])).drop 0).take (List.length (α := Int) (([]) ++ ([]))))) 0) fun e1 =>
    c0 1 1 ([(oneR m ([]) (([]) ++ ([])))]) ([e1]))
    (br (decide (((chsS n m ([]) (((([]) ++ ([])).drop 0).take (List.length (α := Int) (([]) ++ ([]))))) : Int) ≥ 0))
      (c1 1 ([(chsS n m ([]) (((([]) ++ ([])).drop 0).take (List.length (α := Int) (([]) ++ ([])))))]))
      (c2))
theorem refMakeF_s2_eq (fuel k : Nat) (K : Ex → St → Option Out) (m : List (Int × List Int)) (n : Int) : lpN qd24 (qd14 fuel) qd26 [1, 2, 3] (k + 1) ⟨qd15, [(qd18 n m), qd16, qd28], 3, none⟩ K = refMakeF_s2 m n (fun a0 a1 a2 a3 => lpN qd24 (qd14 fuel) qd26 [1, 2, 3] k ⟨qd15, [(qd18 n m), qd16, (2, some ⟨28, .agg [vN, .sl 3 1 0 a0, .sl 4 1 0 a1, vN], true⟩), (3, bL 3 a2), (4, bL 3 a3)], 5, none⟩ K) (fun a4 a5 => lpN qd24 (qd14 fuel) qd26 [1, 2, 3] k ⟨qd15, [(qd18 n m), qd16, (2, some ⟨28, .agg [.sl 3 1 0 a4, vN, vN, vN], true⟩), (3, bL 3 a5)], 4, none⟩ K) (K (.exit 0) ⟨qd15, [(qd18 n m), qd16, qd28], 3, none⟩) := by kernel_rfl
noncomputable def refMakeF_l1 {R : Type} (fuel : Nat) (n : Int) (m : List (Int × List Int)) (k0 : Nat → Nat → Nat → List Int → List Int → List Int → Option R) (k1 : Nat → Nat → List Int → List Int → Option R) (k2 : Nat → List Int → Option R) (k3 : Option R) : Nat → Option R
  | 0 => none
  | k + 1 =>
    (refMakeF_s2 m n (fun a0 a1 a2 a3 => (refMakeF_l2 fuel n m (fun x0 x1 x2 x3 x4 x5 => k0 x0 x1 x2 x3 x4 x5) (fun x6 x7 x8 x9 => k1 x6 x7 x8 x9) k a0 a1 a2 a3)) (fun a4 a5 => (refMakeF_l4 fuel n m (fun x10 x11 x12 x13 x14 x15 => k0 x10 x11 x12 x13 x14 x15) (fun x16 x17 => k2 x16 x17) k a4 a5)) (k3))
theorem refMakeF_l1_eq (fuel : Nat) (n : Int) (m : List (Int × List Int)) (K : Ex → St → Option Out) : ∀ (k : Nat) , lpN qd24 (qd14 fuel) qd26 [1, 2, 3] k ⟨qd15, [(qd18 n m), qd16, qd28], 3, none⟩ K = refMakeF_l1 fuel n m (fun y0 y1 y2 y3 y4 y5 => K (.exit 0) ⟨qd15, [(qd18 n m), qd16, (2, some ⟨28, .agg [.sl 3 1 0 y0, .sl 4 1 0 y1, .sl 5 1 0 y2, vN], true⟩), (3, bL 3 y3), (4, bL 3 y4), (5, bL 3 y5)], 6, none⟩) (fun y6 y7 y8 y9 => K (.exit 0) ⟨qd15, [(qd18 n m), qd16, (2, some ⟨28, .agg [vN, .sl 3 1 0 y6, .sl 4 1 0 y7, vN], true⟩), (3, bL 3 y8), (4, bL 3 y9)], 5, none⟩) (fun y10 y11 => K (.exit 0) ⟨qd15, [(qd18 n m), qd16, (2, some ⟨28, .agg [.sl 3 1 0 y10, vN, vN, vN], true⟩), (3, bL 3 y11)], 4, none⟩) (K (.exit 0) ⟨qd15, [(qd18 n m), qd16, qd28], 3, none⟩) k 
  | 0 => rfl
  | k + 1 => by
    unfold refMakeF_l1
    exact (refMakeF_s2_eq fuel k K m n).trans (congr (congr (congr (Eq.refl (refMakeF_s2 (R := Out) m n)) (funext fun a0 => funext fun a1 => funext fun a2 => funext fun a3 => refMakeF_l2_eq fuel n m K k a0 a1 a2 a3)) (funext fun a4 => funext fun a5 => refMakeF_l4_eq fuel n m K k a4 a5)) (rfl))
noncomputable def refMakeF_s8 {R : Type} (w0 w1 : Int) (x0 : List Int) (x1 : Nat) (w2 : List Int) (w3 x2 x3 : Nat) (x4 x5 : List Int) (c0 c1 : Int → Nat → List Int → Option R) (c2 : Nat → List Int → Option R) : Option R :=
  br (decide (w0 < w1))
    (grd (decide (List.length (α := Int) ((x0.drop 0).take x1) ≤ 1000000)) <|
    br (!(inL ((x0.drop 0).take x1) w0))
      (grd (Nat.beq w2.length w3) <|
      grd (okN (w3 + 1) 8) <|
      c0 (IntKind.i64.wrap (w0 + 1)) ((w2 ++ [w0]).length) (w2 ++ [w0]))
      (c1 (IntKind.i64.wrap (w0 + 1)) w3 w2))
    (c2 w3 w2)
theorem refMakeF_s8_eq (fuel k : Nat) (K : Ex → St → Option Out) (w0 w1 : Int) (x0 : List Int) (x1 : Nat) (w2 : List Int) (w3 x2 x3 : Nat) (x4 x5 : List Int) : lpN qd17 (qd14 fuel) qd21 qd25 (k + 1) ⟨[qd22, qd23, (51, vI w1), (52, vI w0)], [qd13, (1, some ⟨28, .agg [.sl 2 1 0 x2, .sl 3 1 0 x1, .sl 4 1 0 x3, .sl 5 1 0 w3], true⟩), (2, bL 3 x4), (3, bL 3 x0), (4, bL 3 x5), (5, bL 3 w2)], 6, none⟩ K = refMakeF_s8 w0 w1 x0 x1 w2 w3 x2 x3 x4 x5 (fun a0 a1 a2 => lpN qd17 (qd14 fuel) qd21 qd25 k ⟨[qd22, qd23, (51, vI w1), (52, vI a0)], [qd13, (1, some ⟨28, .agg [.sl 2 1 0 x2, .sl 3 1 0 x1, .sl 4 1 0 x3, .sl 5 1 0 a1], true⟩), (2, bL 3 x4), (3, bL 3 x0), (4, bL 3 x5), (5, bL 3 a2)], 6, none⟩ K) (fun a3 a4 a5 => lpN qd17 (qd14 fuel) qd21 qd25 k ⟨[qd22, qd23, (51, vI w1), (52, vI a3)], [qd13, (1, some ⟨28, .agg [.sl 2 1 0 x2, .sl 3 1 0 x1, .sl 4 1 0 x3, .sl 5 1 0 a4], true⟩), (2, bL 3 x4), (3, bL 3 x0), (4, bL 3 x5), (5, bL 3 a5)], 6, none⟩ K) (fun a6 a7 => K (.exit 2) ⟨qd19, [qd13, (1, some ⟨28, .agg [.sl 2 1 0 x2, .sl 3 1 0 x1, .sl 4 1 0 x3, .sl 5 1 0 a6], true⟩), (2, bL 3 x4), (3, bL 3 x0), (4, bL 3 x5), (5, bL 3 a7)], 6, none⟩) := by kernel_rfl
noncomputable def refMakeF_l6 {R : Type} (fuel : Nat) (w0 : Int) (x0 x1 x2 : Nat) (x3 x4 x5 : List Int) (k0 : Nat → List Int → Option R) : Nat → Int → Nat → List Int → Option R
  | 0, _, _, _ => none
  | k + 1, w1, w2, w3 =>
    (refMakeF_s8 w1 w0 x4 x1 w3 w2 x0 x2 x3 x5 (fun a0 a1 a2 => ( refMakeF_l6 fuel w0 x0 x1 x2 x3 x4 x5 k0 k a0 a1 a2 )) (fun a3 a4 a5 => ( refMakeF_l6 fuel w0 x0 x1 x2 x3 x4 x5 k0 k a3 a4 a5 )) (fun a6 a7 => k0 a6 a7))
theorem refMakeF_l6_eq (fuel : Nat) (w0 : Int) (x0 x1 x2 : Nat) (x3 x4 x5 : List Int) (K : Ex → St → Option Out) : ∀ (k : Nat) (w1 : Int) (w2 : Nat) (w3 : List Int), lpN qd17 (qd14 fuel) qd21 qd25 k ⟨[qd22, qd23, (51, vI w0), (52, vI w1)], [qd13, (1, some ⟨28, .agg [.sl 2 1 0 x0, .sl 3 1 0 x1, .sl 4 1 0 x2, .sl 5 1 0 w2], true⟩), (2, bL 3 x3), (3, bL 3 x4), (4, bL 3 x5), (5, bL 3 w3)], 6, none⟩ K = refMakeF_l6 fuel w0 x0 x1 x2 x3 x4 x5 (fun y0 y1 => K (.exit 2) ⟨qd19, [qd13, (1, some ⟨28, .agg [.sl 2 1 0 x0, .sl 3 1 0 x1, .sl 4 1 0 x2, .sl 5 1 0 y0], true⟩), (2, bL 3 x3), (3, bL 3 x4), (4, bL 3 x5), (5, bL 3 y1)], 6, none⟩) k w1 w2 w3
  | 0, _, _, _ => rfl
  | k + 1, w1, w2, w3 => by
    unfold refMakeF_l6
    exact (refMakeF_s8_eq fuel k K w1 w0 x4 x1 w3 w2 x0 x2 x3 x5).trans (congr (congr (congr (Eq.refl (refMakeF_s8 (R := Out) w1 w0 x4 x1 w3 w2 x0 x2 x3 x5)) (funext fun a0 => funext fun a1 => funext fun a2 => refMakeF_l6_eq fuel w0 x0 x1 x2 x3 x4 x5 K k a0 a1 a2)) (funext fun a3 => funext fun a4 => funext fun a5 => refMakeF_l6_eq fuel w0 x0 x1 x2 x3 x4 x5 K k a3 a4 a5)) (rfl))
noncomputable def refMakeF_s7 {R : Type} (w0 w1 : Int) (x0 : List Int) (x1 x2 x3 : Nat) (x4 x5 : List Int) (c0 : Int → Nat → List Int → Option R) (c1 : Int → Int → Option R) (c2 : Option R) : Option R :=
  br (decide (w0 < w1))
    (grd (decide (List.length (α := Int) ((x0.drop 0).take x1) ≤ 1000000)) <|
    br (!(inL ((x0.drop 0).take x1) w0))
      (c0 (IntKind.i64.wrap (w0 + 1)) 1 ([w0]))
      (c1 w1 (IntKind.i64.wrap (w0 + 1))))
    (c2)
theorem refMakeF_s7_eq (fuel k : Nat) (K : Ex → St → Option Out) (w0 w1 : Int) (x0 : List Int) (x1 x2 x3 : Nat) (x4 x5 : List Int) : lpN qd17 (qd14 fuel) qd21 qd25 (k + 1) ⟨[qd22, qd23, (51, vI w1), (52, vI w0)], [qd13, (1, some ⟨28, .agg [.sl 2 1 0 x2, .sl 3 1 0 x1, .sl 4 1 0 x3, vN], true⟩), (2, bL 3 x4), (3, bL 3 x0), (4, bL 3 x5)], 5, none⟩ K = refMakeF_s7 w0 w1 x0 x1 x2 x3 x4 x5 (fun a0 a1 a2 => lpN qd17 (qd14 fuel) qd21 qd25 k ⟨[qd22, qd23, (51, vI w1), (52, vI a0)], [qd13, (1, some ⟨28, .agg [.sl 2 1 0 x2, .sl 3 1 0 x1, .sl 4 1 0 x3, .sl 5 1 0 a1], true⟩), (2, bL 3 x4), (3, bL 3 x0), (4, bL 3 x5), (5, bL 3 a2)], 6, none⟩ K) (fun a3 a4 => lpN qd17 (qd14 fuel) qd21 qd25 k ⟨[qd22, qd23, (51, vI a3), (52, vI a4)], [qd13, (1, some ⟨28, .agg [.sl 2 1 0 x2, .sl 3 1 0 x1, .sl 4 1 0 x3, vN], true⟩), (2, bL 3 x4), (3, bL 3 x0), (4, bL 3 x5)], 5, none⟩ K) (K (.exit 2) ⟨qd19, [qd13, (1, some ⟨28, .agg [.sl 2 1 0 x2, .sl 3 1 0 x1, .sl 4 1 0 x3, vN], true⟩), (2, bL 3 x4), (3, bL 3 x0), (4, bL 3 x5)], 5, none⟩) := by kernel_rfl
noncomputable def refMakeF_l5 {R : Type} (fuel x0 x1 x2 : Nat) (x3 x4 x5 : List Int) (k0 : Nat → List Int → Option R) (k1 : Option R) : Nat → Int → Int → Option R
  | 0, _, _ => none
  | k + 1, w0, w1 =>
    (refMakeF_s7 w1 w0 x4 x1 x0 x2 x3 x5 (fun a0 a1 a2 => (refMakeF_l6 fuel w0 x0 x1 x2 x3 x4 x5 (fun x6 x7 => k0 x6 x7) k a0 a1 a2)) (fun a3 a4 => ( refMakeF_l5 fuel x0 x1 x2 x3 x4 x5 k0 k1 k a3 a4 )) (k1))
theorem refMakeF_l5_eq (fuel x0 x1 x2 : Nat) (x3 x4 x5 : List Int) (K : Ex → St → Option Out) : ∀ (k : Nat) (w0 w1 : Int), lpN qd17 (qd14 fuel) qd21 qd25 k ⟨[qd22, qd23, (51, vI w0), (52, vI w1)], [qd13, (1, some ⟨28, .agg [.sl 2 1 0 x0, .sl 3 1 0 x1, .sl 4 1 0 x2, vN], true⟩), (2, bL 3 x3), (3, bL 3 x4), (4, bL 3 x5)], 5, none⟩ K = refMakeF_l5 fuel x0 x1 x2 x3 x4 x5 (fun y0 y1 => K (.exit 2) ⟨qd19, [qd13, (1, some ⟨28, .agg [.sl 2 1 0 x0, .sl 3 1 0 x1, .sl 4 1 0 x2, .sl 5 1 0 y0], true⟩), (2, bL 3 x3), (3, bL 3 x4), (4, bL 3 x5), (5, bL 3 y1)], 6, none⟩) (K (.exit 2) ⟨qd19, [qd13, (1, some ⟨28, .agg [.sl 2 1 0 x0, .sl 3 1 0 x1, .sl 4 1 0 x2, vN], true⟩), (2, bL 3 x3), (3, bL 3 x4), (4, bL 3 x5)], 5, none⟩) k w0 w1
  | 0, _, _ => rfl
  | k + 1, w0, w1 => by
    unfold refMakeF_l5
    exact (refMakeF_s7_eq fuel k K w1 w0 x4 x1 x0 x2 x3 x5).trans (congr (congr (congr (Eq.refl (refMakeF_s7 (R := Out) w1 w0 x4 x1 x0 x2 x3 x5)) (funext fun a0 => funext fun a1 => funext fun a2 => refMakeF_l6_eq fuel w0 x0 x1 x2 x3 x4 x5 K k a0 a1 a2)) (funext fun a3 => funext fun a4 => refMakeF_l5_eq fuel x0 x1 x2 x3 x4 x5 K k a3 a4)) (rfl))
noncomputable def refMakeF_s9 {R : Type} (x0 : List Int) (x1 : Nat) (x2 : List Int) (x3 : Nat) (x4 : List Int) (x5 : Nat) (x6 : List Int) (x7 : Nat) (c0 : List Int → List Int → List Int → List Int → Option R) : Option R :=
  c0 ((x0.drop 0).take x1) ((x2.drop 0).take x3) ((x4.drop 0).take x5) ((x6.drop 0).take x7)
theorem refMakeF_s9_eq (fuel : Nat)  (x0 : List Int) (x1 : Nat) (x2 : List Int) (x3 : Nat) (x4 : List Int) (x5 : Nat) (x6 : List Int) (x7 : Nat) : (kont (qd14 fuel) qd20 qd27 4 (endK Tryd.prog 0 0 19)) (.exit 2) ⟨qd19, [qd13, (1, some ⟨28, .agg [.sl 2 1 0 x1, .sl 3 1 0 x3, .sl 4 1 0 x5, .sl 5 1 0 x7], true⟩), (2, bL 3 x0), (3, bL 3 x2), (4, bL 3 x4), (5, bL 3 x6)], 6, none⟩ = refMakeF_s9 x0 x1 x2 x3 x4 x5 x6 x7 (fun a0 a1 a2 a3 => some (.agg [vL a0, vL a1, vL a2, vL a3], [])) := by kernel_rfl
noncomputable def refMakeF_s10 {R : Type} (x0 : List Int) (x1 : Nat) (x2 : List Int) (x3 : Nat) (x4 : List Int) (x5 : Nat) (c0 : List Int → List Int → List Int → Option R) : Option R :=
  c0 ((x0.drop 0).take x1) ((x2.drop 0).take x3) ((x4.drop 0).take x5)
theorem refMakeF_s10_eq (fuel : Nat)  (x0 : List Int) (x1 : Nat) (x2 : List Int) (x3 : Nat) (x4 : List Int) (x5 : Nat) : (kont (qd14 fuel) qd20 qd27 4 (endK Tryd.prog 0 0 19)) (.exit 2) ⟨qd19, [qd13, (1, some ⟨28, .agg [.sl 2 1 0 x1, .sl 3 1 0 x3, .sl 4 1 0 x5, vN], true⟩), (2, bL 3 x0), (3, bL 3 x2), (4, bL 3 x4)], 5, none⟩ = refMakeF_s10 x0 x1 x2 x3 x4 x5 (fun a0 a1 a2 => some (.agg [vL a0, vL a1, vL a2, vN], [])) := by kernel_rfl
noncomputable def refMakeF_s6 {R : Type} (m : List (Int × List Int)) (n : Int) (x0 x1 x2 : Nat) (x3 x4 x5 : List Int) (c0 : Int → Int → Option R) : Option R :=
  c0 ((m.length : Nat) : Int) 0
theorem refMakeF_s6_eq (fuel : Nat)  (m : List (Int × List Int)) (n : Int) (x0 x1 x2 : Nat) (x3 x4 x5 : List Int) : (kont (qd14 fuel) qd20 [1, 1, 0, 0] 4 (endK Tryd.prog 0 0 19)) (.exit 0) ⟨qd15, [(qd18 n m), qd16, (2, some ⟨28, .agg [.sl 3 1 0 x0, .sl 4 1 0 x1, .sl 5 1 0 x2, vN], true⟩), (3, bL 3 x3), (4, bL 3 x4), (5, bL 3 x5)], 6, none⟩ = refMakeF_s6 m n x0 x1 x2 x3 x4 x5 (fun a0 a1 => lpN qd17 (qd14 fuel) qd21 qd25 fuel ⟨[qd22, qd23, (51, vI a0), (52, vI a1)], [qd13, (1, some ⟨28, .agg [.sl 2 1 0 x0, .sl 3 1 0 x1, .sl 4 1 0 x2, vN], true⟩), (2, bL 3 x3), (3, bL 3 x4), (4, bL 3 x5)], 5, none⟩ (kont (qd14 fuel) qd20 qd27 4 (endK Tryd.prog 0 0 19))) := by kernel_rfl
noncomputable def refMakeF_s13 {R : Type} (w0 w1 : Int) (x0 : List Int) (x1 : Nat) (w2 : List Int) (w3 x2 : Nat) (x3 : List Int) (c0 c1 : Int → Nat → List Int → Option R) (c2 : Nat → List Int → Option R) : Option R :=
  br (decide (w0 < w1))
    (grd (decide (List.length (α := Int) ((x0.drop 0).take x1) ≤ 1000000)) <|
    br (!(inL ((x0.drop 0).take x1) w0))
      (grd (Nat.beq w2.length w3) <|
      grd (okN (w3 + 1) 8) <|
      c0 (IntKind.i64.wrap (w0 + 1)) ((w2 ++ [w0]).length) (w2 ++ [w0]))
      (c1 (IntKind.i64.wrap (w0 + 1)) w3 w2))
    (c2 w3 w2)
theorem refMakeF_s13_eq (fuel k : Nat) (K : Ex → St → Option Out) (w0 w1 : Int) (x0 : List Int) (x1 : Nat) (w2 : List Int) (w3 x2 : Nat) (x3 : List Int) : lpN qd17 (qd14 fuel) qd21 qd25 (k + 1) ⟨[qd22, qd23, (51, vI w1), (52, vI w0)], [qd13, (1, some ⟨28, .agg [vN, .sl 2 1 0 x1, .sl 3 1 0 x2, .sl 4 1 0 w3], true⟩), (2, bL 3 x0), (3, bL 3 x3), (4, bL 3 w2)], 5, none⟩ K = refMakeF_s13 w0 w1 x0 x1 w2 w3 x2 x3 (fun a0 a1 a2 => lpN qd17 (qd14 fuel) qd21 qd25 k ⟨[qd22, qd23, (51, vI w1), (52, vI a0)], [qd13, (1, some ⟨28, .agg [vN, .sl 2 1 0 x1, .sl 3 1 0 x2, .sl 4 1 0 a1], true⟩), (2, bL 3 x0), (3, bL 3 x3), (4, bL 3 a2)], 5, none⟩ K) (fun a3 a4 a5 => lpN qd17 (qd14 fuel) qd21 qd25 k ⟨[qd22, qd23, (51, vI w1), (52, vI a3)], [qd13, (1, some ⟨28, .agg [vN, .sl 2 1 0 x1, .sl 3 1 0 x2, .sl 4 1 0 a4], true⟩), (2, bL 3 x0), (3, bL 3 x3), (4, bL 3 a5)], 5, none⟩ K) (fun a6 a7 => K (.exit 2) ⟨qd19, [qd13, (1, some ⟨28, .agg [vN, .sl 2 1 0 x1, .sl 3 1 0 x2, .sl 4 1 0 a6], true⟩), (2, bL 3 x0), (3, bL 3 x3), (4, bL 3 a7)], 5, none⟩) := by kernel_rfl
noncomputable def refMakeF_l8 {R : Type} (fuel : Nat) (w0 : Int) (x0 x1 : Nat) (x2 x3 : List Int) (k0 : Nat → List Int → Option R) : Nat → Int → Nat → List Int → Option R
  | 0, _, _, _ => none
  | k + 1, w1, w2, w3 =>
    (refMakeF_s13 w1 w0 x2 x0 w3 w2 x1 x3 (fun a0 a1 a2 => ( refMakeF_l8 fuel w0 x0 x1 x2 x3 k0 k a0 a1 a2 )) (fun a3 a4 a5 => ( refMakeF_l8 fuel w0 x0 x1 x2 x3 k0 k a3 a4 a5 )) (fun a6 a7 => k0 a6 a7))
theorem refMakeF_l8_eq (fuel : Nat) (w0 : Int) (x0 x1 : Nat) (x2 x3 : List Int) (K : Ex → St → Option Out) : ∀ (k : Nat) (w1 : Int) (w2 : Nat) (w3 : List Int), lpN qd17 (qd14 fuel) qd21 qd25 k ⟨[qd22, qd23, (51, vI w0), (52, vI w1)], [qd13, (1, some ⟨28, .agg [vN, .sl 2 1 0 x0, .sl 3 1 0 x1, .sl 4 1 0 w2], true⟩), (2, bL 3 x2), (3, bL 3 x3), (4, bL 3 w3)], 5, none⟩ K = refMakeF_l8 fuel w0 x0 x1 x2 x3 (fun y0 y1 => K (.exit 2) ⟨qd19, [qd13, (1, some ⟨28, .agg [vN, .sl 2 1 0 x0, .sl 3 1 0 x1, .sl 4 1 0 y0], true⟩), (2, bL 3 x2), (3, bL 3 x3), (4, bL 3 y1)], 5, none⟩) k w1 w2 w3
  | 0, _, _, _ => rfl
  | k + 1, w1, w2, w3 => by
    unfold refMakeF_l8
    exact (refMakeF_s13_eq fuel k K w1 w0 x2 x0 w3 w2 x1 x3).trans (congr (congr (congr (Eq.refl (refMakeF_s13 (R := Out) w1 w0 x2 x0 w3 w2 x1 x3)) (funext fun a0 => funext fun a1 => funext fun a2 => refMakeF_l8_eq fuel w0 x0 x1 x2 x3 K k a0 a1 a2)) (funext fun a3 => funext fun a4 => funext fun a5 => refMakeF_l8_eq fuel w0 x0 x1 x2 x3 K k a3 a4 a5)) (rfl))
noncomputable def refMakeF_s12 {R : Type} (w0 w1 : Int) (x0 : List Int) (x1 x2 : Nat) (x3 : List Int) (c0 : Int → Nat → List Int → Option R) (c1 : Int → Int → Option R) (c2 : Option R) : Option R :=
  br (decide (w0 < w1))
    (grd (decide (List.length (α := Int) ((x0.drop 0).take x1) ≤ 1000000)) <|
    br (!(inL ((x0.drop 0).take x1) w0))
      (c0 (IntKind.i64.wrap (w0 + 1)) 1 ([w0]))
      (c1 w1 (IntKind.i64.wrap (w0 + 1))))
    (c2)
theorem refMakeF_s12_eq (fuel k : Nat) (K : Ex → St → Option Out) (w0 w1 : Int) (x0 : List Int) (x1 x2 : Nat) (x3 : List Int) : lpN qd17 (qd14 fuel) qd21 qd25 (k + 1) ⟨[qd22, qd23, (51, vI w1), (52, vI w0)], [qd13, (1, some ⟨28, .agg [vN, .sl 2 1 0 x1, .sl 3 1 0 x2, vN], true⟩), (2, bL 3 x0), (3, bL 3 x3)], 4, none⟩ K = refMakeF_s12 w0 w1 x0 x1 x2 x3 (fun a0 a1 a2 => lpN qd17 (qd14 fuel) qd21 qd25 k ⟨[qd22, qd23, (51, vI w1), (52, vI a0)], [qd13, (1, some ⟨28, .agg [vN, .sl 2 1 0 x1, .sl 3 1 0 x2, .sl 4 1 0 a1], true⟩), (2, bL 3 x0), (3, bL 3 x3), (4, bL 3 a2)], 5, none⟩ K) (fun a3 a4 => lpN qd17 (qd14 fuel) qd21 qd25 k ⟨[qd22, qd23, (51, vI a3), (52, vI a4)], [qd13, (1, some ⟨28, .agg [vN, .sl 2 1 0 x1, .sl 3 1 0 x2, vN], true⟩), (2, bL 3 x0), (3, bL 3 x3)], 4, none⟩ K) (K (.exit 2) ⟨qd19, [qd13, (1, some ⟨28, .agg [vN, .sl 2 1 0 x1, .sl 3 1 0 x2, vN], true⟩), (2, bL 3 x0), (3, bL 3 x3)], 4, none⟩) := by kernel_rfl
noncomputable def refMakeF_l7 {R : Type} (fuel x0 x1 : Nat) (x2 x3 : List Int) (k0 : Nat → List Int → Option R) (k1 : Option R) : Nat → Int → Int → Option R
  | 0, _, _ => none
  | k + 1, w0, w1 =>
    (refMakeF_s12 w1 w0 x2 x0 x1 x3 (fun a0 a1 a2 => (refMakeF_l8 fuel w0 x0 x1 x2 x3 (fun x4 x5 => k0 x4 x5) k a0 a1 a2)) (fun a3 a4 => ( refMakeF_l7 fuel x0 x1 x2 x3 k0 k1 k a3 a4 )) (k1))
theorem refMakeF_l7_eq (fuel x0 x1 : Nat) (x2 x3 : List Int) (K : Ex → St → Option Out) : ∀ (k : Nat) (w0 w1 : Int), lpN qd17 (qd14 fuel) qd21 qd25 k ⟨[qd22, qd23, (51, vI w0), (52, vI w1)], [qd13, (1, some ⟨28, .agg [vN, .sl 2 1 0 x0, .sl 3 1 0 x1, vN], true⟩), (2, bL 3 x2), (3, bL 3 x3)], 4, none⟩ K = refMakeF_l7 fuel x0 x1 x2 x3 (fun y0 y1 => K (.exit 2) ⟨qd19, [qd13, (1, some ⟨28, .agg [vN, .sl 2 1 0 x0, .sl 3 1 0 x1, .sl 4 1 0 y0], true⟩), (2, bL 3 x2), (3, bL 3 x3), (4, bL 3 y1)], 5, none⟩) (K (.exit 2) ⟨qd19, [qd13, (1, some ⟨28, .agg [vN, .sl 2 1 0 x0, .sl 3 1 0 x1, vN], true⟩), (2, bL 3 x2), (3, bL 3 x3)], 4, none⟩) k w0 w1
  | 0, _, _ => rfl
  | k + 1, w0, w1 => by
    unfold refMakeF_l7
    exact (refMakeF_s12_eq fuel k K w1 w0 x2 x0 x1 x3).trans (congr (congr (congr (Eq.refl (refMakeF_s12 (R := Out) w1 w0 x2 x0 x1 x3)) (funext fun a0 => funext fun a1 => funext fun a2 => refMakeF_l8_eq fuel w0 x0 x1 x2 x3 K k a0 a1 a2)) (funext fun a3 => funext fun a4 => refMakeF_l7_eq fuel x0 x1 x2 x3 K k a3 a4)) (rfl))
noncomputable def refMakeF_s14 {R : Type} (x0 : List Int) (x1 : Nat) (x2 : List Int) (x3 : Nat) (x4 : List Int) (x5 : Nat) (c0 : List Int → List Int → List Int → Option R) : Option R :=
  c0 ((x0.drop 0).take x1) ((x2.drop 0).take x3) ((x4.drop 0).take x5)
theorem refMakeF_s14_eq (fuel : Nat)  (x0 : List Int) (x1 : Nat) (x2 : List Int) (x3 : Nat) (x4 : List Int) (x5 : Nat) : (kont (qd14 fuel) qd20 qd27 4 (endK Tryd.prog 0 0 19)) (.exit 2) ⟨qd19, [qd13, (1, some ⟨28, .agg [vN, .sl 2 1 0 x1, .sl 3 1 0 x3, .sl 4 1 0 x5], true⟩), (2, bL 3 x0), (3, bL 3 x2), (4, bL 3 x4)], 5, none⟩ = refMakeF_s14 x0 x1 x2 x3 x4 x5 (fun a0 a1 a2 => some (.agg [vN, vL a0, vL a1, vL a2], [])) := by kernel_rfl
noncomputable def refMakeF_s15 {R : Type} (x0 : List Int) (x1 : Nat) (x2 : List Int) (x3 : Nat) (c0 : List Int → List Int → Option R) : Option R :=
  c0 ((x0.drop 0).take x1) ((x2.drop 0).take x3)
theorem refMakeF_s15_eq (fuel : Nat)  (x0 : List Int) (x1 : Nat) (x2 : List Int) (x3 : Nat) : (kont (qd14 fuel) qd20 qd27 4 (endK Tryd.prog 0 0 19)) (.exit 2) ⟨qd19, [qd13, (1, some ⟨28, .agg [vN, .sl 2 1 0 x1, .sl 3 1 0 x3, vN], true⟩), (2, bL 3 x0), (3, bL 3 x2)], 4, none⟩ = refMakeF_s15 x0 x1 x2 x3 (fun a0 a1 => some (.agg [vN, vL a0, vL a1, vN], [])) := by kernel_rfl
noncomputable def refMakeF_s11 {R : Type} (m : List (Int × List Int)) (n : Int) (x0 x1 : Nat) (x2 x3 : List Int) (c0 : Int → Int → Option R) : Option R :=
  c0 ((m.length : Nat) : Int) 0
theorem refMakeF_s11_eq (fuel : Nat)  (m : List (Int × List Int)) (n : Int) (x0 x1 : Nat) (x2 x3 : List Int) : (kont (qd14 fuel) qd20 [1, 1, 0, 0] 4 (endK Tryd.prog 0 0 19)) (.exit 0) ⟨qd15, [(qd18 n m), qd16, (2, some ⟨28, .agg [vN, .sl 3 1 0 x0, .sl 4 1 0 x1, vN], true⟩), (3, bL 3 x2), (4, bL 3 x3)], 5, none⟩ = refMakeF_s11 m n x0 x1 x2 x3 (fun a0 a1 => lpN qd17 (qd14 fuel) qd21 qd25 fuel ⟨[qd22, qd23, (51, vI a0), (52, vI a1)], [qd13, (1, some ⟨28, .agg [vN, .sl 2 1 0 x0, .sl 3 1 0 x1, vN], true⟩), (2, bL 3 x2), (3, bL 3 x3)], 4, none⟩ (kont (qd14 fuel) qd20 qd27 4 (endK Tryd.prog 0 0 19))) := by kernel_rfl
noncomputable def refMakeF_s18 {R : Type} (w0 w1 : Int) (w2 : List Int) (w3 x0 : Nat) (x1 : List Int) (c0 c1 : Int → Nat → List Int → Option R) (c2 : Nat → List Int → Option R) : Option R :=
  br (decide (w0 < w1))
    (grd (decide (List.length (α := Int) ([]) ≤ 1000000)) <|
    br (!(inL ([]) w0))
      (grd (Nat.beq w2.length w3) <|
      grd (okN (w3 + 1) 8) <|
      c0 (IntKind.i64.wrap (w0 + 1)) ((w2 ++ [w0]).length) (w2 ++ [w0]))
      (c1 (IntKind.i64.wrap (w0 + 1)) w3 w2))
    (c2 w3 w2)
theorem refMakeF_s18_eq (fuel k : Nat) (K : Ex → St → Option Out) (w0 w1 : Int) (w2 : List Int) (w3 x0 : Nat) (x1 : List Int) : lpN qd17 (qd14 fuel) qd21 qd25 (k + 1) ⟨[qd22, qd23, (51, vI w1), (52, vI w0)], [qd13, (1, some ⟨28, .agg [.sl 2 1 0 x0, vN, vN, .sl 3 1 0 w3], true⟩), (2, bL 3 x1), (3, bL 3 w2)], 4, none⟩ K = refMakeF_s18 w0 w1 w2 w3 x0 x1 (fun a0 a1 a2 => lpN qd17 (qd14 fuel) qd21 qd25 k ⟨[qd22, qd23, (51, vI w1), (52, vI a0)], [qd13, (1, some ⟨28, .agg [.sl 2 1 0 x0, vN, vN, .sl 3 1 0 a1], true⟩), (2, bL 3 x1), (3, bL 3 a2)], 4, none⟩ K) (fun a3 a4 a5 => lpN qd17 (qd14 fuel) qd21 qd25 k ⟨[qd22, qd23, (51, vI w1), (52, vI a3)], [qd13, (1, some ⟨28, .agg [.sl 2 1 0 x0, vN, vN, .sl 3 1 0 a4], true⟩), (2, bL 3 x1), (3, bL 3 a5)], 4, none⟩ K) (fun a6 a7 => K (.exit 2) ⟨qd19, [qd13, (1, some ⟨28, .agg [.sl 2 1 0 x0, vN, vN, .sl 3 1 0 a6], true⟩), (2, bL 3 x1), (3, bL 3 a7)], 4, none⟩) := by kernel_rfl
noncomputable def refMakeF_l10 {R : Type} (fuel : Nat) (w0 : Int) (x0 : Nat) (x1 : List Int) (k0 : Nat → List Int → Option R) : Nat → Int → Nat → List Int → Option R
  | 0, _, _, _ => none
  | k + 1, w1, w2, w3 =>
    (refMakeF_s18 w1 w0 w3 w2 x0 x1 (fun a0 a1 a2 => ( refMakeF_l10 fuel w0 x0 x1 k0 k a0 a1 a2 )) (fun a3 a4 a5 => ( refMakeF_l10 fuel w0 x0 x1 k0 k a3 a4 a5 )) (fun a6 a7 => k0 a6 a7))
theorem refMakeF_l10_eq (fuel : Nat) (w0 : Int) (x0 : Nat) (x1 : List Int) (K : Ex → St → Option Out) : ∀ (k : Nat) (w1 : Int) (w2 : Nat) (w3 : List Int), lpN qd17 (qd14 fuel) qd21 qd25 k ⟨[qd22, qd23, (51, vI w0), (52, vI w1)], [qd13, (1, some ⟨28, .agg [.sl 2 1 0 x0, vN, vN, .sl 3 1 0 w2], true⟩), (2, bL 3 x1), (3, bL 3 w3)], 4, none⟩ K = refMakeF_l10 fuel w0 x0 x1 (fun y0 y1 => K (.exit 2) ⟨qd19, [qd13, (1, some ⟨28, .agg [.sl 2 1 0 x0, vN, vN, .sl 3 1 0 y0], true⟩), (2, bL 3 x1), (3, bL 3 y1)], 4, none⟩) k w1 w2 w3
  | 0, _, _, _ => rfl
  | k + 1, w1, w2, w3 => by
    unfold refMakeF_l10
    exact (refMakeF_s18_eq fuel k K w1 w0 w3 w2 x0 x1).trans (congr (congr (congr (Eq.refl (refMakeF_s18 (R := Out) w1 w0 w3 w2 x0 x1)) (funext fun a0 => funext fun a1 => funext fun a2 => refMakeF_l10_eq fuel w0 x0 x1 K k a0 a1 a2)) (funext fun a3 => funext fun a4 => funext fun a5 => refMakeF_l10_eq fuel w0 x0 x1 K k a3 a4 a5)) (rfl))
noncomputable def refMakeF_s17 {R : Type} (w0 w1 : Int) (x0 : Nat) (x1 : List Int) (c0 : Int → Nat → List Int → Option R) (c1 : Int → Int → Option R) (c2 : Option R) : Option R :=
  br (decide (w0 < w1))
    (grd (decide (List.length (α := Int) ([]) ≤ 1000000)) <|
    br (!(inL ([]) w0))
      (c0 (IntKind.i64.wrap (w0 + 1)) 1 ([w0]))
      (c1 w1 (IntKind.i64.wrap (w0 + 1))))
    (c2)
theorem refMakeF_s17_eq (fuel k : Nat) (K : Ex → St → Option Out) (w0 w1 : Int) (x0 : Nat) (x1 : List Int) : lpN qd17 (qd14 fuel) qd21 qd25 (k + 1) ⟨[qd22, qd23, (51, vI w1), (52, vI w0)], [qd13, (1, some ⟨28, .agg [.sl 2 1 0 x0, vN, vN, vN], true⟩), (2, bL 3 x1)], 3, none⟩ K = refMakeF_s17 w0 w1 x0 x1 (fun a0 a1 a2 => lpN qd17 (qd14 fuel) qd21 qd25 k ⟨[qd22, qd23, (51, vI w1), (52, vI a0)], [qd13, (1, some ⟨28, .agg [.sl 2 1 0 x0, vN, vN, .sl 3 1 0 a1], true⟩), (2, bL 3 x1), (3, bL 3 a2)], 4, none⟩ K) (fun a3 a4 => lpN qd17 (qd14 fuel) qd21 qd25 k ⟨[qd22, qd23, (51, vI a3), (52, vI a4)], [qd13, (1, some ⟨28, .agg [.sl 2 1 0 x0, vN, vN, vN], true⟩), (2, bL 3 x1)], 3, none⟩ K) (K (.exit 2) ⟨qd19, [qd13, (1, some ⟨28, .agg [.sl 2 1 0 x0, vN, vN, vN], true⟩), (2, bL 3 x1)], 3, none⟩) := by kernel_rfl
noncomputable def refMakeF_l9 {R : Type} (fuel x0 : Nat) (x1 : List Int) (k0 : Nat → List Int → Option R) (k1 : Option R) : Nat → Int → Int → Option R
  | 0, _, _ => none
  | k + 1, w0, w1 =>
    (refMakeF_s17 w1 w0 x0 x1 (fun a0 a1 a2 => (refMakeF_l10 fuel w0 x0 x1 (fun x2 x3 => k0 x2 x3) k a0 a1 a2)) (fun a3 a4 => ( refMakeF_l9 fuel x0 x1 k0 k1 k a3 a4 )) (k1))
theorem refMakeF_l9_eq (fuel x0 : Nat) (x1 : List Int) (K : Ex → St → Option Out) : ∀ (k : Nat) (w0 w1 : Int), lpN qd17 (qd14 fuel) qd21 qd25 k ⟨[qd22, qd23, (51, vI w0), (52, vI w1)], [qd13, (1, some ⟨28, .agg [.sl 2 1 0 x0, vN, vN, vN], true⟩), (2, bL 3 x1)], 3, none⟩ K = refMakeF_l9 fuel x0 x1 (fun y0 y1 => K (.exit 2) ⟨qd19, [qd13, (1, some ⟨28, .agg [.sl 2 1 0 x0, vN, vN, .sl 3 1 0 y0], true⟩), (2, bL 3 x1), (3, bL 3 y1)], 4, none⟩) (K (.exit 2) ⟨qd19, [qd13, (1, some ⟨28, .agg [.sl 2 1 0 x0, vN, vN, vN], true⟩), (2, bL 3 x1)], 3, none⟩) k w0 w1
  | 0, _, _ => rfl
  | k + 1, w0, w1 => by
    unfold refMakeF_l9
    exact (refMakeF_s17_eq fuel k K w1 w0 x0 x1).trans (congr (congr (congr (Eq.refl (refMakeF_s17 (R := Out) w1 w0 x0 x1)) (funext fun a0 => funext fun a1 => funext fun a2 => refMakeF_l10_eq fuel w0 x0 x1 K k a0 a1 a2)) (funext fun a3 => funext fun a4 => refMakeF_l9_eq fuel x0 x1 K k a3 a4)) (rfl))
noncomputable def refMakeF_s19 {R : Type} (x0 : List Int) (x1 : Nat) (x2 : List Int) (x3 : Nat) (c0 : List Int → List Int → Option R) : Option R :=
  c0 ((x0.drop 0).take x1) ((x2.drop 0).take x3)
theorem refMakeF_s19_eq (fuel : Nat)  (x0 : List Int) (x1 : Nat) (x2 : List Int) (x3 : Nat) : (kont (qd14 fuel) qd20 qd27 4 (endK Tryd.prog 0 0 19)) (.exit 2) ⟨qd19, [qd13, (1, some ⟨28, .agg [.sl 2 1 0 x1, vN, vN, .sl 3 1 0 x3], true⟩), (2, bL 3 x0), (3, bL 3 x2)], 4, none⟩ = refMakeF_s19 x0 x1 x2 x3 (fun a0 a1 => some (.agg [vL a0, vN, vN, vL a1], [])) := by kernel_rfl
noncomputable def refMakeF_s20 {R : Type} (x0 : List Int) (x1 : Nat) (c0 : List Int → Option R) : Option R :=
  c0 ((x0.drop 0).take x1)
theorem refMakeF_s20_eq (fuel : Nat)  (x0 : List Int) (x1 : Nat) : (kont (qd14 fuel) qd20 qd27 4 (endK Tryd.prog 0 0 19)) (.exit 2) ⟨qd19, [qd13, (1, some ⟨28, .agg [.sl 2 1 0 x1, vN, vN, vN], true⟩), (2, bL 3 x0)], 3, none⟩ = refMakeF_s20 x0 x1 (fun a0 => some (.agg [vL a0, vN, vN, vN], [])) := by kernel_rfl
noncomputable def refMakeF_s16 {R : Type} (m : List (Int × List Int)) (n : Int) (x0 : Nat) (x1 : List Int) (c0 : Int → Int → Option R) : Option R :=
  c0 ((m.length : Nat) : Int) 0
theorem refMakeF_s16_eq (fuel : Nat)  (m : List (Int × List Int)) (n : Int) (x0 : Nat) (x1 : List Int) : (kont (qd14 fuel) qd20 [1, 1, 0, 0] 4 (endK Tryd.prog 0 0 19)) (.exit 0) ⟨qd15, [(qd18 n m), qd16, (2, some ⟨28, .agg [.sl 3 1 0 x0, vN, vN, vN], true⟩), (3, bL 3 x1)], 4, none⟩ = refMakeF_s16 m n x0 x1 (fun a0 a1 => lpN qd17 (qd14 fuel) qd21 qd25 fuel ⟨[qd22, qd23, (51, vI a0), (52, vI a1)], [qd13, (1, some ⟨28, .agg [.sl 2 1 0 x0, vN, vN, vN], true⟩), (2, bL 3 x1)], 3, none⟩ (kont (qd14 fuel) qd20 qd27 4 (endK Tryd.prog 0 0 19))) := by kernel_rfl
noncomputable def refMakeF_s23 {R : Type} (w0 w1 : Int) (w2 : List Int) (w3 : Nat) (c0 c1 : Int → Nat → List Int → Option R) (c2 : Nat → List Int → Option R) : Option R :=
  br (decide (w0 < w1))
    (grd (decide (List.length (α := Int) ([]) ≤ 1000000)) <|
    br (!(inL ([]) w0))
      (grd (Nat.beq w2.length w3) <|
      grd (okN (w3 + 1) 8) <|
      c0 (IntKind.i64.wrap (w0 + 1)) ((w2 ++ [w0]).length) (w2 ++ [w0]))
      (c1 (IntKind.i64.wrap (w0 + 1)) w3 w2))
    (c2 w3 w2)
theorem refMakeF_s23_eq (fuel k : Nat) (K : Ex → St → Option Out) (w0 w1 : Int) (w2 : List Int) (w3 : Nat) : lpN qd17 (qd14 fuel) qd21 qd25 (k + 1) ⟨[qd22, qd23, (51, vI w1), (52, vI w0)], [qd13, (1, some ⟨28, .agg [vN, vN, vN, .sl 2 1 0 w3], true⟩), (2, bL 3 w2)], 3, none⟩ K = refMakeF_s23 w0 w1 w2 w3 (fun a0 a1 a2 => lpN qd17 (qd14 fuel) qd21 qd25 k ⟨[qd22, qd23, (51, vI w1), (52, vI a0)], [qd13, (1, some ⟨28, .agg [vN, vN, vN, .sl 2 1 0 a1], true⟩), (2, bL 3 a2)], 3, none⟩ K) (fun a3 a4 a5 => lpN qd17 (qd14 fuel) qd21 qd25 k ⟨[qd22, qd23, (51, vI w1), (52, vI a3)], [qd13, (1, some ⟨28, .agg [vN, vN, vN, .sl 2 1 0 a4], true⟩), (2, bL 3 a5)], 3, none⟩ K) (fun a6 a7 => K (.exit 2) ⟨qd19, [qd13, (1, some ⟨28, .agg [vN, vN, vN, .sl 2 1 0 a6], true⟩), (2, bL 3 a7)], 3, none⟩) := by kernel_rfl
noncomputable def refMakeF_l12 {R : Type} (fuel : Nat) (w0 : Int) (k0 : Nat → List Int → Option R) : Nat → Int → Nat → List Int → Option R
  | 0, _, _, _ => none
  | k + 1, w1, w2, w3 =>
    (refMakeF_s23 w1 w0 w3 w2 (fun a0 a1 a2 => ( refMakeF_l12 fuel w0 k0 k a0 a1 a2 )) (fun a3 a4 a5 => ( refMakeF_l12 fuel w0 k0 k a3 a4 a5 )) (fun a6 a7 => k0 a6 a7))
theorem refMakeF_l12_eq (fuel : Nat) (w0 : Int) (K : Ex → St → Option Out) : ∀ (k : Nat) (w1 : Int) (w2 : Nat) (w3 : List Int), lpN qd17 (qd14 fuel) qd21 qd25 k ⟨[qd22, qd23, (51, vI w0), (52, vI w1)], [qd13, (1, some ⟨28, .agg [vN, vN, vN, .sl 2 1 0 w2], true⟩), (2, bL 3 w3)], 3, none⟩ K = refMakeF_l12 fuel w0 (fun y0 y1 => K (.exit 2) ⟨qd19, [qd13, (1, some ⟨28, .agg [vN, vN, vN, .sl 2 1 0 y0], true⟩), (2, bL 3 y1)], 3, none⟩) k w1 w2 w3
  | 0, _, _, _ => rfl
  | k + 1, w1, w2, w3 => by
    unfold refMakeF_l12
    exact (refMakeF_s23_eq fuel k K w1 w0 w3 w2).trans (congr (congr (congr (Eq.refl (refMakeF_s23 (R := Out) w1 w0 w3 w2)) (funext fun a0 => funext fun a1 => funext fun a2 => refMakeF_l12_eq fuel w0 K k a0 a1 a2)) (funext fun a3 => funext fun a4 => funext fun a5 => refMakeF_l12_eq fuel w0 K k a3 a4 a5)) (rfl))
noncomputable def refMakeF_s22 {R : Type} (w0 w1 : Int) (c0 : Int → Nat → List Int → Option R) (c1 : Int → Int → Option R) (c2 : Option R) : Option R :=
  br (decide (w0 < w1))
    (grd (decide (List.length (α := Int) ([]) ≤ 1000000)) <|
    br (!(inL ([]) w0))
      (c0 (IntKind.i64.wrap (w0 + 1)) 1 ([w0]))
      (c1 w1 (IntKind.i64.wrap (w0 + 1))))
    (c2)
theorem refMakeF_s22_eq (fuel k : Nat) (K : Ex → St → Option Out) (w0 w1 : Int) : lpN qd17 (qd14 fuel) qd21 qd25 (k + 1) ⟨[qd22, qd23, (51, vI w1), (52, vI w0)], [qd13, qd16], 2, none⟩ K = refMakeF_s22 w0 w1 (fun a0 a1 a2 => lpN qd17 (qd14 fuel) qd21 qd25 k ⟨[qd22, qd23, (51, vI w1), (52, vI a0)], [qd13, (1, some ⟨28, .agg [vN, vN, vN, .sl 2 1 0 a1], true⟩), (2, bL 3 a2)], 3, none⟩ K) (fun a3 a4 => lpN qd17 (qd14 fuel) qd21 qd25 k ⟨[qd22, qd23, (51, vI a3), (52, vI a4)], [qd13, qd16], 2, none⟩ K) (K (.exit 2) ⟨qd19, [qd13, qd16], 2, none⟩) := by kernel_rfl
noncomputable def refMakeF_l11 {R : Type} (fuel : Nat)  (k0 : Nat → List Int → Option R) (k1 : Option R) : Nat → Int → Int → Option R
  | 0, _, _ => none
  | k + 1, w0, w1 =>
    (refMakeF_s22 w1 w0 (fun a0 a1 a2 => (refMakeF_l12 fuel w0 (fun x0 x1 => k0 x0 x1) k a0 a1 a2)) (fun a3 a4 => ( refMakeF_l11 fuel k0 k1 k a3 a4 )) (k1))
theorem refMakeF_l11_eq (fuel : Nat)  (K : Ex → St → Option Out) : ∀ (k : Nat) (w0 w1 : Int), lpN qd17 (qd14 fuel) qd21 qd25 k ⟨[qd22, qd23, (51, vI w0), (52, vI w1)], [qd13, qd16], 2, none⟩ K = refMakeF_l11 fuel  (fun y0 y1 => K (.exit 2) ⟨qd19, [qd13, (1, some ⟨28, .agg [vN, vN, vN, .sl 2 1 0 y0], true⟩), (2, bL 3 y1)], 3, none⟩) (K (.exit 2) ⟨qd19, [qd13, qd16], 2, none⟩) k w0 w1
  | 0, _, _ => rfl
  | k + 1, w0, w1 => by
    unfold refMakeF_l11
    exact (refMakeF_s22_eq fuel k K w1 w0).trans (congr (congr (congr (Eq.refl (refMakeF_s22 (R := Out) w1 w0)) (funext fun a0 => funext fun a1 => funext fun a2 => refMakeF_l12_eq fuel w0 K k a0 a1 a2)) (funext fun a3 => funext fun a4 => refMakeF_l11_eq fuel  K k a3 a4)) (rfl))
noncomputable def refMakeF_s24 {R : Type} (x0 : List Int) (x1 : Nat) (c0 : List Int → Option R) : Option R :=
  c0 ((x0.drop 0).take x1)
theorem refMakeF_s24_eq (fuel : Nat)  (x0 : List Int) (x1 : Nat) : (kont (qd14 fuel) qd20 qd27 4 (endK Tryd.prog 0 0 19)) (.exit 2) ⟨qd19, [qd13, (1, some ⟨28, .agg [vN, vN, vN, .sl 2 1 0 x1], true⟩), (2, bL 3 x0)], 3, none⟩ = refMakeF_s24 x0 x1 (fun a0 => some (.agg [vN, vN, vN, vL a0], [])) := by kernel_rfl
noncomputable def refMakeF_s25 {R : Type}  (c0 : Option R) : Option R :=
  c0
theorem refMakeF_s25_eq (fuel : Nat)   : (kont (qd14 fuel) qd20 qd27 4 (endK Tryd.prog 0 0 19)) (.exit 2) ⟨qd19, [qd13, qd16], 2, none⟩ = refMakeF_s25  (some (.agg [vN, vN, vN, vN], [])) := by kernel_rfl
noncomputable def refMakeF_s21 {R : Type} (m : List (Int × List Int)) (n : Int) (c0 : Int → Int → Option R) : Option R :=
  c0 ((m.length : Nat) : Int) 0
theorem refMakeF_s21_eq (fuel : Nat)  (m : List (Int × List Int)) (n : Int) : (kont (qd14 fuel) qd20 [1, 1, 0, 0] 4 (endK Tryd.prog 0 0 19)) (.exit 0) ⟨qd15, [(qd18 n m), qd16, qd28], 3, none⟩ = refMakeF_s21 m n (fun a0 a1 => lpN qd17 (qd14 fuel) qd21 qd25 fuel ⟨[qd22, qd23, (51, vI a0), (52, vI a1)], [qd13, qd16], 2, none⟩ (kont (qd14 fuel) qd20 qd27 4 (endK Tryd.prog 0 0 19))) := by kernel_rfl
noncomputable def refMakeF_s1 {R : Type} (n : Int) (m : List (Int × List Int)) (c0 : Option R) : Option R :=
  c0
theorem refMakeF_s1_eq (fuel : Nat)  (n : Int) (m : List (Int × List Int)) : callN Tryd.prog mode15 T_refOne fuel 19 [.agg [vI n, vR m]] [] = refMakeF_s1 n m (lpN qd24 (qd14 fuel) qd26 [1, 2, 3] fuel ⟨qd15, [(qd18 n m), qd16, qd28], 3, none⟩ (kont (qd14 fuel) qd20 [1, 1, 0, 0] 4 (endK Tryd.prog 0 0 19))) := by kernel_rfl
noncomputable def refMakeF {R : Type} (fuel : Nat) (n : Int) (m : List (Int × List Int)) (r0 : List Int → List Int → List Int → List Int → Option R) (r1 r2 : List Int → List Int → List Int → Option R) (r3 r4 : List Int → List Int → Option R) (r5 r6 : List Int → Option R) (r7 : Option R) : Option R :=
  (refMakeF_s1 n m ((refMakeF_l1 fuel n m (fun x0 x1 x2 x3 x4 x5 => (refMakeF_s6 m n x0 x1 x2 x3 x4 x5 (fun a0 a1 => (refMakeF_l5 fuel x0 x1 x2 x3 x4 x5 (fun x6 x7 => (refMakeF_s9 x3 x0 x4 x1 x5 x2 x7 x6 (fun a2 a3 a4 a5 => r0 a2 a3 a4 a5))) ((refMakeF_s10 x3 x0 x4 x1 x5 x2 (fun a6 a7 a8 => r1 a6 a7 a8))) fuel a0 a1)))) (fun x8 x9 x10 x11 => (refMakeF_s11 m n x8 x9 x10 x11 (fun a9 a10 => (refMakeF_l7 fuel x8 x9 x10 x11 (fun x12 x13 => (refMakeF_s14 x10 x8 x11 x9 x13 x12 (fun a11 a12 a13 => r2 a11 a12 a13))) ((refMakeF_s15 x10 x8 x11 x9 (fun a14 a15 => r3 a14 a15))) fuel a9 a10)))) (fun x14 x15 => (refMakeF_s16 m n x14 x15 (fun a16 a17 => (refMakeF_l9 fuel x14 x15 (fun x16 x17 => (refMakeF_s19 x15 x14 x17 x16 (fun a18 a19 => r4 a18 a19))) ((refMakeF_s20 x15 x14 (fun a20 => r5 a20))) fuel a16 a17)))) ((refMakeF_s21 m n (fun a21 a22 => (refMakeF_l11 fuel (fun x18 x19 => (refMakeF_s24 x19 x18 (fun a23 => r6 a23))) ((refMakeF_s25 (r7))) fuel a21 a22)))) fuel)))
theorem refMakeF_eq (fuel : Nat) (n : Int) (m : List (Int × List Int)) : callN Tryd.prog mode15 T_refOne fuel 19 [.agg [.s (.int .i64 n), .lt (.pair (.int .i64) (.sl (.int .u64))) m]] [] = refMakeF fuel n m (fun z0 z1 z2 z3 => some (.agg [.li .i64 z0, .li .i64 z1, .li .i64 z2, .li .i64 z3], [])) (fun z0 z1 z2 => some (.agg [.li .i64 z0, .li .i64 z1, .li .i64 z2, .s (.slice none 0 0)], [])) (fun z0 z1 z2 => some (.agg [.s (.slice none 0 0), .li .i64 z0, .li .i64 z1, .li .i64 z2], [])) (fun z0 z1 => some (.agg [.s (.slice none 0 0), .li .i64 z0, .li .i64 z1, .s (.slice none 0 0)], [])) (fun z0 z1 => some (.agg [.li .i64 z0, .s (.slice none 0 0), .s (.slice none 0 0), .li .i64 z1], [])) (fun z0 => some (.agg [.li .i64 z0, .s (.slice none 0 0), .s (.slice none 0 0), .s (.slice none 0 0)], [])) (fun z0 => some (.agg [.s (.slice none 0 0), .s (.slice none 0 0), .s (.slice none 0 0), .li .i64 z0], [])) (some (.agg [.s (.slice none 0 0), .s (.slice none 0 0), .s (.slice none 0 0), .s (.slice none 0 0)], [])) := by
  unfold refMakeF
  exact (refMakeF_s1_eq fuel  n m).trans (congr (Eq.refl (refMakeF_s1 (R := Out) n m)) ((refMakeF_l1_eq fuel n m (kont (qd14 fuel) qd20 [1, 1, 0, 0] 4 (endK Tryd.prog 0 0 19)) fuel ).trans (congrFun (congr (congr (congr (congr (Eq.refl (refMakeF_l1 (R := Out) fuel n m)) (funext fun x0 => funext fun x1 => funext fun x2 => funext fun x3 => funext fun x4 => funext fun x5 => (refMakeF_s6_eq fuel  m n x0 x1 x2 x3 x4 x5).trans (congr (Eq.refl (refMakeF_s6 (R := Out) m n x0 x1 x2 x3 x4 x5)) (funext fun a0 => funext fun a1 => (refMakeF_l5_eq fuel x0 x1 x2 x3 x4 x5 (kont (qd14 fuel) qd20 qd27 4 (endK Tryd.prog 0 0 19)) fuel a0 a1).trans (congrFun (congrFun (congrFun (congr (congr (Eq.refl (refMakeF_l5 (R := Out) fuel x0 x1 x2 x3 x4 x5)) (funext fun x6 => funext fun x7 => (refMakeF_s9_eq fuel  x3 x0 x4 x1 x5 x2 x7 x6))) ((refMakeF_s10_eq fuel  x3 x0 x4 x1 x5 x2))) fuel) a0) a1))))) (funext fun x8 => funext fun x9 => funext fun x10 => funext fun x11 => (refMakeF_s11_eq fuel  m n x8 x9 x10 x11).trans (congr (Eq.refl (refMakeF_s11 (R := Out) m n x8 x9 x10 x11)) (funext fun a2 => funext fun a3 => (refMakeF_l7_eq fuel x8 x9 x10 x11 (kont (qd14 fuel) qd20 qd27 4 (endK Tryd.prog 0 0 19)) fuel a2 a3).trans (congrFun (congrFun (congrFun (congr (congr (Eq.refl (refMakeF_l7 (R := Out) fuel x8 x9 x10 x11)) (funext fun x12 => funext fun x13 => (refMakeF_s14_eq fuel  x10 x8 x11 x9 x13 x12))) ((refMakeF_s15_eq fuel  x10 x8 x11 x9))) fuel) a2) a3))))) (funext fun x14 => funext fun x15 => (refMakeF_s16_eq fuel  m n x14 x15).trans (congr (Eq.refl (refMakeF_s16 (R := Out) m n x14 x15)) (funext fun a4 => funext fun a5 => (refMakeF_l9_eq fuel x14 x15 (kont (qd14 fuel) qd20 qd27 4 (endK Tryd.prog 0 0 19)) fuel a4 a5).trans (congrFun (congrFun (congrFun (congr (congr (Eq.refl (refMakeF_l9 (R := Out) fuel x14 x15)) (funext fun x16 => funext fun x17 => (refMakeF_s19_eq fuel  x15 x14 x17 x16))) ((refMakeF_s20_eq fuel  x15 x14))) fuel) a4) a5))))) ((refMakeF_s21_eq fuel  m n).trans (congr (Eq.refl (refMakeF_s21 (R := Out) m n)) (funext fun a6 => funext fun a7 => (refMakeF_l11_eq fuel  (kont (qd14 fuel) qd20 qd27 4 (endK Tryd.prog 0 0 19)) fuel a6 a7).trans (congrFun (congrFun (congrFun (congr (congr (Eq.refl (refMakeF_l11 (R := Out) fuel )) (funext fun x18 => funext fun x19 => (refMakeF_s24_eq fuel  x19 x18))) ((refMakeF_s25_eq fuel  ))) fuel) a6) a7))))) fuel)))
theorem refMake_o11 {R : Type} (fuel N : Nat) (m : List Rw) (k0 : Nat → Nat → Nat → List Int → List Int → List Int → Option R) : ∀ (f k : Nat) (a b d r c : List Int), RInv (N : Int) m a b d r c → opens c ≤ f → f < k →
    refMakeF_l3 fuel (N : Int) m k0 k a.length b.length d.length a b d = k0 (plnN (N : Int) m f a b d r c).1.length (plnN (N : Int) m f a b d r c).2.1.length (plnN (N : Int) m f a b d r c).2.2.1.length (plnN (N : Int) m f a b d r c).1 (plnN (N : Int) m f a b d r c).2.1 (plnN (N : Int) m f a b d r c).2.2.1
  | f, 0, a, b, d, r, c, _, _, h => by omega
  | f, k + 1, a, b, d, r, c, hI, ho, hfk => by
    obtain ⟨⟨g1, g2⟩, _, _⟩ := mrt_iff.1 hI.may
    have hal := hI.al
    have hbl := hI.bl
    have hbd := hI.bd
    unfold refMakeF_l3 refMakeF_s4
    have hst := hI.step
    simp only [List.drop_zero, List.take_length, List.nil_append, List.append_nil] at hst ⊢
    rw [grd_of (by rw [hI.ok, hI.may]; simp; omega), grd_of (by simp; omega), grd_of (by rw [hI.ok, hI.may]; simp; omega), br_if]
    rcases hst with ⟨q, i, hq, h1, h2, h3, h4, h5, h6, h7, hJ⟩ | ⟨h1, h2, h3, h4⟩ | ⟨i, h1, h2, h3, h4, h5, hJ⟩
    · rw [h3, if_pos (by simp), bnd_of ((ix_nat _ q).trans (List.getElem?_eq_getElem hq)), grd_of (by simp; omega), grd_of (by rw [h4, h5]; simp; omega), h6, bnd_of (show ix [(i : Int)] 0 = some (i : Int) from rfl), grd_of (beq_self _), grd_of (okN_of (by omega) (by omega)), grd_of (beq_self _), grd_of (okN_of (by omega) (by omega))]
      obtain ⟨f', rfl⟩ : ∃ f', f = f' + 1 := ⟨f - 1, by omega⟩
      rw [plnN_one f' h1 h2]
      exact refMake_o11 fuel N m k0 f' k a _ _ _ _ hJ (by omega) (by omega)
    · rw [h2, if_neg (by decide), br_if, if_neg (by simpa using h4), plnN_stop h1 h3]
      try rfl
    · rw [h2, if_neg (by decide), br_if, h4, if_pos (by simp), grd_of (beq_self _), grd_of (okN_of (by omega) (by omega))]
      obtain ⟨f', rfl⟩ : ∃ f', f = f' + 1 := ⟨f - 1, by omega⟩
      rw [plnN_most f' h1 h3]
      exact refMake_o11 fuel N m k0 f' k _ b d r _ hJ (by omega) (by omega)
theorem refMake_core11 {R : Type} (fuel : Nat) (a b d : List Int) (r : List Int) (hx : r.length ≤ 64) (hb : b.length ≤ 1000) (hr : ∀ j : Nat, (hj : j < r.length) → (r[j] = 0 ↔ ¬ inL b (j : Int) = true)) (k0 : Nat → List Int → Option R) : ∀ (k j : Nat) (a' : List Int), j ≤ r.length → r.length < j + k → a'.length ≤ j →
    refMakeF_l6 fuel (r.length : Int) a.length b.length d.length a b d k0 k (j : Int) a'.length a' = k0 (a' ++ openFrom (r.drop j) (j : Int)).length (a' ++ openFrom (r.drop j) (j : Int))
  | 0, j, a', h1, h2, _ => by omega
  | k + 1, j, a', h1, h2, h3 => by
    unfold refMakeF_l6 refMakeF_s8
    rw [br_if]
    by_cases hc : j < r.length
    · rw [if_pos (by simpa using hc), List.drop_zero, List.take_length, grd_of (by simp; omega), br_if, List.drop_eq_getElem_cons hc, openFrom, wrap_i64 (by omega) (by omega), show (j : Int) + 1 = ((j + 1 : Nat) : Int) by omega]
      by_cases h : r[j] = 0
      · rw [if_pos (by simpa using (hr j hc).1 h), if_pos h, grd_of (beq_self _), grd_of (okN_of (by omega) (by omega))]
        have := refMake_core11 fuel a b d r hx hb hr k0 k (j + 1) (a' ++ [(j : Int)]) (by omega) (by omega) (by simp; omega)
        rw [List.append_assoc] at this
        exact this
      · rw [if_neg (by intro g; exact h ((hr j hc).2 (by simpa using g))), if_neg h]
        exact refMake_core11 fuel a b d r hx hb hr k0 k (j + 1) a' (by omega) (by omega) (by omega)
    · rw [if_neg (by simpa using hc), List.drop_eq_nil_of_le (by omega), openFrom, List.append_nil]
theorem refMake_fst11 {R : Type} (fuel : Nat) (a b d : List Int) (r : List Int) (hx : r.length ≤ 64) (hb : b.length ≤ 1000) (hr : ∀ j : Nat, (hj : j < r.length) → (r[j] = 0 ↔ ¬ inL b (j : Int) = true)) (k0 : Nat → List Int → Option R) (k1 : Option R) : ∀ (k j : Nat), j ≤ r.length → r.length < j + k →
    refMakeF_l5 fuel a.length b.length d.length a b d k0 k1 k (r.length : Int) (j : Int) = if (openFrom (r.drop j) (j : Int)).length = 0 then k1 else k0 (openFrom (r.drop j) (j : Int)).length (openFrom (r.drop j) (j : Int))
  | 0, j, h1, h2 => by omega
  | k + 1, j, h1, h2 => by
    unfold refMakeF_l5 refMakeF_s7
    rw [br_if]
    by_cases hc : j < r.length
    · rw [if_pos (by simpa using hc), List.drop_zero, List.take_length, grd_of (by simp; omega), br_if, List.drop_eq_getElem_cons hc, openFrom, wrap_i64 (by omega) (by omega), show (j : Int) + 1 = ((j + 1 : Nat) : Int) by omega]
      by_cases h : r[j] = 0
      · rw [if_pos (by simpa using (hr j hc).1 h), if_pos h, if_neg (by simp)]
        cases k with
        | zero => omega
        | succ k => exact refMake_core11 fuel a b d r hx hb hr _ (k + 1) (j + 1) [(j : Int)] (by omega) (by omega) (by simp)
      · rw [if_neg (by intro g; exact h ((hr j hc).2 (by simpa using g))), if_neg h]
        exact refMake_fst11 fuel a b d r hx hb hr k0 k1 k (j + 1) (by omega) (by omega)
    · rw [if_neg (by simpa using hc), List.drop_eq_nil_of_le (by omega), if_pos (by rfl)]
theorem refMake_o01 {R : Type} (fuel N : Nat) (m : List Rw) (k0 : Nat → Nat → Nat → List Int → List Int → List Int → Option R) (k1 : Nat → Nat → List Int → List Int → Option R) : ∀ (f k : Nat) (b d r c : List Int), RInv (N : Int) m [] b d r c → opens c ≤ f → f < k →
    refMakeF_l2 fuel (N : Int) m k0 k1 k b.length d.length b d = if (plnN (N : Int) m f [] b d r c).1.length = 0 then k1 (plnN (N : Int) m f [] b d r c).2.1.length (plnN (N : Int) m f [] b d r c).2.2.1.length (plnN (N : Int) m f [] b d r c).2.1 (plnN (N : Int) m f [] b d r c).2.2.1 else k0 (plnN (N : Int) m f [] b d r c).1.length (plnN (N : Int) m f [] b d r c).2.1.length (plnN (N : Int) m f [] b d r c).2.2.1.length (plnN (N : Int) m f [] b d r c).1 (plnN (N : Int) m f [] b d r c).2.1 (plnN (N : Int) m f [] b d r c).2.2.1
  | f, 0, b, d, r, c, _, _, h => by omega
  | f, k + 1, b, d, r, c, hI, ho, hfk => by
    obtain ⟨⟨g1, g2⟩, _, _⟩ := mrt_iff.1 hI.may
    have hal := hI.al
    have hbl := hI.bl
    have hbd := hI.bd
    unfold refMakeF_l2 refMakeF_s3
    have hst := hI.step
    simp only [List.drop_zero, List.take_length, List.nil_append, List.append_nil] at hst ⊢
    rw [grd_of (by rw [hI.ok, hI.may]; simp; omega), grd_of (by simp; omega), grd_of (by rw [hI.ok, hI.may]; simp; omega), br_if]
    rcases hst with ⟨q, i, hq, h1, h2, h3, h4, h5, h6, h7, hJ⟩ | ⟨h1, h2, h3, h4⟩ | ⟨i, h1, h2, h3, h4, h5, hJ⟩
    · rw [h3, if_pos (by simp), bnd_of ((ix_nat _ q).trans (List.getElem?_eq_getElem hq)), grd_of (by simp; omega), grd_of (by rw [h4, h5]; simp; omega), h6, bnd_of (show ix [(i : Int)] 0 = some (i : Int) from rfl), grd_of (beq_self _), grd_of (okN_of (by omega) (by omega)), grd_of (beq_self _), grd_of (okN_of (by omega) (by omega))]
      obtain ⟨f', rfl⟩ : ∃ f', f = f' + 1 := ⟨f - 1, by omega⟩
      rw [plnN_one f' h1 h2]
      exact refMake_o01 fuel N m k0 k1 f' k _ _ _ _ hJ (by omega) (by omega)
    · rw [h2, if_neg (by decide), br_if, if_neg (by simpa using h4), plnN_stop h1 h3]
      try rfl
    · rw [h2, if_neg (by decide), br_if, h4, if_pos (by simp)]
      obtain ⟨f', rfl⟩ : ∃ f', f = f' + 1 := ⟨f - 1, by omega⟩
      rw [plnN_most f' h1 h3]
      obtain ⟨x, y, z, e2, _, _⟩ := mk_ext (N : Int) m f' ([] ++ [(i : Int)]) b d r (c.set i 1)
      rw [if_neg (by rw [e2]; simp)]
      exact refMake_o11 fuel N m k0 f' k _ b d r _ hJ (by omega) (by omega)
theorem refMake_core01 {R : Type} (fuel : Nat) (b d : List Int) (r : List Int) (hx : r.length ≤ 64) (hb : b.length ≤ 1000) (hr : ∀ j : Nat, (hj : j < r.length) → (r[j] = 0 ↔ ¬ inL b (j : Int) = true)) (k0 : Nat → List Int → Option R) : ∀ (k j : Nat) (a' : List Int), j ≤ r.length → r.length < j + k → a'.length ≤ j →
    refMakeF_l8 fuel (r.length : Int) b.length d.length b d k0 k (j : Int) a'.length a' = k0 (a' ++ openFrom (r.drop j) (j : Int)).length (a' ++ openFrom (r.drop j) (j : Int))
  | 0, j, a', h1, h2, _ => by omega
  | k + 1, j, a', h1, h2, h3 => by
    unfold refMakeF_l8 refMakeF_s13
    rw [br_if]
    by_cases hc : j < r.length
    · rw [if_pos (by simpa using hc), List.drop_zero, List.take_length, grd_of (by simp; omega), br_if, List.drop_eq_getElem_cons hc, openFrom, wrap_i64 (by omega) (by omega), show (j : Int) + 1 = ((j + 1 : Nat) : Int) by omega]
      by_cases h : r[j] = 0
      · rw [if_pos (by simpa using (hr j hc).1 h), if_pos h, grd_of (beq_self _), grd_of (okN_of (by omega) (by omega))]
        have := refMake_core01 fuel b d r hx hb hr k0 k (j + 1) (a' ++ [(j : Int)]) (by omega) (by omega) (by simp; omega)
        rw [List.append_assoc] at this
        exact this
      · rw [if_neg (by intro g; exact h ((hr j hc).2 (by simpa using g))), if_neg h]
        exact refMake_core01 fuel b d r hx hb hr k0 k (j + 1) a' (by omega) (by omega) (by omega)
    · rw [if_neg (by simpa using hc), List.drop_eq_nil_of_le (by omega), openFrom, List.append_nil]
theorem refMake_fst01 {R : Type} (fuel : Nat) (b d : List Int) (r : List Int) (hx : r.length ≤ 64) (hb : b.length ≤ 1000) (hr : ∀ j : Nat, (hj : j < r.length) → (r[j] = 0 ↔ ¬ inL b (j : Int) = true)) (k0 : Nat → List Int → Option R) (k1 : Option R) : ∀ (k j : Nat), j ≤ r.length → r.length < j + k →
    refMakeF_l7 fuel b.length d.length b d k0 k1 k (r.length : Int) (j : Int) = if (openFrom (r.drop j) (j : Int)).length = 0 then k1 else k0 (openFrom (r.drop j) (j : Int)).length (openFrom (r.drop j) (j : Int))
  | 0, j, h1, h2 => by omega
  | k + 1, j, h1, h2 => by
    unfold refMakeF_l7 refMakeF_s12
    rw [br_if]
    by_cases hc : j < r.length
    · rw [if_pos (by simpa using hc), List.drop_zero, List.take_length, grd_of (by simp; omega), br_if, List.drop_eq_getElem_cons hc, openFrom, wrap_i64 (by omega) (by omega), show (j : Int) + 1 = ((j + 1 : Nat) : Int) by omega]
      by_cases h : r[j] = 0
      · rw [if_pos (by simpa using (hr j hc).1 h), if_pos h, if_neg (by simp)]
        cases k with
        | zero => omega
        | succ k => exact refMake_core01 fuel b d r hx hb hr _ (k + 1) (j + 1) [(j : Int)] (by omega) (by omega) (by simp)
      · rw [if_neg (by intro g; exact h ((hr j hc).2 (by simpa using g))), if_neg h]
        exact refMake_fst01 fuel b d r hx hb hr k0 k1 k (j + 1) (by omega) (by omega)
    · rw [if_neg (by simpa using hc), List.drop_eq_nil_of_le (by omega), if_pos (by rfl)]
theorem refMake_o10 {R : Type} (fuel N : Nat) (m : List Rw) (k0 : Nat → Nat → Nat → List Int → List Int → List Int → Option R) (k2 : Nat → List Int → Option R) : ∀ (f k : Nat) (a r c : List Int), RInv (N : Int) m a [] [] r c → opens c ≤ f → f < k →
    refMakeF_l4 fuel (N : Int) m k0 k2 k a.length a = if (plnN (N : Int) m f a [] [] r c).2.1.length = 0 then k2 (plnN (N : Int) m f a [] [] r c).1.length (plnN (N : Int) m f a [] [] r c).1 else k0 (plnN (N : Int) m f a [] [] r c).1.length (plnN (N : Int) m f a [] [] r c).2.1.length (plnN (N : Int) m f a [] [] r c).2.2.1.length (plnN (N : Int) m f a [] [] r c).1 (plnN (N : Int) m f a [] [] r c).2.1 (plnN (N : Int) m f a [] [] r c).2.2.1
  | f, 0, a, r, c, _, _, h => by omega
  | f, k + 1, a, r, c, hI, ho, hfk => by
    obtain ⟨⟨g1, g2⟩, _, _⟩ := mrt_iff.1 hI.may
    have hal := hI.al
    have hbl := hI.bl
    have hbd := hI.bd
    unfold refMakeF_l4 refMakeF_s5
    have hst := hI.step
    simp only [List.drop_zero, List.take_length, List.nil_append, List.append_nil] at hst ⊢
    rw [grd_of (by rw [hI.ok, hI.may]; simp; omega), grd_of (by simp; omega), grd_of (by rw [hI.ok, hI.may]; simp; omega), br_if]
    rcases hst with ⟨q, i, hq, h1, h2, h3, h4, h5, h6, h7, hJ⟩ | ⟨h1, h2, h3, h4⟩ | ⟨i, h1, h2, h3, h4, h5, hJ⟩
    · rw [h3, if_pos (by simp), bnd_of ((ix_nat _ q).trans (List.getElem?_eq_getElem hq)), grd_of (by simp; omega), grd_of (by rw [h4, h5]; simp; omega), h6, bnd_of (show ix [(i : Int)] 0 = some (i : Int) from rfl)]
      obtain ⟨f', rfl⟩ : ∃ f', f = f' + 1 := ⟨f - 1, by omega⟩
      rw [plnN_one f' h1 h2]
      obtain ⟨x, y, z, _, e2, _⟩ := mk_ext (N : Int) m f' a ([] ++ [(q : Int)]) ([] ++ [(i : Int)]) (r.set q 1) (c.set i 1)
      rw [if_neg (by rw [e2]; simp)]
      exact refMake_o11 fuel N m k0 f' k a _ _ _ _ hJ (by omega) (by omega)
    · rw [h2, if_neg (by decide), br_if, if_neg (by simpa using h4), plnN_stop h1 h3]
      try rfl
    · rw [h2, if_neg (by decide), br_if, h4, if_pos (by simp), grd_of (beq_self _), grd_of (okN_of (by omega) (by omega))]
      obtain ⟨f', rfl⟩ : ∃ f', f = f' + 1 := ⟨f - 1, by omega⟩
      rw [plnN_most f' h1 h3]
      exact refMake_o10 fuel N m k0 k2 f' k _ r _ hJ (by omega) (by omega)
theorem refMake_core10 {R : Type} (fuel : Nat) (a : List Int) (r : List Int) (hx : r.length ≤ 64) (hr : ∀ j : Nat, (hj : j < r.length) → (r[j] = 0 ↔ ¬ inL ([] : List Int) (j : Int) = true)) (k0 : Nat → List Int → Option R) : ∀ (k j : Nat) (a' : List Int), j ≤ r.length → r.length < j + k → a'.length ≤ j →
    refMakeF_l10 fuel (r.length : Int) a.length a k0 k (j : Int) a'.length a' = k0 (a' ++ openFrom (r.drop j) (j : Int)).length (a' ++ openFrom (r.drop j) (j : Int))
  | 0, j, a', h1, h2, _ => by omega
  | k + 1, j, a', h1, h2, h3 => by
    unfold refMakeF_l10 refMakeF_s18
    rw [br_if]
    by_cases hc : j < r.length
    · rw [if_pos (by simpa using hc), grd_of (by rfl), br_if, List.drop_eq_getElem_cons hc, openFrom, wrap_i64 (by omega) (by omega), show (j : Int) + 1 = ((j + 1 : Nat) : Int) by omega]
      by_cases h : r[j] = 0
      · rw [if_pos (by simpa using (hr j hc).1 h), if_pos h, grd_of (beq_self _), grd_of (okN_of (by omega) (by omega))]
        have := refMake_core10 fuel a r hx hr k0 k (j + 1) (a' ++ [(j : Int)]) (by omega) (by omega) (by simp; omega)
        rw [List.append_assoc] at this
        exact this
      · rw [if_neg (by intro g; exact h ((hr j hc).2 (by simpa using g))), if_neg h]
        exact refMake_core10 fuel a r hx hr k0 k (j + 1) a' (by omega) (by omega) (by omega)
    · rw [if_neg (by simpa using hc), List.drop_eq_nil_of_le (by omega), openFrom, List.append_nil]
theorem refMake_fst10 {R : Type} (fuel : Nat) (a : List Int) (r : List Int) (hx : r.length ≤ 64) (hr : ∀ j : Nat, (hj : j < r.length) → (r[j] = 0 ↔ ¬ inL ([] : List Int) (j : Int) = true)) (k0 : Nat → List Int → Option R) (k1 : Option R) : ∀ (k j : Nat), j ≤ r.length → r.length < j + k →
    refMakeF_l9 fuel a.length a k0 k1 k (r.length : Int) (j : Int) = if (openFrom (r.drop j) (j : Int)).length = 0 then k1 else k0 (openFrom (r.drop j) (j : Int)).length (openFrom (r.drop j) (j : Int))
  | 0, j, h1, h2 => by omega
  | k + 1, j, h1, h2 => by
    unfold refMakeF_l9 refMakeF_s17
    rw [br_if]
    by_cases hc : j < r.length
    · rw [if_pos (by simpa using hc), grd_of (by rfl), br_if, List.drop_eq_getElem_cons hc, openFrom, wrap_i64 (by omega) (by omega), show (j : Int) + 1 = ((j + 1 : Nat) : Int) by omega]
      by_cases h : r[j] = 0
      · rw [if_pos (by simpa using (hr j hc).1 h), if_pos h, if_neg (by simp)]
        cases k with
        | zero => omega
        | succ k => exact refMake_core10 fuel a r hx hr _ (k + 1) (j + 1) [(j : Int)] (by omega) (by omega) (by simp)
      · rw [if_neg (by intro g; exact h ((hr j hc).2 (by simpa using g))), if_neg h]
        exact refMake_fst10 fuel a r hx hr k0 k1 k (j + 1) (by omega) (by omega)
    · rw [if_neg (by simpa using hc), List.drop_eq_nil_of_le (by omega), if_pos (by rfl)]
theorem refMake_o00 {R : Type} (fuel N : Nat) (m : List Rw) (k0 : Nat → Nat → Nat → List Int → List Int → List Int → Option R) (k1 : Nat → Nat → List Int → List Int → Option R) (k2 : Nat → List Int → Option R) (k3 : Option R) (f k : Nat) (r c : List Int) (hI : RInv (N : Int) m [] [] [] r c) (ho : opens c ≤ f) (hfk : f < k) :
    refMakeF_l1 fuel (N : Int) m k0 k1 k2 k3 k   = if (plnN (N : Int) m f [] [] [] r c).1.length = 0 then (if (plnN (N : Int) m f [] [] [] r c).2.1.length = 0 then k3 else k1 (plnN (N : Int) m f [] [] [] r c).2.1.length (plnN (N : Int) m f [] [] [] r c).2.2.1.length (plnN (N : Int) m f [] [] [] r c).2.1 (plnN (N : Int) m f [] [] [] r c).2.2.1) else (if (plnN (N : Int) m f [] [] [] r c).2.1.length = 0 then k2 (plnN (N : Int) m f [] [] [] r c).1.length (plnN (N : Int) m f [] [] [] r c).1 else k0 (plnN (N : Int) m f [] [] [] r c).1.length (plnN (N : Int) m f [] [] [] r c).2.1.length (plnN (N : Int) m f [] [] [] r c).2.2.1.length (plnN (N : Int) m f [] [] [] r c).1 (plnN (N : Int) m f [] [] [] r c).2.1 (plnN (N : Int) m f [] [] [] r c).2.2.1) := by
    obtain ⟨k, rfl⟩ : ∃ k', k = k' + 1 := ⟨k - 1, by omega⟩
    obtain ⟨⟨g1, g2⟩, _, _⟩ := mrt_iff.1 hI.may
    have hal := hI.al
    have hbl := hI.bl
    have hbd := hI.bd
    unfold refMakeF_l1 refMakeF_s2
    have hst := hI.step
    simp only [List.drop_zero, List.take_length, List.nil_append, List.append_nil] at hst ⊢
    rw [grd_of (by rw [hI.ok, hI.may]; rfl), grd_of (by rfl), grd_of (by rw [hI.ok, hI.may]; rfl), br_if]
    rcases hst with ⟨q, i, hq, h1, h2, h3, h4, h5, h6, h7, hJ⟩ | ⟨h1, h2, h3, h4⟩ | ⟨i, h1, h2, h3, h4, h5, hJ⟩
    · rw [h3, if_pos (by simp), bnd_of ((ix_nat _ q).trans (List.getElem?_eq_getElem hq)), grd_of (by rfl), grd_of (by rw [h4, h5]; simp), h6, bnd_of (show ix [(i : Int)] 0 = some (i : Int) from rfl)]
      obtain ⟨f', rfl⟩ : ∃ f', f = f' + 1 := ⟨f - 1, by omega⟩
      rw [plnN_one f' h1 h2]
      obtain ⟨x, y, z, _, e2, _⟩ := mk_ext (N : Int) m f' [] ([] ++ [(q : Int)]) ([] ++ [(i : Int)]) (r.set q 1) (c.set i 1)
      have hb : ¬ (plnN (N : Int) m f' [] ([] ++ [(q : Int)]) ([] ++ [(i : Int)]) (r.set q 1) (c.set i 1)).2.1.length = 0 := by rw [e2]; simp
      rw [if_neg hb, if_neg hb]
      exact refMake_o01 fuel N m k0 k1 f' k _ _ _ _ hJ (by omega) (by omega)
    · rw [h2, if_neg (by decide), br_if, if_neg (by simpa using h4), plnN_stop h1 h3]
      try rfl
    · rw [h2, if_neg (by decide), br_if, h4, if_pos (by simp)]
      obtain ⟨f', rfl⟩ : ∃ f', f = f' + 1 := ⟨f - 1, by omega⟩
      rw [plnN_most f' h1 h3]
      obtain ⟨x, y, z, e2, _, _⟩ := mk_ext (N : Int) m f' ([] ++ [(i : Int)]) [] [] r (c.set i 1)
      rw [if_neg (by rw [e2]; simp)]
      exact refMake_o10 fuel N m k0 k2 f' k _ r _ hJ (by omega) (by omega)
theorem refMake_core00 {R : Type} (fuel : Nat)  (r : List Int) (hx : r.length ≤ 64) (hr : ∀ j : Nat, (hj : j < r.length) → (r[j] = 0 ↔ ¬ inL ([] : List Int) (j : Int) = true)) (k0 : Nat → List Int → Option R) : ∀ (k j : Nat) (a' : List Int), j ≤ r.length → r.length < j + k → a'.length ≤ j →
    refMakeF_l12 fuel (r.length : Int)  k0 k (j : Int) a'.length a' = k0 (a' ++ openFrom (r.drop j) (j : Int)).length (a' ++ openFrom (r.drop j) (j : Int))
  | 0, j, a', h1, h2, _ => by omega
  | k + 1, j, a', h1, h2, h3 => by
    unfold refMakeF_l12 refMakeF_s23
    rw [br_if]
    by_cases hc : j < r.length
    · rw [if_pos (by simpa using hc), grd_of (by rfl), br_if, List.drop_eq_getElem_cons hc, openFrom, wrap_i64 (by omega) (by omega), show (j : Int) + 1 = ((j + 1 : Nat) : Int) by omega]
      by_cases h : r[j] = 0
      · rw [if_pos (by simpa using (hr j hc).1 h), if_pos h, grd_of (beq_self _), grd_of (okN_of (by omega) (by omega))]
        have := refMake_core00 fuel  r hx hr k0 k (j + 1) (a' ++ [(j : Int)]) (by omega) (by omega) (by simp; omega)
        rw [List.append_assoc] at this
        exact this
      · rw [if_neg (by intro g; exact h ((hr j hc).2 (by simpa using g))), if_neg h]
        exact refMake_core00 fuel  r hx hr k0 k (j + 1) a' (by omega) (by omega) (by omega)
    · rw [if_neg (by simpa using hc), List.drop_eq_nil_of_le (by omega), openFrom, List.append_nil]
theorem refMake_fst00 {R : Type} (fuel : Nat)  (r : List Int) (hx : r.length ≤ 64) (hr : ∀ j : Nat, (hj : j < r.length) → (r[j] = 0 ↔ ¬ inL ([] : List Int) (j : Int) = true)) (k0 : Nat → List Int → Option R) (k1 : Option R) : ∀ (k j : Nat), j ≤ r.length → r.length < j + k →
    refMakeF_l11 fuel  k0 k1 k (r.length : Int) (j : Int) = if (openFrom (r.drop j) (j : Int)).length = 0 then k1 else k0 (openFrom (r.drop j) (j : Int)).length (openFrom (r.drop j) (j : Int))
  | 0, j, h1, h2 => by omega
  | k + 1, j, h1, h2 => by
    unfold refMakeF_l11 refMakeF_s22
    rw [br_if]
    by_cases hc : j < r.length
    · rw [if_pos (by simpa using hc), grd_of (by rfl), br_if, List.drop_eq_getElem_cons hc, openFrom, wrap_i64 (by omega) (by omega), show (j : Int) + 1 = ((j + 1 : Nat) : Int) by omega]
      by_cases h : r[j] = 0
      · rw [if_pos (by simpa using (hr j hc).1 h), if_pos h, if_neg (by simp)]
        cases k with
        | zero => omega
        | succ k => exact refMake_core00 fuel  r hx hr _ (k + 1) (j + 1) [(j : Int)] (by omega) (by omega) (by simp)
      · rw [if_neg (by intro g; exact h ((hr j hc).2 (by simpa using g))), if_neg h]
        exact refMake_fst00 fuel  r hx hr k0 k1 k (j + 1) (by omega) (by omega)
    · rw [if_neg (by simpa using hc), List.drop_eq_nil_of_le (by omega), if_pos (by rfl)]

theorem refMake_fact (n : Int) (m : List (Int × List Int)) (hg : (okM m && mrt n m) = true) : Fact Tryd.prog gTab 19 [.agg [.s (.int .i64 n), .lt (.pair (.int .i64) (.sl (.int .u64))) m]] [] (.agg [.li .i64 (mkI n m), .li .i64 (mkR n m), .li .i64 (mkC n m), .li .i64 (mkO n m)], []) := by
  simp only [Bool.and_eq_true] at hg
  obtain ⟨hok, hm⟩ := hg
  obtain ⟨⟨z1, z2⟩, hml, _⟩ := mrt_iff.1 hm
  have hI := rinv_start hok hm
  obtain ⟨N, rfl⟩ : ∃ N : Nat, n = (N : Int) := ⟨n.toNat, by omega⟩
  rw [Int.toNat_natCast] at hI
  have ho := opens_le (List.replicate N 0)
  rw [List.length_replicate] at ho
  have hJ := rinv_end 64 hI
  have hE : mkEnd (N : Int) m = plnN (N : Int) m 64 [] [] [] (List.replicate m.length 0) (List.replicate N 0) := by rw [mkEnd_eq]; unfold mkEndI; rw [Int.toNat_natCast]
  have hloop := fun k0 k1 k2 k3 => refMake_o00 (R := Out) 70 N m k0 k1 k2 k3 64 70 (List.replicate m.length 0) (List.replicate N 0) hI (by omega) (by decide)
  rw [mkI_eq, mkR_eq, mkC_eq, mkO_eq]
  unfold mkII mkRI mkCI mkOI
  rw [if_pos hm, if_pos hm, if_pos hm, if_pos hm, hE]
  clear hE
  generalize plnN (N : Int) m 64 [] [] [] (List.replicate m.length 0) (List.replicate N 0) = q at *
  obtain ⟨a, b, d, r, c⟩ := q
  dsimp only at hJ hloop ⊢
  have hrl : r.length = m.length := hJ.rl
  have hbd := hJ.bd
  have hbl := hJ.bl
  have hx : r.length ≤ 64 := by omega
  have hr : ∀ j : Nat, (hj : j < r.length) → (r[j] = 0 ↔ ¬ inL b (j : Int) = true) := fun j hj => by
    have h := hJ.hr j (by omega)
    have e : r.getD j 0 = r[j] := by rw [List.getD_eq_getElem?_getD, List.getElem?_eq_getElem hj]; rfl
    rw [e] at h
    rw [inL_iff]
    constructor
    · intro h0 h1; have := h.2.2 h1; omega
    · intro h0
      rcases h.1 with h1 | h1
      · exact h1
      · exact absurd (h.2.1 h1) h0
  refine Fact.out (v := .agg [vOf a, vOf b, vOf d, vOf (openFrom r 0)]) (bs' := []) ?_ (fun _ _ _ x h => RV_agg_two (fun _ h => RVs_two (fun _ h => RV_vOf _ _ h) (fun _ h => RVs_two (fun _ h => RV_vOf _ _ h) (fun _ h => RVs_two (fun _ h => RV_vOf _ _ h) (fun _ h => RVs_two (fun _ h => RV_vOf _ _ h) (fun _ h => h) h) h) h) h) h)
  refine callN_fact hN hM T_refOne_ok (n := 70) (mode := mode15) ?_
  rw [refMakeF_eq]
  unfold refMakeF refMakeF_s1
  dsimp only
  rw [hloop]
  by_cases ha : a.length = 0
  · rw [if_pos ha, vOf_nil ha]
    by_cases hb : b.length = 0
    · have hb0 := List.eq_nil_of_length_eq_zero hb
      subst hb0
      rw [if_pos hb, vOf_nil hb, vOf_nil (show d.length = 0 by omega)]
      unfold refMakeF_s21
      have hf := fun k0 k1 => refMake_fst00 (R := Out) 70 r hx hr k0 k1 70 0 (by omega) (by omega)
      rw [List.drop_zero, show ((0 : Nat) : Int) = 0 from rfl, hrl] at hf
      dsimp only
      rw [hf]
      by_cases h : (openFrom r 0).length = 0
      · rw [if_pos h, vOf_nil h]; rfl
      · rw [if_neg h, vOf_li h]
        unfold refMakeF_s24
        rw [List.drop_zero, List.take_length]
    · rw [if_neg hb, vOf_li hb, vOf_li (show ¬ d.length = 0 by omega)]
      unfold refMakeF_s11
      have hf := fun k0 k1 => refMake_fst01 (R := Out) 70 b d r hx (by omega) hr k0 k1 70 0 (by omega) (by omega)
      rw [List.drop_zero, show ((0 : Nat) : Int) = 0 from rfl, hrl] at hf
      dsimp only
      rw [hf]
      by_cases h : (openFrom r 0).length = 0
      · rw [if_pos h, vOf_nil h]
        unfold refMakeF_s15
        rw [List.drop_zero, List.take_length, List.drop_zero, List.take_length]
      · rw [if_neg h, vOf_li h]
        unfold refMakeF_s14
        rw [List.drop_zero, List.take_length, List.drop_zero, List.take_length, List.drop_zero, List.take_length]
  · rw [if_neg ha, vOf_li ha]
    by_cases hb : b.length = 0
    · have hb0 := List.eq_nil_of_length_eq_zero hb
      subst hb0
      rw [if_pos hb, vOf_nil hb, vOf_nil (show d.length = 0 by omega)]
      unfold refMakeF_s16
      have hf := fun k0 k1 => refMake_fst10 (R := Out) 70 a r hx hr k0 k1 70 0 (by omega) (by omega)
      rw [List.drop_zero, show ((0 : Nat) : Int) = 0 from rfl, hrl] at hf
      dsimp only
      rw [hf]
      by_cases h : (openFrom r 0).length = 0
      · rw [if_pos h, vOf_nil h]
        unfold refMakeF_s20
        rw [List.drop_zero, List.take_length]
      · rw [if_neg h, vOf_li h]
        unfold refMakeF_s19
        rw [List.drop_zero, List.take_length, List.drop_zero, List.take_length]
    · rw [if_neg hb, vOf_li hb, vOf_li (show ¬ d.length = 0 by omega)]
      unfold refMakeF_s6
      have hf := fun k0 k1 => refMake_fst11 (R := Out) 70 a b d r hx (by omega) hr k0 k1 70 0 (by omega) (by omega)
      rw [List.drop_zero, show ((0 : Nat) : Int) = 0 from rfl, hrl] at hf
      dsimp only
      rw [hf]
      by_cases h : (openFrom r 0).length = 0
      · rw [if_pos h, vOf_nil h]
        unfold refMakeF_s10
        rw [List.drop_zero, List.take_length, List.drop_zero, List.take_length, List.drop_zero, List.take_length]
      · rw [if_neg h, vOf_li h]
        unfold refMakeF_s9
        rw [List.drop_zero, List.take_length, List.drop_zero, List.take_length, List.drop_zero, List.take_length, List.drop_zero, List.take_length]
noncomputable def refMake_ent : List V → List Blk → Option (Bool × Out)
  | [.agg [.s (.int .i64 n), w0]], [] => (asSl (.pair (.int .i64) (.sl (.int .u64))) w0).bind fun m => some ((okM m && mrt n m), (.agg [.li .i64 (mkI n m), .li .i64 (mkR n m), .li .i64 (mkC n m), .li .i64 (mkO n m)], []))
  | _, _ => none
theorem refMake_ok : ∀ args bs out, refMake_ent args bs = some (true, out) → Fact Tryd.prog gTab 19 args bs out := by
  intro args bs out h
  unfold refMake_ent at h
  split at h
  · rename_i n w0
    obtain ⟨m, h_m, h⟩ := Option.bind_eq_some_iff.1 h
    simp only [Option.some.injEq, Prod.mk.injEq] at h
    obtain ⟨hg, rfl⟩ := h
    exact (refMake_fact n m hg).args (fun _ _ _ => fun _ h => RVs_two (fun _ h => RV_agg_two (fun _ h => RVs_two (fun _ h => h) (fun _ h => RVs_two (fun _ h => RV_sl (s := (.pair (.int .i64) (.sl (.int .u64)))) h_m h) (fun _ h => h) h) h) h) (fun _ h => h) h)
  · cases h
noncomputable def T_refMake : Tbl := Tbl.cons 19 refMake_ent T_refOne
theorem T_refMake_ok : CallOk Tryd.prog gTab T_refMake := cons_ok T_refOne_ok refMake_ok
def eqI_li (a b : List Int) : Bool := decide (a = b)
noncomputable def eqS_li : List Int → List Int → Bool := Classical.choose (⟨eqI_li, rfl⟩ : ∃ f, f = eqI_li)
theorem eqS_li_eq : eqS_li = eqI_li := Classical.choose_spec (⟨eqI_li, rfl⟩ : ∃ f, f = eqI_li)
theorem eqS_li_self (a : List Int) : eqS_li a a = true := by rw [eqS_li_eq]; simp [eqI_li]
/-! downpour/downpourref01.Numbers -/
noncomputable abbrev qd29 (fuel : Nat) : Ctx Out := (fnX Tryd.prog mode15 T_refMake fuel 26 0)
noncomputable def refNumbersF_s2 {R : Type} (w6 w5 : Int) (a b : List Int) (c0 : Option R) (c1 : Int → Int → Option R) (c2 : Option R) : Option R :=
  br (decide (w6 < w5))
    (bnd (ix a w6) fun e9 =>
    bnd (ix b w6) fun e0 =>
    br (e9 != e0)
      (c0)
      (c1 w5 (IntKind.i64.wrap (w6 + 1))))
    (c2)
theorem refNumbersF_s2_eq (fuel k : Nat) (K : Ex → St → Option Out) (w6 w5 : Int) (a b : List Int) : lpN (sub (bodyOf Tryd.prog 36) [1, 1, 0, 1, 0, 0]) (qd29 fuel) 16 [0, 1, 4, 12, 13] (k + 1) ⟨[(0, vL a), (1, vL b), (4, vB false), (12, vI w5), (13, vI w6)], [], 0, none⟩ K = refNumbersF_s2 w6 w5 a b (K .ret ⟨[(4, vB false)], [], 0, none⟩) (fun a0 a1 => lpN (sub (bodyOf Tryd.prog 36) [1, 1, 0, 1, 0, 0]) (qd29 fuel) 16 [0, 1, 4, 12, 13] k ⟨[(0, vL a), (1, vL b), (4, vB false), (12, vI a0), (13, vI a1)], [], 0, none⟩ K) (K (.exit 0) ⟨[(4, vB false)], [], 0, none⟩) := by kernel_rfl
noncomputable def refNumbersF_l1 {R : Type} (fuel : Nat) (a b : List Int) (k0 k1 : Option R) : Nat → Int → Int → Option R
  | 0, _, _ => none
  | k + 1, w5, w6 =>
    (refNumbersF_s2 w6 w5 a b (k0) (fun a0 a1 => ( refNumbersF_l1 fuel a b k0 k1 k a0 a1 )) (k1))
theorem refNumbersF_l1_eq (fuel : Nat) (a b : List Int) (K : Ex → St → Option Out) : ∀ (k : Nat) (w5 w6 : Int), lpN (sub (bodyOf Tryd.prog 36) [1, 1, 0, 1, 0, 0]) (qd29 fuel) 16 [0, 1, 4, 12, 13] k ⟨[(0, vL a), (1, vL b), (4, vB false), (12, vI w5), (13, vI w6)], [], 0, none⟩ K = refNumbersF_l1 fuel a b (K .ret ⟨[(4, vB false)], [], 0, none⟩) (K (.exit 0) ⟨[(4, vB false)], [], 0, none⟩) k w5 w6
  | 0, _, _ => rfl
  | k + 1, w5, w6 => by
    unfold refNumbersF_l1
    exact (refNumbersF_s2_eq fuel k K w6 w5 a b).trans (congr (congr (congr (Eq.refl (refNumbersF_s2 (R := Out) w6 w5 a b)) (rfl)) (funext fun a0 => funext fun a1 => refNumbersF_l1_eq fuel a b K k a0 a1)) (rfl))
noncomputable def refNumbersF_s3 {R : Type}  (c0 : Bool → Option R) : Option R :=
  c0 false
theorem refNumbersF_s3_eq (fuel : Nat)   : (kont (qd29 fuel) (bodyOf Tryd.prog 36) [1, 1, 0, 1, 0] 16 (endK Tryd.prog 0 0 36)) .ret ⟨[(4, vB false)], [], 0, none⟩ = refNumbersF_s3  (fun a0 => some (vB a0, [])) := by kernel_rfl
noncomputable def refNumbersF_s4 {R : Type}  (c0 : Bool → Option R) : Option R :=
  c0 true
theorem refNumbersF_s4_eq (fuel : Nat)   : (kont (qd29 fuel) (bodyOf Tryd.prog 36) [1, 1, 0, 1, 0] 16 (endK Tryd.prog 0 0 36)) (.exit 0) ⟨[(4, vB false)], [], 0, none⟩ = refNumbersF_s4  (fun a0 => some (vB a0, [])) := by kernel_rfl
noncomputable def refNumbersF_s1 {R : Type} (a b : List Int) (c0 : Bool → Option R) (c1 : Int → Int → Option R) : Option R :=
  br ((((a.length : Nat) : Int) : Int) != ((b.length : Nat) : Int))
    (c0 false)
    (c1 ((a.length : Nat) : Int) 0)
theorem refNumbersF_s1_eq (fuel : Nat)  (a b : List Int) : callN Tryd.prog mode15 T_refMake fuel 36 [vL a, vL b] [] = refNumbersF_s1 a b (fun a1 => some (vB a1, [])) (fun a0 a2 => lpN (sub (bodyOf Tryd.prog 36) [1, 1, 0, 1, 0, 0]) (qd29 fuel) 16 [0, 1, 4, 12, 13] fuel ⟨[(0, vL a), (1, vL b), (4, vB false), (12, vI a0), (13, vI a2)], [], 0, none⟩ (kont (qd29 fuel) (bodyOf Tryd.prog 36) [1, 1, 0, 1, 0] 16 (endK Tryd.prog 0 0 36))) := by kernel_rfl
noncomputable def refNumbersF {R : Type} (fuel : Nat) (a b : List Int) (r0 : Bool → Option R) : Option R :=
  (refNumbersF_s1 a b (fun a1 => r0 a1) (fun a0 a2 => (refNumbersF_l1 fuel a b ((refNumbersF_s3 (fun a3 => r0 a3))) ((refNumbersF_s4 (fun a4 => r0 a4))) fuel a0 a2)))
theorem refNumbersF_eq (fuel : Nat) (a b : List Int) : callN Tryd.prog mode15 T_refMake fuel 36 [.li .i64 a, .li .i64 b] [] = refNumbersF fuel a b (fun z0 => some (.s (.bool z0), [])) := by
  unfold refNumbersF
  exact (refNumbersF_s1_eq fuel  a b).trans (congr (congr (Eq.refl (refNumbersF_s1 (R := Out) a b)) (rfl)) (funext fun a0 => funext fun a1 => (refNumbersF_l1_eq fuel a b (kont (qd29 fuel) (bodyOf Tryd.prog 36) [1, 1, 0, 1, 0] 16 (endK Tryd.prog 0 0 36)) fuel a0 a1).trans (congrFun (congrFun (congrFun (congr (congr (Eq.refl (refNumbersF_l1 (R := Out) fuel a b)) ((refNumbersF_s3_eq fuel  ))) ((refNumbersF_s4_eq fuel  ))) fuel) a0) a1)))
theorem refNumbers_loop {R : Type} (fuel : Nat) (a b : List Int) (hab : a.length = b.length) (hx : a.length ≤ 1000000) (k0 k1 : Option R) : ∀ (k j : Nat), j ≤ a.length → a.length < j + k → refNumbersF_l1 fuel a b k0 k1 k (a.length : Int) (j : Int) = if a.drop j = b.drop j then k1 else k0
  | 0, j, h1, h2 => by omega
  | k + 1, j, h1, h2 => by
    unfold refNumbersF_l1 refNumbersF_s2
    rw [br_if]
    by_cases hc : j < a.length
    · have hc2 : j < b.length := by omega
      rw [if_pos (by simpa using hc), bnd_of ((ix_nat a j).trans (List.getElem?_eq_getElem hc)), bnd_of ((ix_nat b j).trans (List.getElem?_eq_getElem hc2)), br_if, List.drop_eq_getElem_cons hc, List.drop_eq_getElem_cons hc2, wrap_i64 (by omega) (by omega), show (j : Int) + 1 = ((j + 1 : Nat) : Int) by omega]
      dsimp only
      rw [refNumbers_loop fuel a b hab hx k0 k1 k (j + 1) (by omega) (by omega)]
      generalize a[j] = x
      generalize b[j] = y
      generalize a.drop (j + 1) = t
      generalize b.drop (j + 1) = u
      by_cases he : x = y <;> simp [he]
    · rw [if_neg (by simpa using hc), List.drop_eq_nil_of_le (by omega), List.drop_eq_nil_of_le (by omega)]
      simp
theorem refNumbers_fact (a : List Int) (b : List Int) (hg : (decide (List.length (α := Int) a ≤ 1000000)) = true) : Fact Tryd.prog gTab 36 [.li .i64 a, .li .i64 b] [] (.s (.bool (eqS_li a b)), []) := by
  have hg := of_decide_eq_true hg
  refine callN_fact hN hM T_refMake_ok (n := a.length + 1) (mode := mode15) ?_
  rw [refNumbersF_eq]
  unfold refNumbersF refNumbersF_s1
  rw [br_if]
  by_cases hab : a.length = b.length
  · rw [if_neg (by simp; omega)]
    dsimp only
    have := refNumbers_loop (R := Out) (a.length + 1) a b hab hg
    rw [show (0 : Int) = ((0 : Nat) : Int) from rfl, this _ _ _ _ (by omega) (by omega), List.drop_zero, List.drop_zero, eqS_li_eq]
    unfold eqI_li refNumbersF_s3 refNumbersF_s4
    by_cases h : a = b <;> simp [h]
  · rw [if_pos (by simp; omega), eqS_li_eq]
    unfold eqI_li
    have : a ≠ b := by rintro rfl; exact hab rfl
    simp [this]
noncomputable def refNumbers_ent : List V → List Blk → Option (Bool × Out)
  | [w0, w1], [] => (asSl (.int .i64) w0).bind fun a => (asSl (.int .i64) w1).bind fun b => some ((decide (List.length (α := Int) a ≤ 1000000)), (.s (.bool (eqS_li a b)), []))
  | _, _ => none
theorem refNumbers_ok : ∀ args bs out, refNumbers_ent args bs = some (true, out) → Fact Tryd.prog gTab 36 args bs out := by
  intro args bs out h
  unfold refNumbers_ent at h
  split at h
  · rename_i w0 w1
    obtain ⟨a, h_a, h⟩ := Option.bind_eq_some_iff.1 h
    obtain ⟨b, h_b, h⟩ := Option.bind_eq_some_iff.1 h
    simp only [Option.some.injEq, Prod.mk.injEq] at h
    obtain ⟨hg, rfl⟩ := h
    exact (refNumbers_fact a b hg).args (fun _ _ _ => fun _ h => RVs_two (fun _ h => RV_li h_a h) (fun _ h => RVs_two (fun _ h => RV_li h_b h) (fun _ h => h) h) h)
  · cases h
noncomputable def T_refNumbers : Tbl := Tbl.cons 36 refNumbers_ent T_refMake
theorem T_refNumbers_ok : CallOk Tryd.prog gTab T_refNumbers := cons_ok T_refMake_ok refNumbers_ok
/-! downpour/downpourref16.Same -/
noncomputable def refPlSameF_s1 {R : Type} (a ae b be d de o oe : List Int) (c0 : Bool → Option R) : Option R :=
  grd (decide (List.length (α := Int) a ≤ 1000000)) <|
  br (eqS_li a ae)
    (grd (decide (List.length (α := Int) b ≤ 1000000)) <|
    br (eqS_li b be)
      (grd (decide (List.length (α := Int) d ≤ 1000000)) <|
      br (eqS_li d de)
        (grd (decide (List.length (α := Int) o ≤ 1000000)) <|
        c0 (eqS_li o oe))
        (c0 false))
      (c0 false))
    (c0 false)
theorem refPlSameF_s1_eq (fuel : Nat)  (a ae b be d de o oe : List Int) : callN Tryd.prog mode15 T_refNumbers fuel 18 [.agg [vL a, vL b, vL d, vL o], .agg [vL ae, vL be, vL de, vL oe]] [] = refPlSameF_s1 a ae b be d de o oe (fun a1 => some (vB a1, [])) := by kernel_rfl
noncomputable def refPlSameF {R : Type} (fuel : Nat) (a b d o ae be de oe : List Int) (r0 : Bool → Option R) : Option R :=
  (refPlSameF_s1 a ae b be d de o oe (fun a1 => r0 a1))
theorem refPlSameF_eq (fuel : Nat) (a b d o ae be de oe : List Int) : callN Tryd.prog mode15 T_refNumbers fuel 18 [.agg [.li .i64 a, .li .i64 b, .li .i64 d, .li .i64 o], .agg [.li .i64 ae, .li .i64 be, .li .i64 de, .li .i64 oe]] [] = refPlSameF fuel a b d o ae be de oe (fun z0 => some (.s (.bool z0), [])) := by
  unfold refPlSameF
  exact (refPlSameF_s1_eq fuel  a ae b be d de o oe)
theorem refPlSame_fact (a : List Int) (b : List Int) (d : List Int) (o : List Int) (ae : List Int) (be : List Int) (de : List Int) (oe : List Int) (hg : (plOk a b d o) = true) : Fact Tryd.prog gTab 18 [.agg [.li .i64 a, .li .i64 b, .li .i64 d, .li .i64 o], .agg [.li .i64 ae, .li .i64 be, .li .i64 de, .li .i64 oe]] [] (.s (.bool (eqS_li a ae && (eqS_li b be && (eqS_li d de && eqS_li o oe)))), []) := by
  have h := hg
  rw [plOk_eq] at h
  unfold plOkI at h
  simp only [Bool.and_eq_true, decide_eq_true_eq] at h
  obtain ⟨⟨⟨h1, h2⟩, h3⟩, h4⟩ := h
  refine callN_fact hN hM T_refNumbers_ok (n := 0) (mode := mode15) ?_
  rw [refPlSameF_eq]
  unfold refPlSameF refPlSameF_s1
  rw [grd_of (by simp; omega), grd_of (by simp; omega), grd_of (by simp; omega), grd_of (by simp; omega)]
  cases eqS_li a ae <;> cases eqS_li b be <;> cases eqS_li d de <;> cases eqS_li o oe <;> rfl
noncomputable def refPlSame_ent : List V → List Blk → Option (Bool × Out)
  | [.agg [w0, w1, w2, w3], .agg [w4, w5, w6, w7]], [] => (asSl (.int .i64) w0).bind fun a => (asSl (.int .i64) w1).bind fun b => (asSl (.int .i64) w2).bind fun d => (asSl (.int .i64) w3).bind fun o => (asSl (.int .i64) w4).bind fun ae => (asSl (.int .i64) w5).bind fun be => (asSl (.int .i64) w6).bind fun de => (asSl (.int .i64) w7).bind fun oe => some ((plOk a b d o), (.s (.bool (eqS_li a ae && (eqS_li b be && (eqS_li d de && eqS_li o oe)))), []))
  | _, _ => none
theorem refPlSame_ok : ∀ args bs out, refPlSame_ent args bs = some (true, out) → Fact Tryd.prog gTab 18 args bs out := by
  intro args bs out h
  unfold refPlSame_ent at h
  split at h
  · rename_i w0 w1 w2 w3 w4 w5 w6 w7
    obtain ⟨a, h_a, h⟩ := Option.bind_eq_some_iff.1 h
    obtain ⟨b, h_b, h⟩ := Option.bind_eq_some_iff.1 h
    obtain ⟨d, h_d, h⟩ := Option.bind_eq_some_iff.1 h
    obtain ⟨o, h_o, h⟩ := Option.bind_eq_some_iff.1 h
    obtain ⟨ae, h_ae, h⟩ := Option.bind_eq_some_iff.1 h
    obtain ⟨be, h_be, h⟩ := Option.bind_eq_some_iff.1 h
    obtain ⟨de, h_de, h⟩ := Option.bind_eq_some_iff.1 h
    obtain ⟨oe, h_oe, h⟩ := Option.bind_eq_some_iff.1 h
    simp only [Option.some.injEq, Prod.mk.injEq] at h
    obtain ⟨hg, rfl⟩ := h
    exact (refPlSame_fact a b d o ae be de oe hg).args (fun _ _ _ => fun _ h => RVs_two (fun _ h => RV_agg_two (fun _ h => RVs_two (fun _ h => RV_li h_a h) (fun _ h => RVs_two (fun _ h => RV_li h_b h) (fun _ h => RVs_two (fun _ h => RV_li h_d h) (fun _ h => RVs_two (fun _ h => RV_li h_o h) (fun _ h => h) h) h) h) h) h) (fun _ h => RVs_two (fun _ h => RV_agg_two (fun _ h => RVs_two (fun _ h => RV_li h_ae h) (fun _ h => RVs_two (fun _ h => RV_li h_be h) (fun _ h => RVs_two (fun _ h => RV_li h_de h) (fun _ h => RVs_two (fun _ h => RV_li h_oe h) (fun _ h => h) h) h) h) h) h) (fun _ h => h) h) h)
  · cases h
noncomputable def T_refPlSame : Tbl := Tbl.cons 18 refPlSame_ent T_refNumbers
theorem T_refPlSame_ok : CallOk Tryd.prog gTab T_refPlSame := cons_ok T_refNumbers_ok refPlSame_ok
def mode16 : FuncId → Nat := fun f => 0
noncomputable def cutM (r : Rw) : Rw := (r.1, r.2.take 3)
noncomputable def fewMI (m : List Rw) : List Rw := (m.take 66).map cutM
noncomputable def fewMS : List Rw → List Rw := Classical.choose (⟨fewMI, rfl⟩ : ∃ f, f = fewMI)
theorem fewMS_eq : fewMS = fewMI := Classical.choose_spec (⟨fewMI, rfl⟩ : ∃ f, f = fewMI)
noncomputable def thinI (m : List Rw) : List Rw := if m.length ≤ 64 then m.take 24 else m
noncomputable def thinS : List Rw → List Rw := Classical.choose (⟨thinI, rfl⟩ : ∃ f, f = thinI)
theorem thinS_eq : thinS = thinI := Classical.choose_spec (⟨thinI, rfl⟩ : ∃ f, f = thinI)
theorem few_Mok {m : List Rw} (h : okM m = true) : okM (thinS (fewMS m)) = true ∧ (thinS (fewMS m)).length ≤ 66 := by
  have h1 : okM (fewMS m) = true ∧ (fewMS m).length ≤ 66 := by
    rw [fewMS_eq]; unfold fewMI
    refine ⟨okM_iff.2 fun r hr => ?_, by rw [List.length_map, List.length_take]; omega⟩
    obtain ⟨x, hx, rfl⟩ := List.mem_map.1 hr
    exact okW_iff.2 fun w hw => okW_iff.1 (okM_iff.1 h _ (List.mem_of_mem_take hx)) w (List.mem_of_mem_take hw)
  rw [thinS_eq]; unfold thinI
  split
  · exact ⟨okM_iff.2 fun r hr => okM_iff.1 h1.1 _ (List.mem_of_mem_take hr), by rw [List.length_take]; omega⟩
  · exact h1
theorem open_len : ∀ (l : List Int) (j : Int), (openFrom l j).length ≤ l.length
  | [], j => by rw [openFrom]; exact Nat.le_refl _
  | x :: t, j => by
    have := open_len t (j + 1)
    rw [openFrom]
    split <;> simp <;> omega
theorem mk_ok {n : Int} {m : List Rw} (hok : okM m = true) : plOk (mkI n m) (mkR n m) (mkC n m) (mkO n m) = true := by
  rw [plOk_eq]; unfold plOkI
  rw [mkI_eq, mkR_eq, mkC_eq, mkO_eq]
  unfold mkII mkRI mkCI mkOI
  by_cases hm : mrt n m = true
  · have hJ := plnN_inv 64 (minv_start hok hm)
    have hE : mkEnd n m = plnN n m 64 [] [] [] (List.replicate m.length 0) (List.replicate n.toNat 0) := by rw [mkEnd_eq]; rfl
    rw [if_pos hm, if_pos hm, if_pos hm, if_pos hm, hE]
    have h1 := hJ.al
    have h2 := hJ.bl
    have h3 := hJ.bd
    have h4 := hJ.rl
    have h5 := open_len (plnN n m 64 [] [] [] (List.replicate m.length 0) (List.replicate n.toNat 0)).2.2.2.1 0
    have h6 := (mrt_iff.1 hm).2.1
    simp only [Bool.and_eq_true, decide_eq_true_eq]
    omega
  · rw [if_neg hm, if_neg hm, if_neg hm, if_neg hm]; rfl
/-! downpour/downpourlaw16.few -/
noncomputable abbrev qd30 : Nat × Option Blk := (1, some ⟨24, .agg [vI 0, vN], true⟩)
noncomputable abbrev qd31 (n : Int) (m : List (Int × List Int)) : Nat × Option Blk := (0, some ⟨24, .agg [vI n, vR m], true⟩)
noncomputable abbrev qd32 (fuel : Nat) : Ctx Out := (fnX Tryd.prog mode16 T_refPlSame fuel 34 0)
noncomputable abbrev qd33 : Code := (sub (bodyOf Tryd.prog 13) [1, 1, 0, 1, 0, 0])
noncomputable abbrev qd34 : Nat × V := (1, .ptr 0 2 0 0)
noncomputable abbrev qd35 : Nat × V := (2, .ptr 1 2 0 0)
noncomputable def fewMF_s3 {R : Type} (w0 w3 : Int) (w2 w1 : List (Int × List Int)) (w4 : Nat) (n : Int) (m : List (Int × List Int)) (c0 : Nat → Int → (List (Int × List Int)) → Option R) (c1 : Nat → (List (Int × List Int)) → Option R) : Option R :=
  br (decide (w0 < w3))
    (bnd (ix w2 w0) fun e0 =>
    bnd (upTo (min ((e0.2.length : Nat) : Int) 3) e0.2.length) fun j0 =>
    grd (Nat.beq w1.length w4) <|
    grd (okN (w4 + 1) 32) <|
    c0 ((w1 ++ [(e0.1, ((e0.2.drop 0).take (j0 - 0)))]).length) (IntKind.i64.wrap (w0 + 1)) (w1 ++ [(e0.1, ((e0.2.drop 0).take (j0 - 0)))]))
    (c1 w4 w1)
theorem fewMF_s3_eq (fuel k : Nat) (K : Ex → St → Option Out) (w0 w3 : Int) (w2 w1 : List (Int × List Int)) (w4 : Nat) (n : Int) (m : List (Int × List Int)) : lpN qd33 (qd32 fuel) 15032385550 [1, 2, 3, 12, 13, 14] (k + 1) ⟨[qd34, qd35, (3, .sl 2 2 0 w4), (12, vR w2), (13, vI w3), (14, vI w0)], [(qd31 n m), qd30, (2, some ⟨44, vR w1, true⟩)], 3, none⟩ K = fewMF_s3 w0 w3 w2 w1 w4 n m (fun a0 a1 a2 => lpN qd33 (qd32 fuel) 15032385550 [1, 2, 3, 12, 13, 14] k ⟨[qd34, qd35, (3, .sl 2 2 0 a0), (12, vR w2), (13, vI w3), (14, vI a1)], [(qd31 n m), qd30, (2, some ⟨44, vR a2, true⟩)], 3, none⟩ K) (fun a3 a4 => K (.exit 0) ⟨[qd34, qd35, (3, .sl 2 2 0 a3)], [(qd31 n m), qd30, (2, some ⟨44, vR a4, true⟩)], 3, none⟩) := by kernel_rfl
noncomputable def fewMF_l2 {R : Type} (fuel : Nat) (w2 : List (Int × List Int)) (w3 n : Int) (m : List (Int × List Int)) (k0 : Nat → (List (Int × List Int)) → Option R) : Nat → Nat → Int → (List (Int × List Int)) → Option R
  | 0, _, _, _ => none
  | k + 1, w0, w1, w4 =>
    (fewMF_s3 w1 w3 w2 w4 w0 n m (fun a0 a1 a2 => ( fewMF_l2 fuel w2 w3 n m k0 k a0 a1 a2 )) (fun a3 a4 => k0 a3 a4))
theorem fewMF_l2_eq (fuel : Nat) (w2 : List (Int × List Int)) (w3 n : Int) (m : List (Int × List Int)) (K : Ex → St → Option Out) : ∀ (k w0 : Nat) (w1 : Int) (w4 : List (Int × List Int)), lpN qd33 (qd32 fuel) 15032385550 [1, 2, 3, 12, 13, 14] k ⟨[qd34, qd35, (3, .sl 2 2 0 w0), (12, vR w2), (13, vI w3), (14, vI w1)], [(qd31 n m), qd30, (2, some ⟨44, vR w4, true⟩)], 3, none⟩ K = fewMF_l2 fuel w2 w3 n m (fun y0 y1 => K (.exit 0) ⟨[qd34, qd35, (3, .sl 2 2 0 y0)], [(qd31 n m), qd30, (2, some ⟨44, vR y1, true⟩)], 3, none⟩) k w0 w1 w4
  | 0, _, _, _ => rfl
  | k + 1, w0, w1, w4 => by
    unfold fewMF_l2
    exact (fewMF_s3_eq fuel k K w1 w3 w2 w4 w0 n m).trans (congr (congr (Eq.refl (fewMF_s3 (R := Out) w1 w3 w2 w4 w0 n m)) (funext fun a0 => funext fun a1 => funext fun a2 => fewMF_l2_eq fuel w2 w3 n m K k a0 a1 a2)) (rfl))
noncomputable def fewMF_s2 {R : Type} (w3 : Int) (w2 : List (Int × List Int)) (n : Int) (m : List (Int × List Int)) (c0 : Nat → Int → (List (Int × List Int)) → Option R) (c1 : Option R) : Option R :=
  br (decide (0 < w3))
    (bnd (ix w2 0) fun e0 =>
    bnd (upTo (min ((e0.2.length : Nat) : Int) 3) e0.2.length) fun j0 =>
    c0 1 1 ([(e0.1, ((e0.2.drop 0).take (j0 - 0)))]))
    (c1)
theorem fewMF_s2_eq (fuel k : Nat) (K : Ex → St → Option Out) (w3 : Int) (w2 : List (Int × List Int)) (n : Int) (m : List (Int × List Int)) : lpN qd33 (qd32 fuel) 15032385550 [1, 2, 3, 12, 13, 14] (k + 1) ⟨[qd34, qd35, (3, vN), (12, vR w2), (13, vI w3), (14, vI 0)], [(qd31 n m), qd30], 2, none⟩ K = fewMF_s2 w3 w2 n m (fun a0 a1 a2 => lpN qd33 (qd32 fuel) 15032385550 [1, 2, 3, 12, 13, 14] k ⟨[qd34, qd35, (3, .sl 2 2 0 a0), (12, vR w2), (13, vI w3), (14, vI a1)], [(qd31 n m), qd30, (2, some ⟨44, vR a2, true⟩)], 3, none⟩ K) (K (.exit 0) ⟨[qd34, qd35, (3, vN)], [(qd31 n m), qd30], 2, none⟩) := by kernel_rfl
noncomputable def fewMF_l1 {R : Type} (fuel : Nat) (n : Int) (m : List (Int × List Int)) (k0 : Nat → (List (Int × List Int)) → Option R) (k1 : Option R) : Nat → (List (Int × List Int)) → Int → Option R
  | 0, _, _ => none
  | k + 1, w2, w3 =>
    (fewMF_s2 w3 w2 n m (fun a0 a1 a2 => (fewMF_l2 fuel w2 w3 n m (fun x0 x1 => k0 x0 x1) k a0 a1 a2)) (k1))
theorem fewMF_l1_eq (fuel : Nat) (n : Int) (m : List (Int × List Int)) (K : Ex → St → Option Out) : ∀ (k : Nat) (w2 : List (Int × List Int)) (w3 : Int), lpN qd33 (qd32 fuel) 15032385550 [1, 2, 3, 12, 13, 14] k ⟨[qd34, qd35, (3, vN), (12, vR w2), (13, vI w3), (14, vI 0)], [(qd31 n m), qd30], 2, none⟩ K = fewMF_l1 fuel n m (fun y0 y1 => K (.exit 0) ⟨[qd34, qd35, (3, .sl 2 2 0 y0)], [(qd31 n m), qd30, (2, some ⟨44, vR y1, true⟩)], 3, none⟩) (K (.exit 0) ⟨[qd34, qd35, (3, vN)], [(qd31 n m), qd30], 2, none⟩) k w2 w3
  | 0, _, _ => rfl
  | k + 1, w2, w3 => by
    unfold fewMF_l1
    exact (fewMF_s2_eq fuel k K w3 w2 n m).trans (congr (congr (Eq.refl (fewMF_s2 (R := Out) w3 w2 n m)) (funext fun a0 => funext fun a1 => funext fun a2 => fewMF_l2_eq fuel w2 w3 n m K k a0 a1 a2)) (rfl))
noncomputable def fewMF_s4 {R : Type} (n : Int) (x0 : List (Int × List Int)) (x1 : Nat) (m : List (Int × List Int)) (c0 : Int → (List (Int × List Int)) → Option R) : Option R :=
  c0 n ((x0.drop 0).take x1)
theorem fewMF_s4_eq (fuel : Nat)  (n : Int) (x0 : List (Int × List Int)) (x1 : Nat) (m : List (Int × List Int)) : (kont (qd32 fuel) (bodyOf Tryd.prog 13) [1, 1, 0, 1, 0] 4 (endK Tryd.prog 0 0 13)) (.exit 0) ⟨[qd34, qd35, (3, .sl 2 2 0 x1)], [(qd31 n m), qd30, (2, some ⟨44, vR x0, true⟩)], 3, none⟩ = fewMF_s4 n x0 x1 m (fun a0 a1 => some (.agg [vI a0, vR a1], [])) := by kernel_rfl
noncomputable def fewMF_s5 {R : Type} (n : Int) (m : List (Int × List Int)) (c0 : Int → Option R) : Option R :=
  c0 n
theorem fewMF_s5_eq (fuel : Nat)  (n : Int) (m : List (Int × List Int)) : (kont (qd32 fuel) (bodyOf Tryd.prog 13) [1, 1, 0, 1, 0] 4 (endK Tryd.prog 0 0 13)) (.exit 0) ⟨[qd34, qd35, (3, vN)], [(qd31 n m), qd30], 2, none⟩ = fewMF_s5 n m (fun a0 => some (.agg [vI a0, vN], [])) := by kernel_rfl
noncomputable def fewMF_s1 {R : Type} (m : List (Int × List Int)) (n : Int) (c0 : (List (Int × List Int)) → Int → Option R) : Option R :=
  bnd (upTo (min ((m.length : Nat) : Int) 66) m.length) fun j1 =>
  c0 ((m.drop 0).take (j1 - 0)) ((((m.drop 0).take (j1 - 0)).length : Nat) : Int)
theorem fewMF_s1_eq (fuel : Nat)  (m : List (Int × List Int)) (n : Int) : callN Tryd.prog mode16 T_refPlSame fuel 13 [.agg [vI n, vR m]] [] = fewMF_s1 m n (fun a0 a1 => lpN qd33 (qd32 fuel) 15032385550 [1, 2, 3, 12, 13, 14] fuel ⟨[qd34, qd35, (3, vN), (12, vR a0), (13, vI a1), (14, vI 0)], [(qd31 n m), qd30], 2, none⟩ (kont (qd32 fuel) (bodyOf Tryd.prog 13) [1, 1, 0, 1, 0] 4 (endK Tryd.prog 0 0 13))) := by kernel_rfl
noncomputable def fewMF {R : Type} (fuel : Nat) (n : Int) (m : List (Int × List Int)) (r0 : Int → (List (Int × List Int)) → Option R) (r1 : Int → Option R) : Option R :=
  (fewMF_s1 m n (fun a0 a1 => (fewMF_l1 fuel n m (fun x0 x1 => (fewMF_s4 n x1 x0 m (fun a2 a3 => r0 a2 a3))) ((fewMF_s5 n m (fun a4 => r1 a4))) fuel a0 a1)))
theorem fewMF_eq (fuel : Nat) (n : Int) (m : List (Int × List Int)) : callN Tryd.prog mode16 T_refPlSame fuel 13 [.agg [.s (.int .i64 n), .lt (.pair (.int .i64) (.sl (.int .u64))) m]] [] = fewMF fuel n m (fun z0 z1 => some (.agg [.s (.int .i64 z0), .lt (.pair (.int .i64) (.sl (.int .u64))) z1], [])) (fun z0 => some (.agg [.s (.int .i64 z0), .s (.slice none 0 0)], [])) := by
  unfold fewMF
  exact (fewMF_s1_eq fuel  m n).trans (congr (Eq.refl (fewMF_s1 (R := Out) m n)) (funext fun a0 => funext fun a1 => (fewMF_l1_eq fuel n m (kont (qd32 fuel) (bodyOf Tryd.prog 13) [1, 1, 0, 1, 0] 4 (endK Tryd.prog 0 0 13)) fuel a0 a1).trans (congrFun (congrFun (congrFun (congr (congr (Eq.refl (fewMF_l1 (R := Out) fuel n m)) (funext fun x0 => funext fun x1 => (fewMF_s4_eq fuel  n x1 x0 m))) ((fewMF_s5_eq fuel  n m))) fuel) a0) a1)))
theorem few_Msnoc {l : List Rw} {j : Nat} (h : j < (l.take 66).length) : ((l.take 66).take j).map cutM ++ [cutM ((l.take 66)[j])] = ((l.take 66).take (j + 1)).map cutM := by
  rw [List.take_succ_eq_append_getElem h, List.map_append]; rfl
theorem cutM_of (r : Rw) : (r.1, (r.2.drop 0).take (min r.2.length 3 - 0)) = cutM r := by
  unfold cutM
  rw [List.drop_zero, Nat.sub_zero]
  by_cases h : r.2.length ≤ 3
  · rw [Nat.min_eq_left h, List.take_length, List.take_of_length_le h]
  · rw [Nat.min_eq_right (by omega)]
theorem cut_up (r : Rw) : upTo (min ((r.2.length : Nat) : Int) 3) r.2.length = some (min r.2.length 3) := by rw [upTo_of (by omega) (by omega)]; congr 1; omega
theorem fewM_more {R : Type} (fuel : Nat) (n : Int) (m l : List Rw) (k0 : Nat → List Rw → Option R) : ∀ (k j : Nat), j ≤ (l.take 66).length → (l.take 66).length < j + k → fewMF_l2 fuel (l.take 66) ((l.take 66).length : Int) n m k0 k j (j : Int) (((l.take 66).take j).map cutM) = k0 (fewMS l).length (fewMS l)
  | 0, j, h1, h2 => by omega
  | k + 1, j, h1, h2 => by
    have hx : (l.take 66).length ≤ 66 := by rw [List.length_take]; omega
    have hj : (((l.take 66).take j).map cutM).length = j := by rw [List.length_map, List.length_take]; omega
    unfold fewMF_l2 fewMF_s3
    rw [br_if]
    by_cases hc : j < (l.take 66).length
    · rw [if_pos (by simpa using hc), bnd_of ((ix_nat _ j).trans (List.getElem?_eq_getElem hc)), bnd_of (cut_up _), grd_of (by rw [hj]; exact beq_self j), grd_of (okN_of (by omega) (by omega)), cutM_of, few_Msnoc hc, wrap_i64 (by omega) (by omega), show (j : Int) + 1 = ((j + 1 : Nat) : Int) by omega]
      have hj1 : (((l.take 66).take (j + 1)).map cutM).length = j + 1 := by rw [List.length_map, List.length_take]; omega
      rw [hj1]
      exact fewM_more fuel n m l k0 k (j + 1) (by omega) (by omega)
    · have e : j = (l.take 66).length := by omega
      rw [if_neg (by simp; simp at hc; omega)]
      have e2 : ((l.take 66).take j).map cutM = fewMS l := by rw [e, List.take_length, fewMS_eq]; rfl
      rw [e2] at hj ⊢
      rw [hj]
theorem fewM_fact (n : Int) (m : List (Int × List Int)) : Fact Tryd.prog gTab 13 [.agg [.s (.int .i64 n), .lt (.pair (.int .i64) (.sl (.int .u64))) m]] [] (.agg [.s (.int .i64 n), .lt (.pair (.int .i64) (.sl (.int .u64))) ((fewMS m) : List (Int × List Int))], []) := by
  have hx : (m.take 66).length ≤ 66 := by rw [List.length_take]; omega
  have e1 : upTo (min ((m.length : Nat) : Int) 66) m.length = some (min m.length 66) := by rw [upTo_of (by omega) (by omega)]; congr 1; omega
  have e2 : (m.drop 0).take (min m.length 66 - 0) = m.take 66 := by
    rw [List.drop_zero, Nat.sub_zero]
    by_cases h : m.length ≤ 66
    · rw [Nat.min_eq_left h, List.take_length, List.take_of_length_le h]
    · rw [Nat.min_eq_right (by omega)]
  cases hl : m.take 66 with
  | nil =>
    have e3 : fewMS m = [] := by rw [fewMS_eq]; unfold fewMI; rw [hl]; rfl
    rw [e3]
    refine Fact.out (v := .agg [.s (.int .i64 n), .s (.slice none 0 0)]) (bs' := []) ?_ (fun _ _ _ x h => RV_agg_two (fun _ h => RVs_two (fun _ h => h) (fun _ h => RVs_two (fun _ h => RV_nil_sl (s := .pair (.int .i64) (.sl (.int .u64))) h) (fun _ h => h) h) h) h)
    refine callN_fact hN hM T_refPlSame_ok (n := 69) (mode := mode16) ?_
    rw [fewMF_eq]
    unfold fewMF fewMF_s1
    rw [bnd_of e1, e2, hl]
    rfl
  | cons s t =>
    have hc : 0 < (m.take 66).length := by rw [hl]; simp
    refine callN_fact hN hM T_refPlSame_ok (n := 69 + 1) (mode := mode16) ?_
    rw [fewMF_eq]
    unfold fewMF fewMF_s1
    rw [bnd_of e1, e2]
    unfold fewMF_l1 fewMF_s2
    dsimp only
    have e0 : ix (m.take 66) 0 = some ((m.take 66)[0]) := (ix_nat _ 0).trans (List.getElem?_eq_getElem hc)
    have e4 : [cutM ((m.take 66)[0])] = ((m.take 66).take 1).map cutM := (few_Msnoc hc).symm ▸ rfl
    rw [br_if, if_pos (by simpa using hc), bnd_of e0, bnd_of (cut_up _), cutM_of, e4]
    have := fewM_more (R := Out) (69 + 1) n m m
    rw [show (1 : Int) = ((1 : Nat) : Int) from rfl, this _ 69 1 (by omega) (by omega)]
    unfold fewMF_s4
    rw [List.drop_zero, List.take_length]
noncomputable def fewM_ent : List V → List Blk → Option (Bool × Out)
  | [.agg [.s (.int .i64 n), w0]], [] => (asSl (.pair (.int .i64) (.sl (.int .u64))) w0).bind fun m => some (true, (.agg [.s (.int .i64 n), .lt (.pair (.int .i64) (.sl (.int .u64))) ((fewMS m) : List (Int × List Int))], []))
  | _, _ => none
theorem fewM_ok : ∀ args bs out, fewM_ent args bs = some (true, out) → Fact Tryd.prog gTab 13 args bs out := by
  intro args bs out h
  unfold fewM_ent at h
  split at h
  · rename_i n w0
    obtain ⟨m, h_m, h⟩ := Option.bind_eq_some_iff.1 h
    simp only [Option.some.injEq, Prod.mk.injEq] at h
    obtain ⟨_, rfl⟩ := h
    exact (fewM_fact n m).args (fun _ _ _ => fun _ h => RVs_two (fun _ h => RV_agg_two (fun _ h => RVs_two (fun _ h => h) (fun _ h => RVs_two (fun _ h => RV_sl (s := (.pair (.int .i64) (.sl (.int .u64)))) h_m h) (fun _ h => h) h) h) h) (fun _ h => h) h)
  · cases h
noncomputable def T_fewM : Tbl := Tbl.cons 13 fewM_ent T_refPlSame
theorem T_fewM_ok : CallOk Tryd.prog gTab T_fewM := cons_ok T_refPlSame_ok fewM_ok
/-! downpour/downpourlaw16.thin -/
noncomputable def thinMF_s1 {R : Type} (m : List (Int × List Int)) (n : Int) (c0 : Int → (List (Int × List Int)) → Option R) : Option R :=
  br (decide ((((m.length : Nat) : Int) : Int) ≤ 64))
    (bnd (upTo (min ((m.length : Nat) : Int) 24) m.length) fun j1 =>
    c0 n ((m.drop 0).take (j1 - 0)))
    (c0 n m)
theorem thinMF_s1_eq (fuel : Nat)  (m : List (Int × List Int)) (n : Int) : callN Tryd.prog mode16 T_fewM fuel 12 [.agg [vI n, vR m]] [] = thinMF_s1 m n (fun a2 a3 => some (.agg [vI a2, vR a3], [])) := by kernel_rfl
noncomputable def thinMF {R : Type} (fuel : Nat) (n : Int) (m : List (Int × List Int)) (r0 : Int → (List (Int × List Int)) → Option R) : Option R :=
  (thinMF_s1 m n (fun a2 a3 => r0 a2 a3))
theorem thinMF_eq (fuel : Nat) (n : Int) (m : List (Int × List Int)) : callN Tryd.prog mode16 T_fewM fuel 12 [.agg [.s (.int .i64 n), .lt (.pair (.int .i64) (.sl (.int .u64))) m]] [] = thinMF fuel n m (fun z0 z1 => some (.agg [.s (.int .i64 z0), .lt (.pair (.int .i64) (.sl (.int .u64))) z1], [])) := by
  unfold thinMF
  exact (thinMF_s1_eq fuel  m n)
theorem thinM_fact (n : Int) (m : List (Int × List Int)) : Fact Tryd.prog gTab 12 [.agg [.s (.int .i64 n), .lt (.pair (.int .i64) (.sl (.int .u64))) m]] [] (.agg [.s (.int .i64 n), .lt (.pair (.int .i64) (.sl (.int .u64))) ((thinS m) : List (Int × List Int))], []) := by
  refine callN_fact hN hM T_fewM_ok (n := 0) (mode := mode16) ?_
  rw [thinMF_eq]
  unfold thinMF thinMF_s1
  rw [br_if, thinS_eq]
  unfold thinI
  by_cases h : m.length ≤ 64
  · rw [if_pos (by simp; omega), if_pos h, upTo_of (by omega) (by omega), bnd_some, List.drop_zero, Nat.sub_zero]
    by_cases h2 : m.length ≤ 24
    · rw [show (min ((m.length : Nat) : Int) 24).toNat = m.length by omega, List.take_length, List.take_of_length_le h2]
    · rw [show (min ((m.length : Nat) : Int) 24).toNat = 24 by omega]
  · rw [if_neg (by simp; omega), if_neg h]
noncomputable def thinM_ent : List V → List Blk → Option (Bool × Out)
  | [.agg [.s (.int .i64 n), w0]], [] => (asSl (.pair (.int .i64) (.sl (.int .u64))) w0).bind fun m => some (true, (.agg [.s (.int .i64 n), .lt (.pair (.int .i64) (.sl (.int .u64))) ((thinS m) : List (Int × List Int))], []))
  | _, _ => none
theorem thinM_ok : ∀ args bs out, thinM_ent args bs = some (true, out) → Fact Tryd.prog gTab 12 args bs out := by
  intro args bs out h
  unfold thinM_ent at h
  split at h
  · rename_i n w0
    obtain ⟨m, h_m, h⟩ := Option.bind_eq_some_iff.1 h
    simp only [Option.some.injEq, Prod.mk.injEq] at h
    obtain ⟨_, rfl⟩ := h
    exact (thinM_fact n m).args (fun _ _ _ => fun _ h => RVs_two (fun _ h => RV_agg_two (fun _ h => RVs_two (fun _ h => h) (fun _ h => RVs_two (fun _ h => RV_sl (s := (.pair (.int .i64) (.sl (.int .u64)))) h_m h) (fun _ h => h) h) h) h) (fun _ h => h) h)
  · cases h
noncomputable def T_thinM : Tbl := Tbl.cons 12 thinM_ent T_fewM
theorem T_thinM_ok : CallOk Tryd.prog gTab T_thinM := cons_ok T_fewM_ok thinM_ok
/-! downpour/downpourlaw16.alive -/
noncomputable def maliveF_s1 {R : Type}  (c0 : Bool → Option R) : Option R :=
  grd (okM ([(3, [3]), (3, [6]), (3, [5])])) <|
  br (((if mrt 3 ([(3, [3]), (3, [6]), (3, [5])]) = true then 0 else 1) : Int) == 0)
    (br (((((mkI 3 ([(3, [3]), (3, [6]), (3, [5])])).length : Nat) : Int) : Int) == 1)
      (c0 (((((mkC 3 ([(3, [3]), (3, [6]), (3, [5])])).length : Nat) : Int) : Int) == 2))
      (c0 false))
    (c0 false)
theorem maliveF_s1_eq (fuel : Nat)   : callN Tryd.prog mode16 T_thinM fuel 17 [] [] = maliveF_s1  (fun a1 => some (vB a1, [])) := by kernel_rfl
noncomputable def maliveF {R : Type} (fuel : Nat)  (r0 : Bool → Option R) : Option R :=
  (maliveF_s1 (fun a1 => r0 a1))
theorem maliveF_eq (fuel : Nat)  : callN Tryd.prog mode16 T_thinM fuel 17 [] [] = maliveF fuel  (fun z0 => some (.s (.bool z0), [])) := by
  unfold maliveF
  exact (maliveF_s1_eq fuel  )
abbrev mA : List Rw := [(3, [3]), (3, [6]), (3, [5])]
theorem ma_ok : okM mA = true := by rw [okM_eq]; unfold okMI; rw [okW_eq]; decide +kernel
theorem ma_may : mrt 3 mA = true := by rw [mrt_eq]; unfold mrtI; rw [badR_eq]; unfold badI; rw [rtS_eq]; unfold rtI; rw [nw_eq]; decide +kernel
theorem ma_a0 : actS mA [0, 0, 0] [0, 0, 0] 0 = [0, 1] := by rw [actS_eq]; unfold actI; rw [keepC_eq, plS_eq]; unfold keepI plI; rw [goneB_eq]; decide +kernel
theorem ma_a1 : actS mA [0, 0, 0] [0, 0, 0] 1 = [1, 2] := by rw [actS_eq]; unfold actI; rw [keepC_eq, plS_eq]; unfold keepI plI; rw [goneB_eq]; decide +kernel
theorem ma_a2 : actS mA [0, 0, 0] [0, 0, 0] 2 = [0, 2] := by rw [actS_eq]; unfold actI; rw [keepC_eq, plS_eq]; unfold keepI plI; rw [goneB_eq]; decide +kernel
theorem ma_b0 : actS mA [0, 0, 0] [1, 0, 0] 0 = [1] := by rw [actS_eq]; unfold actI; rw [keepC_eq, plS_eq]; unfold keepI plI; rw [goneB_eq]; decide +kernel
theorem ma_c0 : actS mA [1, 0, 0] [1, 1, 0] 0 = [] := by rw [actS_eq]; unfold actI; rw [keepC_eq, plS_eq]; unfold keepI plI; rw [goneB_eq]; decide +kernel
theorem ma_c1 : actS mA [1, 0, 0] [1, 1, 0] 1 = [2] := by rw [actS_eq]; unfold actI; rw [keepC_eq, plS_eq]; unfold keepI plI; rw [goneB_eq]; decide +kernel
theorem ma_d0 : actS mA [1, 1, 0] [1, 1, 1] 0 = [] := by rw [actS_eq]; unfold actI; rw [keepC_eq, plS_eq]; unfold keepI plI; rw [goneB_eq]; decide +kernel
theorem ma_d1 : actS mA [1, 1, 0] [1, 1, 1] 1 = [] := by rw [actS_eq]; unfold actI; rw [keepC_eq, plS_eq]; unfold keepI plI; rw [goneB_eq]; decide +kernel
theorem ma_d2 : actS mA [1, 1, 0] [1, 1, 1] 2 = [] := by rw [actS_eq]; unfold actI; rw [keepC_eq, plS_eq]; unfold keepI plI; rw [goneB_eq]; decide +kernel
theorem one3 (r c : List Int) : oneFrom mA r c mA.length 0 = if (actS mA r c 0).length = 1 then some 0 else if (actS mA r c 1).length = 1 then some 1 else if (actS mA r c 2).length = 1 then some 2 else none := rfl
theorem cnt3 (r c : List Int) : cntS 3 mA r c = addL (addL (addL [0, 0, 0] (actS mA r c 0)) (actS mA r c 1)) (actS mA r c 2) := rfl
theorem ma_end : mkEnd 3 mA = ([0], [0, 1], [1, 2], [1, 1, 0], [1, 1, 1]) := by
  have h1 : mostS (cntS 3 mA [0, 0, 0] [0, 0, 0]) = ((0 : Nat) : Int) := by rw [cnt3, ma_a0, ma_a1, ma_a2, mostS_eq]; decide
  have h2 : mostS (cntS 3 mA [1, 1, 0] [1, 1, 1]) < 0 := by rw [cnt3, ma_d0, ma_d1, ma_d2, mostS_eq]; decide
  have o1 : oneFrom mA [0, 0, 0] [0, 0, 0] mA.length 0 = none := by rw [one3, ma_a0, ma_a1, ma_a2]; rfl
  have o2 : oneFrom mA [0, 0, 0] [1, 0, 0] mA.length 0 = some 0 := by rw [one3, ma_b0]; rfl
  have o3 : oneFrom mA [1, 0, 0] [1, 1, 0] mA.length 0 = some 1 := by rw [one3, ma_c0, ma_c1]; rfl
  have o4 : oneFrom mA [1, 1, 0] [1, 1, 1] mA.length 0 = none := by rw [one3, ma_d0, ma_d1, ma_d2]; rfl
  have e1 := plnN_most (a := []) (b := []) (d := []) 63 o1 h1
  have e2 := plnN_one (n := 3) (a := [0]) (b := []) (d := []) (i := 1) 62 o2 ma_b0
  have e3 := plnN_one (n := 3) (a := [0]) (b := [0]) (d := [1]) (i := 2) 61 o3 ma_c1
  have e4 := plnN_stop (a := [0]) (b := [0, 1]) (d := [1, 2]) o4 h2 61
  rw [mkEnd_eq]
  exact e1.trans (e2.trans (e3.trans e4))
theorem ma_I : mkI 3 mA = [0] := by rw [mkI_eq]; unfold mkII; rw [if_pos ma_may, ma_end]
theorem ma_C : mkC 3 mA = [1, 2] := by rw [mkC_eq]; unfold mkCI; rw [if_pos ma_may, ma_end]
theorem malive_fact  : Fact Tryd.prog gTab 17 [] [] (.s (.bool true), []) := by
  refine callN_fact hN hM T_thinM_ok (n := 0) (mode := mode16) ?_
  rw [maliveF_eq]
  unfold maliveF maliveF_s1
  rw [grd_of ma_ok, if_pos ma_may, ma_I, ma_C]
  rfl
noncomputable def malive_ent : List V → List Blk → Option (Bool × Out)
  | [], [] => some (true, (.s (.bool true), []))
  | _, _ => none
theorem malive_ok : ∀ args bs out, malive_ent args bs = some (true, out) → Fact Tryd.prog gTab 17 args bs out := by
  intro args bs out h
  unfold malive_ent at h
  split at h
  · simp only [Option.some.injEq, Prod.mk.injEq] at h
    obtain ⟨_, rfl⟩ := h
    exact malive_fact 
  · cases h
noncomputable def T_malive : Tbl := Tbl.cons 17 malive_ent T_thinM
theorem T_malive_ok : CallOk Tryd.prog gTab T_malive := cons_ok T_thinM_ok malive_ok
/-! downpour/downpourlaw16.InactiveMakes -/
noncomputable def lawMakesF_s1 {R : Type} (m : List (Int × List Int)) (n : Int) (c0 : Bool → Option R) : Option R :=
  grd (okM (thinS (fewMS m))) <|
  grd (okM (thinS (fewMS m))) <|
  grd (okM (thinS (fewMS m)) && decide ((thinS (fewMS m)).length ≤ 1000000)) <|
  br (!(mrt n (thinS (fewMS m))))
    (br (((if mrt n (thinS (fewMS m)) = true then 0 else 1) : Int) == 1)
      (br (((chE n (thinS (fewMS m))) : Int) == 1)
        (grd (plOk (mkI n (thinS (fewMS m))) (mkR n (thinS (fewMS m))) (mkC n (thinS (fewMS m))) (mkO n (thinS (fewMS m)))) <|
        br (eqS_li (mkI n (thinS (fewMS m))) ([]) && (eqS_li (mkR n (thinS (fewMS m))) ([]) && (eqS_li (mkC n (thinS (fewMS m))) ([]) && eqS_li (mkO n (thinS (fewMS m))) ([]))))
          (c0 (((chN n (thinS (fewMS m))) : Int) == 0))
          (c0 false))
        (c0 false))
      (c0 false))
    (br (((if mrt n (thinS (fewMS m)) = true then 0 else 1) : Int) != 0)
      (c0 false)
      (grd (okM (thinS (fewMS m)) && mrt n (thinS (fewMS m))) <|
      grd (plOk (mkI n (thinS (fewMS m))) (mkR n (thinS (fewMS m))) (mkC n (thinS (fewMS m))) (mkO n (thinS (fewMS m)))) <|
      br (!(eqS_li (mkI n (thinS (fewMS m))) (mkI n (thinS (fewMS m))) && (eqS_li (mkR n (thinS (fewMS m))) (mkR n (thinS (fewMS m))) && (eqS_li (mkC n (thinS (fewMS m))) (mkC n (thinS (fewMS m))) && eqS_li (mkO n (thinS (fewMS m))) (mkO n (thinS (fewMS m)))))))
        (c0 false)
        (grd (okM (thinS (fewMS m)) && mrt n (thinS (fewMS m))) <|
        br (decide (((chsS n (thinS (fewMS m)) [] []) : Int) < 0))
          (br (((chE n (thinS (fewMS m))) : Int) == 4)
            (c0 (((chN n (thinS (fewMS m))) : Int) == 0))
            (c0 false))
          (br (((chE n (thinS (fewMS m))) : Int) == 0)
            (grd (okM (thinS (fewMS m)) && mrt n (thinS (fewMS m))) <|
            c0 (((chN n (thinS (fewMS m))) : Int) == (chsS n (thinS (fewMS m)) [] [])))
            (c0 false)))))
theorem lawMakesF_s1_eq (fuel : Nat)  (m : List (Int × List Int)) (n : Int) : callN Tryd.prog mode16 T_malive fuel 3 [.agg [vI n, vR m]] [] = lawMakesF_s1 m n (fun a1 => some (vB a1, [])) := by kernel_rfl
noncomputable def lawMakesF {R : Type} (fuel : Nat) (n : Int) (m : List (Int × List Int)) (r0 : Bool → Option R) : Option R :=
  (lawMakesF_s1 m n (fun a1 => r0 a1))
theorem lawMakesF_eq (fuel : Nat) (n : Int) (m : List (Int × List Int)) : callN Tryd.prog mode16 T_malive fuel 3 [.agg [.s (.int .i64 n), .lt (.pair (.int .i64) (.sl (.int .u64))) m]] [] = lawMakesF fuel n m (fun z0 => some (.s (.bool z0), [])) := by
  unfold lawMakesF
  exact (lawMakesF_s1_eq fuel  m n)
theorem lawMakes_fact (n : Int) (m : List (Int × List Int)) (hg : (okM m) = true) : Fact Tryd.prog gTab 3 [.agg [.s (.int .i64 n), .lt (.pair (.int .i64) (.sl (.int .u64))) m]] [] (.s (.bool true), []) := by
  obtain ⟨h1, h2⟩ := few_Mok hg
  have h3 := mk_ok (n := n) h1
  refine callN_fact hN hM T_malive_ok (n := 0) (mode := mode16) ?_
  rw [lawMakesF_eq]
  unfold lawMakesF lawMakesF_s1
  generalize thinS (fewMS m) = u at *
  have e1 : ∀ a, eqS_li a a = true := eqS_li_self
  rw [grd_of h1, grd_of h1, grd_of (by rw [h1]; simp; omega), br_if]
  by_cases hm : mrt n u = true
  · have h4 := (rinv_start h1 hm).chs_ref
    have h5 : chsS n u [] [] = mostS (cntS n u (zeros0 u.length) (zeros0 n.toNat)) := h4
    have h6 : chE n u = if chsS n u [] [] < 0 then 4 else 0 := by rw [chE_eq, h5]; unfold chEI; rw [if_pos hm]
    have h7 : chN n u = if chsS n u [] [] < 0 then 0 else chsS n u [] [] := by rw [chN_eq, h5]; unfold chNI; rw [if_pos hm]
    rw [if_neg (by simp [hm]), if_pos hm, br_if, if_neg (by decide), grd_of (by rw [h1, hm]; rfl), grd_of h3, e1, e1, e1, e1, br_if, if_neg (by decide), grd_of (by rw [h1, hm]; rfl), br_if, h6, h7]
    by_cases h : chsS n u [] [] < 0
    · rw [if_pos (by simpa using h), if_pos h, if_pos h]; rfl
    · rw [if_neg (by simpa using h), if_neg h, if_neg h, br_if, if_pos (by rfl), grd_of (by rw [h1, hm]; rfl)]
      simp
  · have h6 : chE n u = 1 := by rw [chE_eq]; unfold chEI; rw [if_neg hm]
    have h7 : chN n u = 0 := by rw [chN_eq]; unfold chNI; rw [if_neg hm]
    have hA : mkI n u = [] := by rw [mkI_eq]; unfold mkII; rw [if_neg hm]
    have hB : mkR n u = [] := by rw [mkR_eq]; unfold mkRI; rw [if_neg hm]
    have hC : mkC n u = [] := by rw [mkC_eq]; unfold mkCI; rw [if_neg hm]
    have hD : mkO n u = [] := by rw [mkO_eq]; unfold mkOI; rw [if_neg hm]
    rw [if_pos (by simp [hm]), if_neg hm, h6, h7, grd_of h3, hA, hB, hC, hD, e1]
    rfl
noncomputable def lawMakes_ent : List V → List Blk → Option (Bool × Out)
  | [.agg [.s (.int .i64 n), w0]], [] => (asSl (.pair (.int .i64) (.sl (.int .u64))) w0).bind fun m => some ((okM m), (.s (.bool true), []))
  | _, _ => none
theorem lawMakes_ok : ∀ args bs out, lawMakes_ent args bs = some (true, out) → Fact Tryd.prog gTab 3 args bs out := by
  intro args bs out h
  unfold lawMakes_ent at h
  split at h
  · rename_i n w0
    obtain ⟨m, h_m, h⟩ := Option.bind_eq_some_iff.1 h
    simp only [Option.some.injEq, Prod.mk.injEq] at h
    obtain ⟨hg, rfl⟩ := h
    exact (lawMakes_fact n m hg).args (fun _ _ _ => fun _ h => RVs_two (fun _ h => RV_agg_two (fun _ h => RVs_two (fun _ h => h) (fun _ h => RVs_two (fun _ h => RV_sl (s := (.pair (.int .i64) (.sl (.int .u64)))) h_m h) (fun _ h => h) h) h) h) (fun _ h => h) h)
  · cases h
noncomputable def T_lawMakes : Tbl := Tbl.cons 3 lawMakes_ent T_malive
theorem T_lawMakes_ok : CallOk Tryd.prog gTab T_lawMakes := cons_ok T_malive_ok lawMakes_ok
end Go.Proofs.YtfpdcfgjhkiklaaDoor
