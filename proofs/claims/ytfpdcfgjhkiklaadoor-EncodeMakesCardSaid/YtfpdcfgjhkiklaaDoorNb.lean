/- Degrees and neighbours: what each function tells. -/
import Derived.Test.YtfpdcfgjhkiklaaDoorPmTab
import Derived.KernelRfl
import Derived.Test.YtfpdcfgjhkiklaaDoorProg
import Derived.Test.YtfpdcfgjhkiklaaDoorDeg
set_option autoImplicit false
set_option maxRecDepth 100000
set_option maxHeartbeats 4000000
set_option linter.unusedVariables false
set_option linter.unusedSimpArgs false
namespace Go.Proofs.YtfpdcfgjhkiklaaDoor
open Go Go.PM Go.Proofs Go.Shelf Go.PM.Row Go.PM.Bits Go.PM.Bit
def mode7 : FuncId → Nat := fun f => bif Nat.beq f 187 then 2 else 0
/-! downpour/degree.Table -/
noncomputable abbrev qc0 : List (Nat × V) := [(2, vN), (3, vI 0), (4, .ptr 0 1 0 0), (5, .ptr 1 1 0 0), (11, .fn (.func 210) [] [.ptr 2 1 0 0])]
noncomputable abbrev qc1 : Code := (sub (bodyOf Tryd.prog 169) [1, 1, 1, 1, 0, 1, 0, 0])
noncomputable abbrev qc2 : Code := (sub (bodyOf Tryd.prog 169) [1, 1, 1, 1, 0, 1, 0, 1])
noncomputable abbrev qc3 (fuel : Nat) : Ctx Out := (fnX Tryd.prog mode7 T_refWeight fuel 21 0)
noncomputable abbrev qc4 (z : Int) : Nat × Option Blk := (2, some ⟨3, .agg [vI z], true⟩)
noncomputable abbrev qc5 : Code := (sub (bodyOf Tryd.prog 210) [1, 1, 0, 0])
noncomputable abbrev qc6 (z : Int) : List (Nat × Option Blk) := [(0, some ⟨42, .agg [vN], true⟩), (1, some ⟨79, .agg [vU 0], true⟩), (qc4 z), (3, none)]
noncomputable abbrev qc7 (z : Int) : List (Nat × Option Blk) := [(0, some ⟨42, .agg [vN], true⟩), (1, some ⟨79, .agg [vU 0], true⟩), (qc4 z)]
noncomputable def tableF_s3 {R : Type} (w0 w2 w3 : Int) (w1 : List Int) (w4 : Nat) (w5 z : Int) (c0 c1 c2 c3 c4 c5 : Int → Nat → Int → List Int → Option R) (c6 : Nat → Int → List Int → Option R) : Option R :=
  br (decide (w0 ≤ w2))
    (bnd (divI .quo .u64 4294967296 w2) fun v98 =>
    br (decide (w0 > 1))
      (bnd (divI .quo .u64 4294967296 (IntKind.u64.wrap (w0 * (IntKind.u64.wrap (w0 - 1))))) fun v99 =>
      bnd (divI .quo .u64 w2 w3) fun v100 =>
      br (decide (w0 < v100))
        (bnd (divI .quo .u64 (IntKind.u64.wrap (4294967296 * w3)) (IntKind.u64.wrap (w0 * w2))) fun v101 =>
        grd (Nat.beq w1.length w4) <|
        grd (okN (w4 + 1) 8) <|
        c0 (IntKind.u64.wrap (w0 + 1)) ((w1 ++ [(IntKind.u64.wrap (w5 + (IntKind.u64.wrap (v99 + v101))))]).length) (IntKind.u64.wrap (w5 + (IntKind.u64.wrap (v99 + v101)))) (w1 ++ [(IntKind.u64.wrap (w5 + (IntKind.u64.wrap (v99 + v101))))]))
        (br (w0 == v100)
          (grd (decide (1 ≤ w3) && decide (w3 ≤ 8)) <|
          bnd (divI .quo .u64 (IntKind.u64.wrap ((IntKind.u64.wrap (4294967296 * w3)) * (IntKind.u64.wrap (digS w3)))) w2) fun v106 =>
          grd (Nat.beq w1.length w4) <|
          grd (okN (w4 + 1) 8) <|
          c1 (IntKind.u64.wrap (w0 + 1)) ((w1 ++ [(IntKind.u64.wrap (w5 + (IntKind.u64.wrap (v99 + v106))))]).length) (IntKind.u64.wrap (w5 + (IntKind.u64.wrap (v99 + v106)))) (w1 ++ [(IntKind.u64.wrap (w5 + (IntKind.u64.wrap (v99 + v106))))]))
          (grd (Nat.beq w1.length w4) <|
          grd (okN (w4 + 1) 8) <|
          c2 (IntKind.u64.wrap (w0 + 1)) ((w1 ++ [(IntKind.u64.wrap (w5 + v99))]).length) (IntKind.u64.wrap (w5 + v99)) (w1 ++ [(IntKind.u64.wrap (w5 + v99))]))))
      (bnd (divI .quo .u64 w2 w3) fun v115 =>
      br (decide (w0 < v115))
        (bnd (divI .quo .u64 (IntKind.u64.wrap (4294967296 * w3)) (IntKind.u64.wrap (w0 * w2))) fun v116 =>
        grd (Nat.beq w1.length w4) <|
        grd (okN (w4 + 1) 8) <|
        c3 (IntKind.u64.wrap (w0 + 1)) ((w1 ++ [(IntKind.u64.wrap (w5 + (IntKind.u64.wrap (v98 + v116))))]).length) (IntKind.u64.wrap (w5 + (IntKind.u64.wrap (v98 + v116)))) (w1 ++ [(IntKind.u64.wrap (w5 + (IntKind.u64.wrap (v98 + v116))))]))
        (br (w0 == v115)
          (grd (decide (1 ≤ w3) && decide (w3 ≤ 8)) <|
          bnd (divI .quo .u64 (IntKind.u64.wrap ((IntKind.u64.wrap (4294967296 * w3)) * (IntKind.u64.wrap (digS w3)))) w2) fun v121 =>
          grd (Nat.beq w1.length w4) <|
          grd (okN (w4 + 1) 8) <|
          c4 (IntKind.u64.wrap (w0 + 1)) ((w1 ++ [(IntKind.u64.wrap (w5 + (IntKind.u64.wrap (v98 + v121))))]).length) (IntKind.u64.wrap (w5 + (IntKind.u64.wrap (v98 + v121)))) (w1 ++ [(IntKind.u64.wrap (w5 + (IntKind.u64.wrap (v98 + v121))))]))
          (grd (Nat.beq w1.length w4) <|
          grd (okN (w4 + 1) 8) <|
          c5 (IntKind.u64.wrap (w0 + 1)) ((w1 ++ [(IntKind.u64.wrap (w5 + v98))]).length) (IntKind.u64.wrap (w5 + v98)) (w1 ++ [(IntKind.u64.wrap (w5 + v98))])))))
    (c6 w4 w5 w1)
theorem tableF_s3_eq (fuel k : Nat) (K : Ex → St → Option Out) (w0 w2 w3 : Int) (w1 : List Int) (w4 : Nat) (w5 z : Int) : lpN qc5 (itX Tryd.prog mode7 T_refWeight fuel 3 60 4 3 (roundK (evC qc1) (evC qc2) (qc3 fuel) #[12] 1040496 qc0)) 0 [0, 3, 4, 5] (k + 1) ⟨[(0, .yl 3), (3, vU w2), (4, vU w3), (5, vU w0)], [(0, some ⟨42, .agg [.sl 4 1 0 w4], true⟩), (1, some ⟨79, .agg [vU w5], true⟩), (qc4 z), (3, none), (4, some ⟨79, vW w1, true⟩)], 5, none⟩ K = tableF_s3 w0 w2 w3 w1 w4 w5 z (fun a0 a1 a2 a3 => lpN qc5 (itX Tryd.prog mode7 T_refWeight fuel 3 60 4 3 (roundK (evC qc1) (evC qc2) (qc3 fuel) #[12] 1040496 qc0)) 0 [0, 3, 4, 5] k ⟨[(0, .yl 3), (3, vU w2), (4, vU w3), (5, vU a0)], [(0, some ⟨42, .agg [.sl 4 1 0 a1], true⟩), (1, some ⟨79, .agg [vU a2], true⟩), (qc4 z), (3, none), (4, some ⟨79, vW a3, true⟩)], 5, none⟩ K) (fun a4 a5 a6 a7 => lpN qc5 (itX Tryd.prog mode7 T_refWeight fuel 3 60 4 3 (roundK (evC qc1) (evC qc2) (qc3 fuel) #[12] 1040496 qc0)) 0 [0, 3, 4, 5] k ⟨[(0, .yl 3), (3, vU w2), (4, vU w3), (5, vU a4)], [(0, some ⟨42, .agg [.sl 4 1 0 a5], true⟩), (1, some ⟨79, .agg [vU a6], true⟩), (qc4 z), (3, none), (4, some ⟨79, vW a7, true⟩)], 5, none⟩ K) (fun a8 a9 a10 a11 => lpN qc5 (itX Tryd.prog mode7 T_refWeight fuel 3 60 4 3 (roundK (evC qc1) (evC qc2) (qc3 fuel) #[12] 1040496 qc0)) 0 [0, 3, 4, 5] k ⟨[(0, .yl 3), (3, vU w2), (4, vU w3), (5, vU a8)], [(0, some ⟨42, .agg [.sl 4 1 0 a9], true⟩), (1, some ⟨79, .agg [vU a10], true⟩), (qc4 z), (3, none), (4, some ⟨79, vW a11, true⟩)], 5, none⟩ K) (fun a12 a13 a14 a15 => lpN qc5 (itX Tryd.prog mode7 T_refWeight fuel 3 60 4 3 (roundK (evC qc1) (evC qc2) (qc3 fuel) #[12] 1040496 qc0)) 0 [0, 3, 4, 5] k ⟨[(0, .yl 3), (3, vU w2), (4, vU w3), (5, vU a12)], [(0, some ⟨42, .agg [.sl 4 1 0 a13], true⟩), (1, some ⟨79, .agg [vU a14], true⟩), (qc4 z), (3, none), (4, some ⟨79, vW a15, true⟩)], 5, none⟩ K) (fun a16 a17 a18 a19 => lpN qc5 (itX Tryd.prog mode7 T_refWeight fuel 3 60 4 3 (roundK (evC qc1) (evC qc2) (qc3 fuel) #[12] 1040496 qc0)) 0 [0, 3, 4, 5] k ⟨[(0, .yl 3), (3, vU w2), (4, vU w3), (5, vU a16)], [(0, some ⟨42, .agg [.sl 4 1 0 a17], true⟩), (1, some ⟨79, .agg [vU a18], true⟩), (qc4 z), (3, none), (4, some ⟨79, vW a19, true⟩)], 5, none⟩ K) (fun a20 a21 a22 a23 => lpN qc5 (itX Tryd.prog mode7 T_refWeight fuel 3 60 4 3 (roundK (evC qc1) (evC qc2) (qc3 fuel) #[12] 1040496 qc0)) 0 [0, 3, 4, 5] k ⟨[(0, .yl 3), (3, vU w2), (4, vU w3), (5, vU a20)], [(0, some ⟨42, .agg [.sl 4 1 0 a21], true⟩), (1, some ⟨79, .agg [vU a22], true⟩), (qc4 z), (3, none), (4, some ⟨79, vW a23, true⟩)], 5, none⟩ K) (fun a24 a25 a26 => K (.exit 0) ⟨[], [(0, some ⟨42, .agg [.sl 4 1 0 a24], true⟩), (1, some ⟨79, .agg [vU a25], true⟩), (qc4 z), (3, none), (4, some ⟨79, vW a26, true⟩)], 5, none⟩) := by kernel_rfl
noncomputable def tableF_l2 {R : Type} (fuel : Nat) (w2 w3 z : Int) (k0 : Nat → Int → List Int → Option R) : Nat → Int → Nat → Int → List Int → Option R
  | 0, _, _, _, _ => none
  | k + 1, w0, w1, w4, w5 =>
    (tableF_s3 w0 w2 w3 w5 w1 w4 z (fun a0 a1 a2 a3 => ( tableF_l2 fuel w2 w3 z k0 k a0 a1 a2 a3 )) (fun a4 a5 a6 a7 => ( tableF_l2 fuel w2 w3 z k0 k a4 a5 a6 a7 )) (fun a8 a9 a10 a11 => ( tableF_l2 fuel w2 w3 z k0 k a8 a9 a10 a11 )) (fun a12 a13 a14 a15 => ( tableF_l2 fuel w2 w3 z k0 k a12 a13 a14 a15 )) (fun a16 a17 a18 a19 => ( tableF_l2 fuel w2 w3 z k0 k a16 a17 a18 a19 )) (fun a20 a21 a22 a23 => ( tableF_l2 fuel w2 w3 z k0 k a20 a21 a22 a23 )) (fun a24 a25 a26 => k0 a24 a25 a26))
theorem tableF_l2_eq (fuel : Nat) (w2 w3 z : Int) (K : Ex → St → Option Out) : ∀ (k : Nat) (w0 : Int) (w1 : Nat) (w4 : Int) (w5 : List Int), lpN qc5 (itX Tryd.prog mode7 T_refWeight fuel 3 60 4 3 (roundK (evC qc1) (evC qc2) (qc3 fuel) #[12] 1040496 qc0)) 0 [0, 3, 4, 5] k ⟨[(0, .yl 3), (3, vU w2), (4, vU w3), (5, vU w0)], [(0, some ⟨42, .agg [.sl 4 1 0 w1], true⟩), (1, some ⟨79, .agg [vU w4], true⟩), (qc4 z), (3, none), (4, some ⟨79, vW w5, true⟩)], 5, none⟩ K = tableF_l2 fuel w2 w3 z (fun y0 y1 y2 => K (.exit 0) ⟨[], [(0, some ⟨42, .agg [.sl 4 1 0 y0], true⟩), (1, some ⟨79, .agg [vU y1], true⟩), (qc4 z), (3, none), (4, some ⟨79, vW y2, true⟩)], 5, none⟩) k w0 w1 w4 w5
  | 0, _, _, _, _ => rfl
  | k + 1, w0, w1, w4, w5 => by
    unfold tableF_l2
    exact (tableF_s3_eq fuel k K w0 w2 w3 w5 w1 w4 z).trans (congr (congr (congr (congr (congr (congr (congr (Eq.refl (tableF_s3 (R := Out) w0 w2 w3 w5 w1 w4 z)) (funext fun a0 => funext fun a1 => funext fun a2 => funext fun a3 => tableF_l2_eq fuel w2 w3 z K k a0 a1 a2 a3)) (funext fun a4 => funext fun a5 => funext fun a6 => funext fun a7 => tableF_l2_eq fuel w2 w3 z K k a4 a5 a6 a7)) (funext fun a8 => funext fun a9 => funext fun a10 => funext fun a11 => tableF_l2_eq fuel w2 w3 z K k a8 a9 a10 a11)) (funext fun a12 => funext fun a13 => funext fun a14 => funext fun a15 => tableF_l2_eq fuel w2 w3 z K k a12 a13 a14 a15)) (funext fun a16 => funext fun a17 => funext fun a18 => funext fun a19 => tableF_l2_eq fuel w2 w3 z K k a16 a17 a18 a19)) (funext fun a20 => funext fun a21 => funext fun a22 => funext fun a23 => tableF_l2_eq fuel w2 w3 z K k a20 a21 a22 a23)) (rfl))
noncomputable def tableF_s2 {R : Type} (w2 w3 z : Int) (c0 c1 c2 : Int → Nat → Int → List Int → Option R) (c3 : Option R) : Option R :=
  br (decide (1 ≤ w2))
    (bnd (divI .quo .u64 4294967296 w2) fun v74 =>
    bnd (divI .quo .u64 w2 w3) fun v75 =>
    br (decide (1 < v75))
      (bnd (divI .quo .u64 (IntKind.u64.wrap (4294967296 * w3)) (IntKind.u64.wrap (1 * w2))) fun v76 =>
      c0 2 1 (IntKind.u64.wrap (0 + (IntKind.u64.wrap (v74 + v76)))) ([(IntKind.u64.wrap (0 + (IntKind.u64.wrap (v74 + v76))))]))
      (br (1 == v75)
        (grd (decide (1 ≤ w3) && decide (w3 ≤ 8)) <|
        bnd (divI .quo .u64 (IntKind.u64.wrap ((IntKind.u64.wrap (4294967296 * w3)) * (IntKind.u64.wrap (digS w3)))) w2) fun v140 =>
        c1 2 1 (IntKind.u64.wrap (0 + (IntKind.u64.wrap (v74 + v140)))) ([(IntKind.u64.wrap (0 + (IntKind.u64.wrap (v74 + v140))))]))
        (c2 2 1 (IntKind.u64.wrap (0 + v74)) ([(IntKind.u64.wrap (0 + v74))]))))
    (c3)
theorem tableF_s2_eq (fuel k : Nat) (K : Ex → St → Option Out) (w2 w3 z : Int) : lpN qc5 (itX Tryd.prog mode7 T_refWeight fuel 3 60 4 3 (roundK (evC qc1) (evC qc2) (qc3 fuel) #[12] 1040496 qc0)) 0 [0, 3, 4, 5] (k + 1) ⟨[(0, .yl 3), (3, vU w2), (4, vU w3), (5, vU 1)], (qc6 z), 4, none⟩ K = tableF_s2 w2 w3 z (fun a0 a1 a2 a3 => lpN qc5 (itX Tryd.prog mode7 T_refWeight fuel 3 60 4 3 (roundK (evC qc1) (evC qc2) (qc3 fuel) #[12] 1040496 qc0)) 0 [0, 3, 4, 5] k ⟨[(0, .yl 3), (3, vU w2), (4, vU w3), (5, vU a0)], [(0, some ⟨42, .agg [.sl 4 1 0 a1], true⟩), (1, some ⟨79, .agg [vU a2], true⟩), (qc4 z), (3, none), (4, some ⟨79, vW a3, true⟩)], 5, none⟩ K) (fun a4 a5 a6 a7 => lpN qc5 (itX Tryd.prog mode7 T_refWeight fuel 3 60 4 3 (roundK (evC qc1) (evC qc2) (qc3 fuel) #[12] 1040496 qc0)) 0 [0, 3, 4, 5] k ⟨[(0, .yl 3), (3, vU w2), (4, vU w3), (5, vU a4)], [(0, some ⟨42, .agg [.sl 4 1 0 a5], true⟩), (1, some ⟨79, .agg [vU a6], true⟩), (qc4 z), (3, none), (4, some ⟨79, vW a7, true⟩)], 5, none⟩ K) (fun a8 a9 a10 a11 => lpN qc5 (itX Tryd.prog mode7 T_refWeight fuel 3 60 4 3 (roundK (evC qc1) (evC qc2) (qc3 fuel) #[12] 1040496 qc0)) 0 [0, 3, 4, 5] k ⟨[(0, .yl 3), (3, vU w2), (4, vU w3), (5, vU a8)], [(0, some ⟨42, .agg [.sl 4 1 0 a9], true⟩), (1, some ⟨79, .agg [vU a10], true⟩), (qc4 z), (3, none), (4, some ⟨79, vW a11, true⟩)], 5, none⟩ K) (K (.exit 0) ⟨[], (qc6 z), 4, none⟩) := by kernel_rfl
noncomputable def tableF_l1 {R : Type} (fuel : Nat) (z : Int) (k0 : Nat → Int → List Int → Option R) (k1 : Option R) : Nat → Int → Int → Option R
  | 0, _, _ => none
  | k + 1, w2, w3 =>
    (tableF_s2 w2 w3 z (fun a0 a1 a2 a3 => (tableF_l2 fuel w2 w3 z (fun x0 x1 x2 => k0 x0 x1 x2) k a0 a1 a2 a3)) (fun a4 a5 a6 a7 => (tableF_l2 fuel w2 w3 z (fun x3 x4 x5 => k0 x3 x4 x5) k a4 a5 a6 a7)) (fun a8 a9 a10 a11 => (tableF_l2 fuel w2 w3 z (fun x6 x7 x8 => k0 x6 x7 x8) k a8 a9 a10 a11)) (k1))
theorem tableF_l1_eq (fuel : Nat) (z : Int) (K : Ex → St → Option Out) : ∀ (k : Nat) (w2 w3 : Int), lpN qc5 (itX Tryd.prog mode7 T_refWeight fuel 3 60 4 3 (roundK (evC qc1) (evC qc2) (qc3 fuel) #[12] 1040496 qc0)) 0 [0, 3, 4, 5] k ⟨[(0, .yl 3), (3, vU w2), (4, vU w3), (5, vU 1)], (qc6 z), 4, none⟩ K = tableF_l1 fuel z (fun y0 y1 y2 => K (.exit 0) ⟨[], [(0, some ⟨42, .agg [.sl 4 1 0 y0], true⟩), (1, some ⟨79, .agg [vU y1], true⟩), (qc4 z), (3, none), (4, some ⟨79, vW y2, true⟩)], 5, none⟩) (K (.exit 0) ⟨[], (qc6 z), 4, none⟩) k w2 w3
  | 0, _, _ => rfl
  | k + 1, w2, w3 => by
    unfold tableF_l1
    exact (tableF_s2_eq fuel k K w2 w3 z).trans (congr (congr (congr (congr (Eq.refl (tableF_s2 (R := Out) w2 w3 z)) (funext fun a0 => funext fun a1 => funext fun a2 => funext fun a3 => tableF_l2_eq fuel w2 w3 z K k a0 a1 a2 a3)) (funext fun a4 => funext fun a5 => funext fun a6 => funext fun a7 => tableF_l2_eq fuel w2 w3 z K k a4 a5 a6 a7)) (funext fun a8 => funext fun a9 => funext fun a10 => funext fun a11 => tableF_l2_eq fuel w2 w3 z K k a8 a9 a10 a11)) (rfl))
noncomputable def tableF_s4 {R : Type} (x0 : List Int) (x1 : Nat) (z x2 : Int) (c0 : List Int → Int → Option R) : Option R :=
  c0 ((x0.drop 0).take x1) 0
theorem tableF_s4_eq (fuel : Nat)  (x0 : List Int) (x1 : Nat) (z x2 : Int) : (kont (itX Tryd.prog mode7 T_refWeight fuel 3 60 4 3 (roundK (evC qc1) (evC qc2) (qc3 fuel) #[12] 1040496 qc0)) (bodyOf Tryd.prog 210) [1, 1, 0] 0 (itE (behind ⟨qc0, (qc7 z), 3, none⟩ (kont (qc3 fuel) (bodyOf Tryd.prog 169) [1, 1, 1, 1, 0, 1, 0] 12 (endK Tryd.prog 0 0 169))))) (.exit 0) ⟨[], [(0, some ⟨42, .agg [.sl 4 1 0 x1], true⟩), (1, some ⟨79, .agg [vU x2], true⟩), (qc4 z), (3, none), (4, some ⟨79, vW x0, true⟩)], 5, none⟩ = tableF_s4 x0 x1 z x2 (fun a0 a1 => some (.tup [vW a0, vI a1], [])) := by kernel_rfl
noncomputable def tableF_s5 {R : Type} (z : Int) (c0 : Int → Option R) : Option R :=
  c0 0
theorem tableF_s5_eq (fuel : Nat)  (z : Int) : (kont (itX Tryd.prog mode7 T_refWeight fuel 3 60 4 3 (roundK (evC qc1) (evC qc2) (qc3 fuel) #[12] 1040496 qc0)) (bodyOf Tryd.prog 210) [1, 1, 0] 0 (itE (behind ⟨qc0, (qc7 z), 3, none⟩ (kont (qc3 fuel) (bodyOf Tryd.prog 169) [1, 1, 1, 1, 0, 1, 0] 12 (endK Tryd.prog 0 0 169))))) (.exit 0) ⟨[], (qc6 z), 4, none⟩ = tableF_s5 z (fun a0 => some (.tup [vN, vI a0], [])) := by kernel_rfl
noncomputable def tableF_s1 {R : Type} (z : Int) (c0 : Int → Option R) (c1 : Int → Int → Option R) : Option R :=
  br (!(decide (1 ≤ z) && decide (z ≤ 64)))
    (c0 2)
    (grd (decide (1 ≤ z) && decide (z ≤ 64)) <|
    c1 (IntKind.u64.wrap z) (IntKind.u64.wrap (rootS z)))
theorem tableF_s1_eq (fuel : Nat)  (z : Int) : callN Tryd.prog mode7 T_refWeight fuel 169 [vI z] [] = tableF_s1 z (fun a1 => some (.tup [vN, vI a1], [])) (fun a0 a2 => lpN qc5 (itX Tryd.prog mode7 T_refWeight fuel 3 60 4 3 (roundK (evC qc1) (evC qc2) (qc3 fuel) #[12] 1040496 qc0)) 0 [0, 3, 4, 5] fuel ⟨[(0, .yl 3), (3, vU a0), (4, vU a2), (5, vU 1)], (qc6 z), 4, none⟩ (kont (itX Tryd.prog mode7 T_refWeight fuel 3 60 4 3 (roundK (evC qc1) (evC qc2) (qc3 fuel) #[12] 1040496 qc0)) (bodyOf Tryd.prog 210) [1, 1, 0] 0 (itE (behind ⟨qc0, (qc7 z), 3, none⟩ (kont (qc3 fuel) (bodyOf Tryd.prog 169) [1, 1, 1, 1, 0, 1, 0] 12 (endK Tryd.prog 0 0 169)))))) := by kernel_rfl
noncomputable def tableF {R : Type} (fuel : Nat) (z : Int) (r0 : Int → Option R) (r1 : List Int → Int → Option R) : Option R :=
  (tableF_s1 z (fun a1 => r0 a1) (fun a0 a2 => (tableF_l1 fuel z (fun x0 x1 x2 => (tableF_s4 x2 x0 z x1 (fun a3 a4 => r1 a3 a4))) ((tableF_s5 z (fun a5 => r0 a5))) fuel a0 a2)))
theorem tableF_eq (fuel : Nat) (z : Int) : callN Tryd.prog mode7 T_refWeight fuel 169 [.s (.int .i64 z)] [] = tableF fuel z (fun z0 => some (.tup [.s (.slice none 0 0), .s (.int .i64 z0)], [])) (fun z0 z1 => some (.tup [.li .u64 z0, .s (.int .i64 z1)], [])) := by
  unfold tableF
  exact (tableF_s1_eq fuel  z).trans (congr (congr (Eq.refl (tableF_s1 (R := Out) z)) (rfl)) (funext fun a0 => funext fun a1 => (tableF_l1_eq fuel z (kont (itX Tryd.prog mode7 T_refWeight fuel 3 60 4 3 (roundK (evC qc1) (evC qc2) (qc3 fuel) #[12] 1040496 qc0)) (bodyOf Tryd.prog 210) [1, 1, 0] 0 (itE (behind ⟨qc0, (qc7 z), 3, none⟩ (kont (qc3 fuel) (bodyOf Tryd.prog 169) [1, 1, 1, 1, 0, 1, 0] 12 (endK Tryd.prog 0 0 169))))) fuel a0 a1).trans (congrFun (congrFun (congrFun (congr (congr (Eq.refl (tableF_l1 (R := Out) fuel z)) (funext fun x0 => funext fun x1 => funext fun x2 => (tableF_s4_eq fuel  x2 x0 z x1))) ((tableF_s5_eq fuel  z))) fuel) a0) a1)))
theorem table_loop {R : Type} (fuel : Nat) (z : Int) (hk : 1 ≤ z) (hk2 : z ≤ 64) (k0 : Nat → Int → List Int → Option R) : ∀ (k j : Nat), (j : Int) ≤ z → z < (j : Int) + k → tableF_l2 fuel z (rootS z) z k0 k ((j : Int) + 1) j (sumN z j) (tabN z j) = k0 z.toNat (sumN z z.toNat) (tabN z z.toNat)
  | 0, j, h1, h2 => by omega
  | k + 1, j, h1, h2 => by
    unfold tableF_l2 tableF_s3
    rw [br_if]
    by_cases hc : (j : Int) + 1 ≤ z
    · have ih := table_loop fuel z hk hk2 k0 k (j + 1) (by omega) (by omega)
      obtain ⟨d, hd⟩ : ∃ d : Int, d = (j : Int) + 1 := ⟨_, rfl⟩
      have hs := sum_range hk hk2 j (by omega)
      have hr := root_range hk hk2
      have hdg := dig_range hr.1 hr.2
      have hw := weight_range hk hk2 (d := d) (by omega) (by omega)
      have hsum : sumN z (j + 1) = sumN z j + weightS z d := by rw [sumN, hd]
      have htab := tab_succ z j
      rw [hsum] at htab ih
      rw [htab] at ih
      have hnx : IntKind.u64.wrap (d + 1) = ((j + 1 : Nat) : Int) + 1 := by rw [wrap_u64 (by omega) (by omega)]; omega
      have hlen : (tabN z j ++ [sumN z j + weightS z d]).length = j + 1 := by rw [List.length_append, tab_len]; rfl
      have hbeq : Nat.beq (tabN z j).length j = true := by rw [tab_len]; exact beq_self _
      have hok : okN (j + 1) 8 = true := okN_of (by omega) (by omega)
      rw [if_pos (by simpa using hc), ← hd]
      have hW : weightS z d = weightI z d := by rw [weightS_eq]
      rw [hW] at hw hsum htab ih hlen
      unfold weightI at hw hsum htab ih hlen
      generalize rootS z = r at *
      generalize digS r = g at *
      generalize sumN z j = sm at *
      generalize tabN z j = tb at *
      have m1 := mul_small (show 1 ≤ d by omega) (show d ≤ 64 by omega) hk hk2
      have hm2 := Int.mul_le_mul hr.2 hdg.2 (by omega) (show (0 : Int) ≤ 8 by decide)
      have hm := mul_small (a := r) (b := g) hr.1 (by omega) hdg.1 (by omega)
      have e2 : IntKind.u64.wrap (4294967296 * r) = 4294967296 * r := wrap_u64 (by omega) (by omega)
      have e3 : IntKind.u64.wrap g = g := wrap_u64 (by omega) (by omega)
      have e4 : IntKind.u64.wrap (4294967296 * r * g) = 4294967296 * r * g := by rw [Int.mul_assoc]; exact wrap_u64 (by omega) (by omega)
      have e5 : IntKind.u64.wrap (d * z) = d * z := wrap_u64 (by omega) (by omega)
      have q1 : divI .quo .u64 z r = some (z / r) := quo_u64 (by omega) (by omega) (by omega)
      have q2 : divI .quo .u64 4294967296 z = some (4294967296 / z) := quo_u64 (by decide) (by decide) (by omega)
      have q3 : divI .quo .u64 (4294967296 * r) (d * z) = some (4294967296 * r / (d * z)) := quo_u64 (by omega) (by omega) (by omega)
      have q4 : divI .quo .u64 (4294967296 * r * g) z = some (4294967296 * r * g / z) := by rw [Int.mul_assoc]; exact quo_u64 (by omega) (by omega) (by omega)
      have a2 := div_small (a := 4294967296 * r) (b := d * z) (by omega) m1.1
      have a3 := div_small (a := 4294967296 * r * g) (b := z) (by rw [Int.mul_assoc]; omega) hk
      have a1 := div_small (a := 4294967296) (by decide) hk
      rw [Int.mul_assoc] at a3
      have hgr : (decide (1 ≤ r) && decide (r ≤ 8)) = true := by simp; omega
      simp only [e2, e3, e4, e5, q1, q2, q3, q4, bnd_some, grd_of hgr, br_if, decide_eq_true_eq, beq_iff_eq, grd_of hbeq, grd_of hok, hnx]
      rw [Int.mul_assoc 4294967296 r g] at *
      generalize hp : z / r = p at *
      generalize 4294967296 * r / (d * z) = x at *
      generalize 4294967296 * (r * g) / z = y at *
      generalize 4294967296 / z = u at *
      by_cases hd1 : d > 1
      · have m2 := mul_small (show 1 ≤ d by omega) (show d ≤ 64 by omega) (show 1 ≤ d - 1 by omega) (by omega)
        have e6 : IntKind.u64.wrap (d * IntKind.u64.wrap (d - 1)) = d * (d - 1) := by rw [wrap_u64 (x := d - 1) (by omega) (by omega), wrap_u64 (by omega) (by omega)]
        have q5 : divI .quo .u64 4294967296 (d * (d - 1)) = some (4294967296 / (d * (d - 1))) := quo_u64 (by decide) (by decide) (by omega)
        have a4 := div_small (a := 4294967296) (b := d * (d - 1)) (by decide) m2.1
        simp only [if_pos hd1, e6, q5, bnd_some] at hw ih hlen ⊢
        generalize 4294967296 / (d * (d - 1)) = v at *
        by_cases h1 : d < p
        · simp only [if_pos h1] at hw ih hlen ⊢
          rw [wrap_u64 (x := v + x) (by omega) (by omega), wrap_u64 (by omega) (by omega), hlen]
          exact ih
        · by_cases h2 : d = p
          · simp only [if_neg h1, if_pos h2] at hw ih hlen ⊢
            rw [wrap_u64 (x := v + y) (by omega) (by omega), wrap_u64 (by omega) (by omega), hlen]
            exact ih
          · simp only [if_neg h1, if_neg h2, Int.add_zero] at hw ih hlen ⊢
            rw [wrap_u64 (by omega) (by omega), hlen]
            exact ih
      · simp only [if_neg hd1] at hw ih hlen ⊢
        by_cases h1 : d < p
        · simp only [if_pos h1] at hw ih hlen ⊢
          rw [wrap_u64 (x := u + x) (by omega) (by omega), wrap_u64 (by omega) (by omega), hlen]
          exact ih
        · by_cases h2 : d = p
          · simp only [if_neg h1, if_pos h2] at hw ih hlen ⊢
            rw [wrap_u64 (x := u + y) (by omega) (by omega), wrap_u64 (by omega) (by omega), hlen]
            exact ih
          · simp only [if_neg h1, if_neg h2, Int.add_zero] at hw ih hlen ⊢
            rw [wrap_u64 (by omega) (by omega), hlen]
            exact ih
    · rw [if_neg (by simpa using hc), show z.toNat = j by omega]
theorem table_fact (z : Int) : Fact Tryd.prog gTab 169 [.s (.int .i64 z)] [] (.tup [.li .u64 (if (decide (1 ≤ z) && decide (z ≤ 64)) = true then tabS z else []), .s (.int .i64 (if (decide (1 ≤ z) && decide (z ≤ 64)) = true then 0 else 2))], []) := by
  by_cases hk : (decide (1 ≤ z) && decide (z ≤ 64)) = true
  · have hk' := hk
    simp only [Bool.and_eq_true, decide_eq_true_eq] at hk'
    obtain ⟨hk1, hk2⟩ := hk'
    rw [hk, if_pos rfl, if_pos rfl]
    obtain ⟨F, hF⟩ : ∃ F : Nat, F = 99 := ⟨_, rfl⟩
    refine callN_fact hN hM T_refWeight_ok (n := F + 1) (mode := mode7) ?_
    rw [tableF_eq]
    unfold tableF tableF_s1
    have hr := root_range hk1 hk2
    rw [hk, br_if, if_neg (by decide), grd_tt, wrap_u64 (x := z) (by omega) (by omega), wrap_u64 (x := rootS z) (by omega) (by omega)]
    dsimp only
    unfold tableF_l1 tableF_s2
    dsimp only
    have hl := fun k0 => table_loop (R := Out) (F + 1) z hk1 hk2 k0 F 1 (by omega) (by omega)
    have hdg := dig_range hr.1 hr.2
    have hw := weight_range hk1 hk2 (d := 1) (by omega) (by omega)
    have hsum : sumN z 1 = weightS z 1 := by show 0 + weightS z (((0 : Nat) : Int) + 1) = _; simp
    have htab : tabN z 1 = [weightS z 1] := by rw [tab_succ, hsum]; rfl
    rw [htab, hsum, show ((1 : Nat) : Int) + 1 = 2 from rfl] at hl
    have htz : tabS z = tabN z z.toNat := by rw [tabS_eq]; rfl
    rw [htz]
    have hW : weightS z 1 = weightI z 1 := by rw [weightS_eq]
    rw [hW] at hw hl
    unfold weightI at hw hl
    rw [if_neg (by decide)] at hw hl
    generalize rootS z = r at *
    generalize digS r = g at *
    have hm2 := Int.mul_le_mul hr.2 hdg.2 (by omega) (show (0 : Int) ≤ 8 by decide)
    have hm := mul_small (a := r) (b := g) hr.1 (by omega) hdg.1 (by omega)
    have e2 : IntKind.u64.wrap (4294967296 * r) = 4294967296 * r := wrap_u64 (by omega) (by omega)
    have e3 : IntKind.u64.wrap g = g := wrap_u64 (by omega) (by omega)
    have e4 : IntKind.u64.wrap (4294967296 * r * g) = 4294967296 * r * g := by rw [Int.mul_assoc]; exact wrap_u64 (by omega) (by omega)
    have e5 : IntKind.u64.wrap (1 * z) = 1 * z := wrap_u64 (by omega) (by omega)
    have q1 : divI .quo .u64 z r = some (z / r) := quo_u64 (by omega) (by omega) (by omega)
    have q2 : divI .quo .u64 4294967296 z = some (4294967296 / z) := quo_u64 (by decide) (by decide) (by omega)
    have q3 : divI .quo .u64 (4294967296 * r) (1 * z) = some (4294967296 * r / (1 * z)) := quo_u64 (by omega) (by omega) (by omega)
    have q4 : divI .quo .u64 (4294967296 * r * g) z = some (4294967296 * r * g / z) := by rw [Int.mul_assoc]; exact quo_u64 (by omega) (by omega) (by omega)
    have a2 := div_small (a := 4294967296 * r) (b := 1 * z) (by omega) (by omega)
    have a3 := div_small (a := 4294967296 * r * g) (b := z) (by rw [Int.mul_assoc]; omega) hk1
    have a1 := div_small (a := 4294967296) (by decide) hk1
    rw [Int.mul_assoc] at a3
    have hgr : (decide (1 ≤ r) && decide (r ≤ 8)) = true := by simp; omega
    rw [br_if, if_pos (by simpa using hk1)]
    simp only [e2, e3, e4, e5, q1, q2, q3, q4, bnd_some, grd_of hgr, br_if, decide_eq_true_eq, beq_iff_eq]
    rw [Int.mul_assoc 4294967296 r g] at *
    generalize hp : z / r = p at *
    generalize 4294967296 * r / (1 * z) = x at *
    generalize 4294967296 * (r * g) / z = y at *
    generalize 4294967296 / z = u at *
    have hend : ∀ (s : Int), tableF_s4 (R := Out) (tabN z z.toNat) z.toNat z s (fun z0 z1 => some (.tup [.li .u64 z0, .s (.int .i64 z1)], [])) = some (.tup [.li .u64 (tabN z z.toNat), .s (.int .i64 0)], []) := fun s => by
      unfold tableF_s4
      rw [List.drop_zero, List.take_of_length_le (by rw [tab_len]; omega)]
    by_cases h1 : 1 < p
    · simp only [if_pos h1] at hw hl ⊢
      rw [wrap_u64 (x := u + x) (by omega) (by omega), wrap_u64 (by omega) (by omega), Int.zero_add, hl]
      exact hend _
    · by_cases h2 : 1 = p
      · simp only [if_neg h1, if_pos h2] at hw hl ⊢
        rw [wrap_u64 (x := u + y) (by omega) (by omega), wrap_u64 (by omega) (by omega), Int.zero_add, hl]
        exact hend _
      · simp only [if_neg h1, if_neg h2, Int.add_zero] at hw hl ⊢
        rw [wrap_u64 (by omega) (by omega), Int.zero_add, hl]
        exact hend _
  · rw [if_neg hk, if_neg hk]
    refine Fact.out (v := .tup [.s (.slice none 0 0), .s (.int .i64 2)]) (bs' := []) ?_ (fun _ _ _ x h => RV_tup_two (fun _ h => RVs_two (fun _ h => RV_nil_li h) (fun _ h => h) h) h)
    refine callN_fact hN hM T_refWeight_ok (n := 0) (mode := mode7) ?_
    rw [tableF_eq]
    unfold tableF tableF_s1
    rw [Bool.eq_false_iff.2 hk, br_if, if_pos (by decide)]
noncomputable def table_ent : List V → List Blk → Option (Bool × Out)
  | [.s (.int .i64 z)], [] => some (true, (.tup [.li .u64 (if (decide (1 ≤ z) && decide (z ≤ 64)) = true then tabS z else []), .s (.int .i64 (if (decide (1 ≤ z) && decide (z ≤ 64)) = true then 0 else 2))], []))
  | _, _ => none
theorem table_ok : ∀ args bs out, table_ent args bs = some (true, out) → Fact Tryd.prog gTab 169 args bs out := by
  intro args bs out h
  unfold table_ent at h
  split at h
  · rename_i z
    simp only [Option.some.injEq, Prod.mk.injEq] at h
    obtain ⟨_, rfl⟩ := h
    exact table_fact z
  · cases h
noncomputable def T_table : Tbl := Tbl.cons 169 table_ent T_refWeight
theorem T_table_ok : CallOk Tryd.prog gTab T_table := cons_ok T_refWeight_ok table_ok
def mode8 : FuncId → Nat := fun f => 0
/-! downpour/downpourref07.Weights -/
noncomputable def refWeightsF_s2 {R : Type} (w2 z : Int) (w3 : List Int) (w1 : Nat) (c0 : Nat → Int → List Int → Option R) (c1 : Nat → List Int → Option R) : Option R :=
  br (decide (w2 ≤ z))
    (grd ((decide (1 ≤ z) && decide (z ≤ 64)) && decide (1 ≤ w2) && decide (w2 ≤ z)) <|
    grd (Nat.beq w3.length w1) <|
    grd (okN (w1 + 1) 8) <|
    c0 ((w3 ++ [(weightS z w2)]).length) (IntKind.i64.wrap (w2 + 1)) (w3 ++ [(weightS z w2)]))
    (c1 w1 w3)
theorem refWeightsF_s2_eq (fuel k : Nat) (K : Ex → St → Option Out) (w2 z : Int) (w3 : List Int) (w1 : Nat) : lpN (sub (bodyOf Tryd.prog 192) [1, 1, 0, 1, 0, 0]) (fnX Tryd.prog mode8 T_table fuel 18 0) 131084 [0, 2, 3, 4] (k + 1) ⟨[(0, vI z), (2, vN), (3, .sl 0 1 0 w1), (4, vI w2)], [(0, some ⟨79, vW w3, true⟩)], 1, none⟩ K = refWeightsF_s2 w2 z w3 w1 (fun a6 a7 a8 => lpN (sub (bodyOf Tryd.prog 192) [1, 1, 0, 1, 0, 0]) (fnX Tryd.prog mode8 T_table fuel 18 0) 131084 [0, 2, 3, 4] k ⟨[(0, vI z), (2, vN), (3, .sl 0 1 0 a6), (4, vI a7)], [(0, some ⟨79, vW a8, true⟩)], 1, none⟩ K) (fun a9 a0 => K (.exit 0) ⟨[(2, vN), (3, .sl 0 1 0 a9)], [(0, some ⟨79, vW a0, true⟩)], 1, none⟩) := by kernel_rfl
noncomputable def refWeightsF_l1 {R : Type} (fuel : Nat) (z : Int) (k0 : Nat → List Int → Option R) : Nat → Nat → Int → List Int → Option R
  | 0, _, _, _ => none
  | k + 1, w1, w2, w3 =>
    (refWeightsF_s2 w2 z w3 w1 (fun a6 a7 a8 => ( refWeightsF_l1 fuel z k0 k a6 a7 a8 )) (fun a9 a0 => k0 a9 a0))
theorem refWeightsF_l1_eq (fuel : Nat) (z : Int) (K : Ex → St → Option Out) : ∀ (k w1 : Nat) (w2 : Int) (w3 : List Int), lpN (sub (bodyOf Tryd.prog 192) [1, 1, 0, 1, 0, 0]) (fnX Tryd.prog mode8 T_table fuel 18 0) 131084 [0, 2, 3, 4] k ⟨[(0, vI z), (2, vN), (3, .sl 0 1 0 w1), (4, vI w2)], [(0, some ⟨79, vW w3, true⟩)], 1, none⟩ K = refWeightsF_l1 fuel z (fun y4 y5 => K (.exit 0) ⟨[(2, vN), (3, .sl 0 1 0 y4)], [(0, some ⟨79, vW y5, true⟩)], 1, none⟩) k w1 w2 w3
  | 0, _, _, _ => rfl
  | k + 1, w1, w2, w3 => by
    unfold refWeightsF_l1
    exact (refWeightsF_s2_eq fuel k K w2 z w3 w1).trans (congr (congr (Eq.refl (refWeightsF_s2 (R := Out) w2 z w3 w1)) (funext fun a6 => funext fun a7 => funext fun a8 => refWeightsF_l1_eq fuel z K k a6 a7 a8)) (rfl))
noncomputable def refWeightsF_s3 {R : Type} (x0 : List Int) (x1 : Nat) (c0 : List Int → Option R) : Option R :=
  c0 ((x0.drop 0).take x1)
theorem refWeightsF_s3_eq (fuel : Nat)  (x0 : List Int) (x1 : Nat) : (kont (fnX Tryd.prog mode8 T_table fuel 18 0) (bodyOf Tryd.prog 192) [1, 1, 0, 1, 0] 4 (endK Tryd.prog 0 0 192)) (.exit 0) ⟨[(2, vN), (3, .sl 0 1 0 x1)], [(0, some ⟨79, vW x0, true⟩)], 1, none⟩ = refWeightsF_s3 x0 x1 (fun a0 => some (vW a0, [])) := by kernel_rfl
noncomputable def refWeightsF_s1 {R : Type} (z : Int) (c0 : Nat → Int → List Int → Option R) : Option R :=
  c0 0 1 ([])
theorem refWeightsF_s1_eq (fuel : Nat)  (z : Int) : callN Tryd.prog mode8 T_table fuel 192 [vI z] [] = refWeightsF_s1 z (fun a0 a1 a2 => lpN (sub (bodyOf Tryd.prog 192) [1, 1, 0, 1, 0, 0]) (fnX Tryd.prog mode8 T_table fuel 18 0) 131084 [0, 2, 3, 4] fuel ⟨[(0, vI z), (2, vN), (3, .sl 0 1 0 a0), (4, vI a1)], [(0, some ⟨79, vW a2, true⟩)], 1, none⟩ (kont (fnX Tryd.prog mode8 T_table fuel 18 0) (bodyOf Tryd.prog 192) [1, 1, 0, 1, 0] 4 (endK Tryd.prog 0 0 192))) := by kernel_rfl
noncomputable def refWeightsF {R : Type} (fuel : Nat) (z : Int) (r0 : List Int → Option R) : Option R :=
  (refWeightsF_s1 z (fun a0 a1 a2 => (refWeightsF_l1 fuel z (fun x0 x1 => (refWeightsF_s3 x1 x0 (fun a3 => r0 a3))) fuel a0 a1 a2)))
theorem refWeightsF_eq (fuel : Nat) (z : Int) : callN Tryd.prog mode8 T_table fuel 192 [.s (.int .i64 z)] [] = refWeightsF fuel z (fun z0 => some (.li .u64 z0, [])) := by
  unfold refWeightsF
  exact (refWeightsF_s1_eq fuel  z).trans (congr (Eq.refl (refWeightsF_s1 (R := Out) z)) (funext fun a0 => funext fun a1 => funext fun a2 => (refWeightsF_l1_eq fuel z (kont (fnX Tryd.prog mode8 T_table fuel 18 0) (bodyOf Tryd.prog 192) [1, 1, 0, 1, 0] 4 (endK Tryd.prog 0 0 192)) fuel a0 a1 a2).trans (congrFun (congrFun (congrFun (congrFun (congr (Eq.refl (refWeightsF_l1 (R := Out) fuel z)) (funext fun x0 => funext fun x1 => (refWeightsF_s3_eq fuel  x1 x0))) fuel) a0) a1) a2)))
theorem refWeights_loop {R : Type} (fuel : Nat) (z : Int) (hk : 1 ≤ z) (hk2 : z ≤ 64) (k0 : Nat → List Int → Option R) : ∀ (k j : Nat), (j : Int) ≤ z → z < (j : Int) + k → refWeightsF_l1 fuel z k0 k j ((j : Int) + 1) (weightsN z j) = k0 z.toNat (weightsN z z.toNat)
  | 0, j, h1, h2 => by omega
  | k + 1, j, h1, h2 => by
    unfold refWeightsF_l1 refWeightsF_s2
    rw [br_if]
    by_cases hc : (j : Int) + 1 ≤ z
    · have ih := refWeights_loop fuel z hk hk2 k0 k (j + 1) (by omega) (by omega)
      rw [ws_succ] at ih
      rw [if_pos (by simpa using hc), grd_of (by simp; omega), grd_of (by rw [ws_len]; exact beq_self _), grd_of (okN_of (by omega) (by omega)), wrap_i64 (by omega) (by omega), show (j : Int) + 1 + 1 = ((j + 1 : Nat) : Int) + 1 by omega, List.length_append, ws_len]
      exact ih
    · rw [if_neg (by simpa using hc), show z.toNat = j by omega]
theorem refWeights_fact (z : Int) (hg : (decide (1 ≤ z) && decide (z ≤ 64)) = true) : Fact Tryd.prog gTab 192 [.s (.int .i64 z)] [] (.li .u64 (weightsS z), []) := by
  simp only [Bool.and_eq_true, decide_eq_true_eq] at hg
  refine callN_fact hN hM T_table_ok (n := 100) (mode := mode8) ?_
  rw [refWeightsF_eq]
  unfold refWeightsF refWeightsF_s1
  have h := fun k0 => refWeights_loop (R := Out) 100 z hg.1 hg.2 k0 100 0 (by omega) (by omega)
  rw [show weightsN z 0 = [] from rfl, Int.natCast_zero, Int.zero_add] at h
  dsimp only
  rw [h]
  unfold refWeightsF_s3
  rw [List.drop_zero, List.take_of_length_le (by rw [ws_len]; omega), weightsS_eq]
  rfl
noncomputable def refWeights_ent : List V → List Blk → Option (Bool × Out)
  | [.s (.int .i64 z)], [] => some ((decide (1 ≤ z) && decide (z ≤ 64)), (.li .u64 (weightsS z), []))
  | _, _ => none
theorem refWeights_ok : ∀ args bs out, refWeights_ent args bs = some (true, out) → Fact Tryd.prog gTab 192 args bs out := by
  intro args bs out h
  unfold refWeights_ent at h
  split at h
  · rename_i z
    simp only [Option.some.injEq, Prod.mk.injEq] at h
    obtain ⟨hg, rfl⟩ := h
    exact refWeights_fact z hg
  · cases h
noncomputable def T_refWeights : Tbl := Tbl.cons 192 refWeights_ent T_table
theorem T_refWeights_ok : CallOk Tryd.prog gTab T_refWeights := cons_ok T_table_ok refWeights_ok
/-! downpour/downpourref07.Table -/
noncomputable abbrev qc8 (fuel : Nat) : Ctx Out := (fnX Tryd.prog mode8 T_refWeights fuel 24 0)
noncomputable abbrev qc9 : Code := (sub (bodyOf Tryd.prog 173) [1, 1, 1, 0, 1, 0, 0])
noncomputable def refTableF_s2 {R : Type} (w6 w8 : Int) (w7 w9 : List Int) (w4 : Nat) (w5 : Int) (c0 : Nat → Int → List Int → Int → Int → List Int → Option R) (c1 : Nat → List Int → Option R) : Option R :=
  br (decide (w6 < w8))
    (bnd (ix w7 w6) fun e0 =>
    grd (Nat.beq w9.length w4) <|
    grd (okN (w4 + 1) 8) <|
    c0 ((w9 ++ [(IntKind.u64.wrap (w5 + e0))]).length) (IntKind.u64.wrap (w5 + e0)) w7 w8 (IntKind.i64.wrap (w6 + 1)) (w9 ++ [(IntKind.u64.wrap (w5 + e0))]))
    (c1 w4 w9)
theorem refTableF_s2_eq (fuel k : Nat) (K : Ex → St → Option Out) (w6 w8 : Int) (w7 w9 : List Int) (w4 : Nat) (w5 : Int) : lpN qc9 (qc8 fuel) 8388620 [2, 3, 4, 9, 10, 11] (k + 1) ⟨[(2, vN), (3, .sl 0 1 0 w4), (4, vU w5), (9, vW w7), (10, vI w8), (11, vI w6)], [(0, some ⟨79, vW w9, true⟩)], 1, none⟩ K = refTableF_s2 w6 w8 w7 w9 w4 w5 (fun a0 a1 a2 a3 a4 a5 => lpN qc9 (qc8 fuel) 8388620 [2, 3, 4, 9, 10, 11] k ⟨[(2, vN), (3, .sl 0 1 0 a0), (4, vU a1), (9, vW a2), (10, vI a3), (11, vI a4)], [(0, some ⟨79, vW a5, true⟩)], 1, none⟩ K) (fun a6 a7 => K (.exit 0) ⟨[(2, vN), (3, .sl 0 1 0 a6)], [(0, some ⟨79, vW a7, true⟩)], 1, none⟩) := by kernel_rfl
noncomputable def refTableF_l1 {R : Type} (fuel : Nat)  (k0 : Nat → List Int → Option R) : Nat → Nat → Int → List Int → Int → Int → List Int → Option R
  | 0, _, _, _, _, _, _ => none
  | k + 1, w4, w5, w7, w8, w6, w9 =>
    (refTableF_s2 w6 w8 w7 w9 w4 w5 (fun a0 a1 a2 a3 a4 a5 => ( refTableF_l1 fuel k0 k a0 a1 a2 a3 a4 a5 )) (fun a6 a7 => k0 a6 a7))
theorem refTableF_l1_eq (fuel : Nat)  (K : Ex → St → Option Out) : ∀ (k w4 : Nat) (w5 : Int) (w7 : List Int) (w8 w6 : Int) (w9 : List Int), lpN qc9 (qc8 fuel) 8388620 [2, 3, 4, 9, 10, 11] k ⟨[(2, vN), (3, .sl 0 1 0 w4), (4, vU w5), (9, vW w7), (10, vI w8), (11, vI w6)], [(0, some ⟨79, vW w9, true⟩)], 1, none⟩ K = refTableF_l1 fuel  (fun y0 y1 => K (.exit 0) ⟨[(2, vN), (3, .sl 0 1 0 y0)], [(0, some ⟨79, vW y1, true⟩)], 1, none⟩) k w4 w5 w7 w8 w6 w9
  | 0, _, _, _, _, _, _ => rfl
  | k + 1, w4, w5, w7, w8, w6, w9 => by
    unfold refTableF_l1
    exact (refTableF_s2_eq fuel k K w6 w8 w7 w9 w4 w5).trans (congr (congr (Eq.refl (refTableF_s2 (R := Out) w6 w8 w7 w9 w4 w5)) (funext fun a0 => funext fun a1 => funext fun a2 => funext fun a3 => funext fun a4 => funext fun a5 => refTableF_l1_eq fuel  K k a0 a1 a2 a3 a4 a5)) (rfl))
noncomputable def refTableF_s3 {R : Type} (x0 : List Int) (x1 : Nat) (c0 : List Int → Option R) : Option R :=
  c0 ((x0.drop 0).take x1)
theorem refTableF_s3_eq (fuel : Nat)  (x0 : List Int) (x1 : Nat) : (kont (qc8 fuel) (bodyOf Tryd.prog 173) [1, 1, 1, 0, 1, 0] 4 (endK Tryd.prog 0 0 173)) (.exit 0) ⟨[(2, vN), (3, .sl 0 1 0 x1)], [(0, some ⟨79, vW x0, true⟩)], 1, none⟩ = refTableF_s3 x0 x1 (fun a0 => some (vW a0, [])) := by kernel_rfl
noncomputable def refTableF_s1 {R : Type} (z : Int) (c0 : Nat → Int → List Int → Int → Int → List Int → Option R) : Option R :=
  grd (decide (1 ≤ z) && decide (z ≤ 64)) <|
  c0 0 0 (weightsS z) (((weightsS z).length : Nat) : Int) 0 ([])
theorem refTableF_s1_eq (fuel : Nat)  (z : Int) : callN Tryd.prog mode8 T_refWeights fuel 173 [vI z] [] = refTableF_s1 z (fun a0 a1 a2 a3 a4 a5 => lpN qc9 (qc8 fuel) 8388620 [2, 3, 4, 9, 10, 11] fuel ⟨[(2, vN), (3, .sl 0 1 0 a0), (4, vU a1), (9, vW a2), (10, vI a3), (11, vI a4)], [(0, some ⟨79, vW a5, true⟩)], 1, none⟩ (kont (qc8 fuel) (bodyOf Tryd.prog 173) [1, 1, 1, 0, 1, 0] 4 (endK Tryd.prog 0 0 173))) := by kernel_rfl
noncomputable def refTableF {R : Type} (fuel : Nat) (z : Int) (r0 : List Int → Option R) : Option R :=
  (refTableF_s1 z (fun a0 a1 a2 a3 a4 a5 => (refTableF_l1 fuel (fun x0 x1 => (refTableF_s3 x1 x0 (fun a6 => r0 a6))) fuel a0 a1 a2 a3 a4 a5)))
theorem refTableF_eq (fuel : Nat) (z : Int) : callN Tryd.prog mode8 T_refWeights fuel 173 [.s (.int .i64 z)] [] = refTableF fuel z (fun z0 => some (.li .u64 z0, [])) := by
  unfold refTableF
  exact (refTableF_s1_eq fuel  z).trans (congr (Eq.refl (refTableF_s1 (R := Out) z)) (funext fun a0 => funext fun a1 => funext fun a2 => funext fun a3 => funext fun a4 => funext fun a5 => (refTableF_l1_eq fuel  (kont (qc8 fuel) (bodyOf Tryd.prog 173) [1, 1, 1, 0, 1, 0] 4 (endK Tryd.prog 0 0 173)) fuel a0 a1 a2 a3 a4 a5).trans (congrFun (congrFun (congrFun (congrFun (congrFun (congrFun (congrFun (congr (Eq.refl (refTableF_l1 (R := Out) fuel )) (funext fun x0 => funext fun x1 => (refTableF_s3_eq fuel  x1 x0))) fuel) a0) a1) a2) a3) a4) a5)))
theorem refTable_loop {R : Type} (fuel : Nat) (z : Int) (hk : 1 ≤ z) (hk2 : z ≤ 64) (k0 : Nat → List Int → Option R) : ∀ (k j : Nat), (j : Int) ≤ z → z < (j : Int) + k → refTableF_l1 fuel k0 k j (sumN z j) (weightsN z z.toNat) z (j : Int) (tabN z j) = k0 z.toNat (tabN z z.toNat)
  | 0, j, h1, h2 => by omega
  | k + 1, j, h1, h2 => by
    unfold refTableF_l1 refTableF_s2
    rw [br_if]
    by_cases hc : (j : Int) < z
    · have ih := refTable_loop fuel z hk hk2 k0 k (j + 1) (by omega) (by omega)
      rw [tab_succ] at ih
      have hs := sum_range hk hk2 (j + 1) (by omega)
      have hg : ix (weightsN z z.toNat) (j : Int) = some (weightS z ((j : Int) + 1)) := by
        rw [ix_nat]
        unfold weightsN
        rw [List.getElem?_map, List.getElem?_range (by omega)]
        rfl
      rw [if_pos (by simpa using hc), bnd_of hg, grd_of (by rw [tab_len]; exact beq_self _), grd_of (okN_of (by omega) (by omega)), wrap_i64 (by omega) (by omega)]
      rw [show sumN z (j + 1) = sumN z j + weightS z ((j : Int) + 1) from rfl] at ih hs
      rw [wrap_u64 (by omega) (by omega), List.length_append, tab_len, show (j : Int) + 1 = ((j + 1 : Nat) : Int) by omega]
      rw [show (j : Int) + 1 = ((j + 1 : Nat) : Int) by omega] at ih
      exact ih
    · rw [if_neg (by simpa using hc), show z.toNat = j by omega]
theorem refTable_fact (z : Int) (hg : (decide (1 ≤ z) && decide (z ≤ 64)) = true) : Fact Tryd.prog gTab 173 [.s (.int .i64 z)] [] (.li .u64 (tabS z), []) := by
  have hg' := hg
  simp only [Bool.and_eq_true, decide_eq_true_eq] at hg'
  refine callN_fact hN hM T_refWeights_ok (n := 100) (mode := mode8) ?_
  rw [refTableF_eq]
  unfold refTableF refTableF_s1
  have h := fun k0 => refTable_loop (R := Out) 100 z hg'.1 hg'.2 k0 100 0 (by omega) (by omega)
  rw [show tabN z 0 = [] from rfl, show sumN z 0 = 0 from rfl, Int.natCast_zero] at h
  have hw : weightsS z = weightsN z z.toNat := by rw [weightsS_eq]; rfl
  rw [grd_of hg, hw, ws_len, show ((z.toNat : Nat) : Int) = z by omega]
  dsimp only
  rw [h]
  unfold refTableF_s3
  rw [List.drop_zero, List.take_of_length_le (by rw [tab_len]; omega), tabS_eq]
  rfl
noncomputable def refTable_ent : List V → List Blk → Option (Bool × Out)
  | [.s (.int .i64 z)], [] => some ((decide (1 ≤ z) && decide (z ≤ 64)), (.li .u64 (tabS z), []))
  | _, _ => none
theorem refTable_ok : ∀ args bs out, refTable_ent args bs = some (true, out) → Fact Tryd.prog gTab 173 args bs out := by
  intro args bs out h
  unfold refTable_ent at h
  split at h
  · rename_i z
    simp only [Option.some.injEq, Prod.mk.injEq] at h
    obtain ⟨hg, rfl⟩ := h
    exact refTable_fact z hg
  · cases h
noncomputable def T_refTable : Tbl := Tbl.cons 173 refTable_ent T_refWeights
theorem T_refTable_ok : CallOk Tryd.prog gTab T_refTable := cons_ok T_refWeights_ok refTable_ok
/-! What is picked of a table. -/
def risesI (l : List Int) : Bool := decide (l.Pairwise (· < ·)) && l.all fun x => decide (0 < x) && decide (x < 18446744073709551616)
noncomputable def risesS : List Int → Bool := Classical.choose (⟨risesI, rfl⟩ : ∃ f, f = risesI)
theorem risesS_eq : risesS = risesI := Classical.choose_spec (⟨risesI, rfl⟩ : ∃ f, f = risesI)
theorem rises_iff {l : List Int} : risesS l = true ↔ l.Pairwise (· < ·) ∧ ∀ x ∈ l, 0 < x ∧ x < 18446744073709551616 := by rw [risesS_eq]; unfold risesI; simp
def aboveI (l : List Int) (x i : Int) : Bool := decide (x < l.getD i.toNat 0)
noncomputable def aboveS : List Int → Int → Int → Bool := Classical.choose (⟨aboveI, rfl⟩ : ∃ f, f = aboveI)
theorem aboveS_eq : aboveS = aboveI := Classical.choose_spec (⟨aboveI, rfl⟩ : ∃ f, f = aboveI)
/-- The place of the first one that is above x; the length, if none is. -/
def placeN : List Int → Int → Nat
  | [], _ => 0
  | y :: l, x => if x < y then 0 else placeN l x + 1
noncomputable def placeI (l : List Int) (x : Int) : Int := (placeN l x : Nat)
noncomputable def placeS : List Int → Int → Int := Classical.choose (⟨placeI, rfl⟩ : ∃ f, f = placeI)
theorem placeS_eq : placeS = placeI := Classical.choose_spec (⟨placeI, rfl⟩ : ∃ f, f = placeI)
theorem placeN_le : ∀ (l : List Int) (x : Int), placeN l x ≤ l.length
  | [], x => by simp [placeN]
  | y :: l, x => by
    have := placeN_le l x
    rw [placeN, List.length_cons]; split <;> omega
/-- All below the place are not above x. -/
theorem placeN_below : ∀ (l : List Int) (x : Int) (i : Nat), i < placeN l x → l.getD i 0 ≤ x
  | [], x, i, h => by simp [placeN] at h
  | y :: l, x, i, h => by
    rw [placeN] at h
    split at h
    · omega
    · cases i with
      | zero => show y ≤ x; omega
      | succ i => exact placeN_below l x i (by omega)
/-- The one at the place is above x. -/
theorem placeN_at : ∀ (l : List Int) (x : Int), placeN l x < l.length → x < l.getD (placeN l x) 0
  | [], x, h => by simp at h
  | y :: l, x, h => by
    rw [placeN] at h ⊢
    split
    · rename_i hc; exact hc
    · rename_i hc
      rw [if_neg hc] at h
      exact placeN_at l x (by simpa using h)
theorem getD_rise {l : List Int} (h : l.Pairwise (· < ·)) {i j : Nat} (hij : i < j) (hj : j < l.length) : l.getD i 0 < l.getD j 0 := by
  rw [List.getD_eq_getElem?_getD, List.getD_eq_getElem?_getD, List.getElem?_eq_getElem hj, List.getElem?_eq_getElem (by omega)]
  exact List.pairwise_iff_getElem.1 h i j (by omega) hj hij
/-- So the place is known by its neighbours. -/
theorem placeN_of {l : List Int} (hr : l.Pairwise (· < ·)) {x : Int} {i : Nat} (hi : i ≤ l.length) (h1 : ∀ k, k < i → l.getD k 0 ≤ x) (h2 : i < l.length → x < l.getD i 0) : placeN l x = i := by
  have a := placeN_le l x
  rcases Nat.lt_trichotomy (placeN l x) i with h | h | h
  · have := placeN_at l x (by omega)
    have := h1 _ h
    omega
  · exact h
  · have := placeN_below l x i h
    have := h2 (by omega)
    omega
noncomputable def chosenI (l : List Int) (n : Int) : Int := (placeN l (n % l.getD (l.length - 1) 0) : Nat) + 1
noncomputable def chosenS : List Int → Int → Int := Classical.choose (⟨chosenI, rfl⟩ : ∃ f, f = chosenI)
theorem chosenS_eq : chosenS = chosenI := Classical.choose_spec (⟨chosenI, rfl⟩ : ∃ f, f = chosenI)
theorem getD_pk {l : List Int} {i : Nat} (h : i < l.length) : l[i]? = some (l.getD i 0) := by rw [List.getD_eq_getElem?_getD, List.getElem?_eq_getElem h]; rfl
theorem getD_mem {l : List Int} {i : Nat} (h : i < l.length) : l.getD i 0 ∈ l := by rw [List.getD_eq_getElem?_getD, List.getElem?_eq_getElem h]; exact List.getElem_mem h
def mode9 : FuncId → Nat := fun f => bif Nat.beq f 213 then 2 else bif Nat.beq f 214 then 2 else 0
/-! downpour/degree.Pick$1 -/
noncomputable def pick1F_s1 {R : Type} (l : List Int) (i x : Int) (c0 : Bool → List Int → Int → Option R) : Option R :=
  bnd (ix l i) fun e1 =>
  c0 (decide (e1 > x)) l x
theorem pick1F_s1_eq (fuel : Nat)  (l : List Int) (i x : Int) : callN Tryd.prog mode9 T_refTable fuel 214 [vI i, .ptr 0 1 0 0, .ptr 1 1 0 0] [⟨42, .agg [vW l], true⟩, ⟨79, .agg [vU x], true⟩] = pick1F_s1 l i x (fun a2 a3 a4 => some (vB a2, [some ⟨42, .agg [vW a3], true⟩, some ⟨79, .agg [vU a4], true⟩])) := by kernel_rfl
noncomputable def pick1F {R : Type} (fuel : Nat) (i : Int) (l : List Int) (x : Int) (r0 : Bool → List Int → Int → Option R) : Option R :=
  (pick1F_s1 l i x (fun a2 a3 a4 => r0 a2 a3 a4))
theorem pick1F_eq (fuel : Nat) (i : Int) (l : List Int) (x : Int) : callN Tryd.prog mode9 T_refTable fuel 214 [.s (.int .i64 i), .ptr 0 1 0 0, .ptr 1 1 0 0] [⟨42, .agg [.li .u64 l], true⟩, ⟨79, .agg [.s (.int .u64 x)], true⟩] = pick1F fuel i l x (fun z0 z1 z2 => some (.s (.bool z0), [some ⟨42, .agg [.li .u64 z1], true⟩, some ⟨79, .agg [.s (.int .u64 z2)], true⟩])) := by
  unfold pick1F
  exact (pick1F_s1_eq fuel  l i x)
theorem pick1_fact (i : Int) (l : List Int) (x : Int) (hg : (decide (0 ≤ i) && decide (i < (l.length : Int))) = true) : Fact Tryd.prog gTab 214 [.s (.int .i64 i), .ptr 0 1 0 0, .ptr 1 1 0 0] [⟨42, .agg [.li .u64 l], true⟩, ⟨79, .agg [.s (.int .u64 x)], true⟩] (.s (.bool (aboveS l x i)), [some ⟨42, .agg [.li .u64 l], true⟩, some ⟨79, .agg [.s (.int .u64 x)], true⟩]) := by
  simp only [Bool.and_eq_true, decide_eq_true_eq] at hg
  refine callN_fact hN hM T_refTable_ok (n := 0) (mode := mode9) ?_
  rw [pick1F_eq]
  unfold pick1F pick1F_s1
  obtain ⟨j, rfl⟩ : ∃ j : Nat, i = (j : Int) := ⟨i.toNat, by omega⟩
  have hj : j < l.length := by omega
  rw [bnd_of ((ix_nat l j).trans (List.getElem?_eq_getElem hj)), aboveS_eq]
  unfold aboveI
  rw [Int.toNat_natCast, List.getD_eq_getElem?_getD, List.getElem?_eq_getElem hj]
  rfl
noncomputable def pick1_ent : List V → List Blk → Option (Bool × Out)
  | [.s (.int .i64 i), .ptr 0 1 0 0, .ptr 1 1 0 0], [⟨42, .agg [.li .u64 l], true⟩, ⟨79, .agg [.s (.int .u64 x)], true⟩] => some ((decide (0 ≤ i) && decide (i < (l.length : Int))), (.s (.bool (aboveS l x i)), [some ⟨42, .agg [.li .u64 l], true⟩, some ⟨79, .agg [.s (.int .u64 x)], true⟩]))
  | _, _ => none
theorem pick1_ok : ∀ args bs out, pick1_ent args bs = some (true, out) → Fact Tryd.prog gTab 214 args bs out := by
  intro args bs out h
  unfold pick1_ent at h
  split at h
  · rename_i i l x
    simp only [Option.some.injEq, Prod.mk.injEq] at h
    obtain ⟨hg, rfl⟩ := h
    exact pick1_fact i l x hg
  · cases h
noncomputable def T_pick1 : Tbl := Tbl.cons 214 pick1_ent T_refTable
theorem T_pick1_ok : CallOk Tryd.prog gTab T_pick1 := cons_ok T_refTable_ok pick1_ok
/-! sort.Search -/
noncomputable abbrev qc10 (l : List Int) (x : Int) : List (Nat × Option Blk) := [(0, some ⟨42, .agg [vW l], true⟩), (1, some ⟨79, .agg [vU x], true⟩)]
noncomputable abbrev qc11 : Nat × V := (1, .fn (.func 214) [] [.ptr 0 1 0 0, .ptr 1 1 0 0])
noncomputable abbrev qc12 (fuel : Nat) : Ctx Out := (fnX Tryd.prog mode9 T_pick1 fuel 26 2)
noncomputable abbrev qc13 : Code := (sub (bodyOf Tryd.prog 213) [1, 1, 0, 0, 0])
noncomputable def searchF_s2 {R : Type} (w2 w3 : Int) (l : List Int) (x : Int) (c0 c1 : Int → Int → Option R) (c2 : Int → Option R) : Option R :=
  br (decide (w2 < w3))
    (bnd (shfI .shr .u64 (IntKind.u64.wrap (IntKind.i64.wrap (w2 + w3))) 1) fun v6 =>
    grd (decide (0 ≤ (IntKind.i64.wrap v6)) && decide ((IntKind.i64.wrap v6) < (l.length : Int))) <|
    br (!(aboveS l x (IntKind.i64.wrap v6)))
      (c0 (IntKind.i64.wrap ((IntKind.i64.wrap v6) + 1)) w3)
      (c1 w2 (IntKind.i64.wrap v6)))
    (c2 w2)
theorem searchF_s2_eq (fuel k : Nat) (K : Ex → St → Option Out) (w2 w3 : Int) (l : List Int) (x : Int) : lpN qc13 (qc12 fuel) 33554480 [1, 4, 5, 6] (k + 1) ⟨[qc11, (4, vI 0), (5, vI w2), (6, vI w3)], (qc10 l x), 2, none⟩ K = searchF_s2 w2 w3 l x (fun a7 a8 => lpN qc13 (qc12 fuel) 33554480 [1, 4, 5, 6] k ⟨[qc11, (4, vI 0), (5, vI a7), (6, vI a8)], (qc10 l x), 2, none⟩ K) (fun a9 a0 => lpN qc13 (qc12 fuel) 33554480 [1, 4, 5, 6] k ⟨[qc11, (4, vI 0), (5, vI a9), (6, vI a0)], (qc10 l x), 2, none⟩ K) (fun a1 => K (.exit 0) ⟨[(4, vI 0), (5, vI a1)], (qc10 l x), 2, none⟩) := by kernel_rfl
noncomputable def searchF_l1 {R : Type} (fuel : Nat) (l : List Int) (x : Int) (k0 : Int → Option R) : Nat → Int → Int → Option R
  | 0, _, _ => none
  | k + 1, w2, w3 =>
    (searchF_s2 w2 w3 l x (fun a7 a8 => ( searchF_l1 fuel l x k0 k a7 a8 )) (fun a9 a0 => ( searchF_l1 fuel l x k0 k a9 a0 )) (fun a1 => k0 a1))
theorem searchF_l1_eq (fuel : Nat) (l : List Int) (x : Int) (K : Ex → St → Option Out) : ∀ (k : Nat) (w2 w3 : Int), lpN qc13 (qc12 fuel) 33554480 [1, 4, 5, 6] k ⟨[qc11, (4, vI 0), (5, vI w2), (6, vI w3)], (qc10 l x), 2, none⟩ K = searchF_l1 fuel l x (fun y5 => K (.exit 0) ⟨[(4, vI 0), (5, vI y5)], (qc10 l x), 2, none⟩) k w2 w3
  | 0, _, _ => rfl
  | k + 1, w2, w3 => by
    unfold searchF_l1
    exact (searchF_s2_eq fuel k K w2 w3 l x).trans (congr (congr (congr (Eq.refl (searchF_s2 (R := Out) w2 w3 l x)) (funext fun a7 => funext fun a8 => searchF_l1_eq fuel l x K k a7 a8)) (funext fun a9 => funext fun a0 => searchF_l1_eq fuel l x K k a9 a0)) (rfl))
noncomputable def searchF_s3 {R : Type} (x0 : Int) (l : List Int) (x : Int) (c0 : Int → List Int → Int → Option R) : Option R :=
  c0 x0 l x
theorem searchF_s3_eq (fuel : Nat)  (x0 : Int) (l : List Int) (x : Int) : (kont (qc12 fuel) (bodyOf Tryd.prog 213) [1, 1, 0, 0] 16 (endK Tryd.prog 2 2 213)) (.exit 0) ⟨[(4, vI 0), (5, vI x0)], (qc10 l x), 2, none⟩ = searchF_s3 x0 l x (fun a0 a1 a2 => some (vI a0, [some ⟨42, .agg [vW a1], true⟩, some ⟨79, .agg [vU a2], true⟩])) := by kernel_rfl
noncomputable def searchF_s1 {R : Type} (n : Int) (l : List Int) (x : Int) (c0 : Int → Int → Option R) : Option R :=
  c0 0 n
theorem searchF_s1_eq (fuel : Nat)  (n : Int) (l : List Int) (x : Int) : callN Tryd.prog mode9 T_pick1 fuel 213 [vI n, .fn (.func 214) [] [.ptr 0 1 0 0, .ptr 1 1 0 0]] [⟨42, .agg [vW l], true⟩, ⟨79, .agg [vU x], true⟩] = searchF_s1 n l x (fun a0 a1 => lpN qc13 (qc12 fuel) 33554480 [1, 4, 5, 6] fuel ⟨[qc11, (4, vI 0), (5, vI a0), (6, vI a1)], (qc10 l x), 2, none⟩ (kont (qc12 fuel) (bodyOf Tryd.prog 213) [1, 1, 0, 0] 16 (endK Tryd.prog 2 2 213))) := by kernel_rfl
noncomputable def searchF {R : Type} (fuel : Nat) (n : Int) (l : List Int) (x : Int) (r0 : Int → List Int → Int → Option R) : Option R :=
  (searchF_s1 n l x (fun a0 a1 => (searchF_l1 fuel l x (fun x0 => (searchF_s3 x0 l x (fun a2 a3 a4 => r0 a2 a3 a4))) fuel a0 a1)))
theorem searchF_eq (fuel : Nat) (n : Int) (l : List Int) (x : Int) : callN Tryd.prog mode9 T_pick1 fuel 213 [.s (.int .i64 n), .fn (.func 214) [] [.ptr 0 1 0 0, .ptr 1 1 0 0]] [⟨42, .agg [.li .u64 l], true⟩, ⟨79, .agg [.s (.int .u64 x)], true⟩] = searchF fuel n l x (fun z0 z1 z2 => some (.s (.int .i64 z0), [some ⟨42, .agg [.li .u64 z1], true⟩, some ⟨79, .agg [.s (.int .u64 z2)], true⟩])) := by
  unfold searchF
  exact (searchF_s1_eq fuel  n l x).trans (congr (Eq.refl (searchF_s1 (R := Out) n l x)) (funext fun a0 => funext fun a1 => (searchF_l1_eq fuel l x (kont (qc12 fuel) (bodyOf Tryd.prog 213) [1, 1, 0, 0] 16 (endK Tryd.prog 2 2 213)) fuel a0 a1).trans (congrFun (congrFun (congrFun (congr (Eq.refl (searchF_l1 (R := Out) fuel l x)) (funext fun x0 => (searchF_s3_eq fuel  x0 l x))) fuel) a0) a1)))
theorem search_loop {R : Type} (fuel : Nat) (l : List Int) (x : Int) (hr : l.Pairwise (· < ·)) (hl : l.length ≤ 64) (k0 : Int → Option R) : ∀ (k i j : Nat), i ≤ j → j ≤ l.length → j < i + k → (∀ t, t < i → l.getD t 0 ≤ x) → (j < l.length → x < l.getD j 0) → searchF_l1 fuel l x k0 k (i : Int) (j : Int) = k0 (placeS l x)
  | 0, i, j, h1, h2, h3, _, _ => by omega
  | k + 1, i, j, h1, h2, h3, h4, h5 => by
    unfold searchF_l1 searchF_s2
    rw [br_if]
    by_cases hc : i < j
    · have e1 : shfI .shr .u64 (IntKind.u64.wrap (IntKind.i64.wrap ((i : Int) + (j : Int)))) 1 = some (((i + j) / 2 : Nat) : Int) := by
        rw [wrap_i64 (by omega) (by omega), wrap_u64 (by omega) (by omega), shr_u64 (c := 2) (by decide) (by decide)]
        congr 1
      have e2 : IntKind.i64.wrap (((i + j) / 2 : Nat) : Int) = (((i + j) / 2 : Nat) : Int) := wrap_i64 (by omega) (by omega)
      rw [if_pos (by simpa using hc), bnd_of e1, e2, grd_of (by simp; omega), br_if, aboveS_eq]
      unfold aboveI
      rw [Int.toNat_natCast]
      by_cases hb : x < l.getD ((i + j) / 2) 0
      · rw [if_neg (by simpa using hb)]
        exact search_loop fuel l x hr hl k0 k i ((i + j) / 2) (by omega) (by omega) (by omega) h4 (fun _ => hb)
      · rw [if_pos (by simpa using hb), wrap_i64 (by omega) (by omega), show (((i + j) / 2 : Nat) : Int) + 1 = (((i + j) / 2 + 1 : Nat) : Int) by omega]
        refine search_loop fuel l x hr hl k0 k ((i + j) / 2 + 1) j (by omega) h2 (by omega) (fun t ht => ?_) h5
        rcases Nat.lt_or_eq_of_le (Nat.le_of_lt_succ ht) with h | h
        · have := getD_rise hr h (by omega)
          omega
        · rw [h]; omega
    · rw [if_neg (by simpa using hc), placeS_eq]
      unfold placeI
      have e : i = j := by omega
      subst e
      rw [placeN_of hr h2 h4 h5]
theorem search_fact (n : Int) (l : List Int) (x : Int) (hg : ((decide (1 ≤ l.length) && decide (l.length ≤ 64)) && risesS l && decide (n = (l.length : Int))) = true) : Fact Tryd.prog gTab 213 [.s (.int .i64 n), .fn (.func 214) [] [.ptr 0 1 0 0, .ptr 1 1 0 0]] [⟨42, .agg [.li .u64 l], true⟩, ⟨79, .agg [.s (.int .u64 x)], true⟩] (.s (.int .i64 (placeS l x)), [some ⟨42, .agg [.li .u64 l], true⟩, some ⟨79, .agg [.s (.int .u64 x)], true⟩]) := by
  simp only [Bool.and_eq_true, decide_eq_true_eq] at hg
  obtain ⟨⟨⟨h1, h2⟩, h3⟩, rfl⟩ := hg
  refine callN_fact hN hM T_pick1_ok (n := 100) (mode := mode9) ?_
  rw [searchF_eq]
  unfold searchF searchF_s1
  have h := fun k0 => search_loop (R := Out) 100 l x (rises_iff.1 h3).1 h2 k0 100 0 l.length (by omega) (by omega) (by omega) (fun t ht => by omega) (fun h => by omega)
  rw [Int.natCast_zero] at h
  dsimp only
  rw [h]
  rfl
noncomputable def search_ent : List V → List Blk → Option (Bool × Out)
  | [.s (.int .i64 n), .fn (.func 214) [] [.ptr 0 1 0 0, .ptr 1 1 0 0]], [⟨42, .agg [.li .u64 l], true⟩, ⟨79, .agg [.s (.int .u64 x)], true⟩] => some (((decide (1 ≤ l.length) && decide (l.length ≤ 64)) && risesS l && decide (n = (l.length : Int))), (.s (.int .i64 (placeS l x)), [some ⟨42, .agg [.li .u64 l], true⟩, some ⟨79, .agg [.s (.int .u64 x)], true⟩]))
  | _, _ => none
theorem search_ok : ∀ args bs out, search_ent args bs = some (true, out) → Fact Tryd.prog gTab 213 args bs out := by
  intro args bs out h
  unfold search_ent at h
  split at h
  · rename_i n l x
    simp only [Option.some.injEq, Prod.mk.injEq] at h
    obtain ⟨hg, rfl⟩ := h
    exact search_fact n l x hg
  · cases h
noncomputable def T_search : Tbl := Tbl.cons 213 search_ent T_pick1
theorem T_search_ok : CallOk Tryd.prog gTab T_search := cons_ok T_pick1_ok search_ok
/-! downpour/degree.Pick -/
noncomputable abbrev qc14 (l : List Int) (x : Int) : List (Nat × Option Blk) := [(0, some ⟨42, .agg [vW l], true⟩), (1, some ⟨79, .agg [vU x], true⟩)]
noncomputable abbrev qc15 (fuel : Nat) : Ctx Out := (fnX Tryd.prog mode9 T_search fuel 50 0)
noncomputable abbrev qc16 : Code := (sub (bodyOf Tryd.prog 190) [1, 1, 0, 1, 0, 0])
noncomputable def pickF_s2 {R : Type} (w0 w1 : Int) (w2 l : List Int) (x : Int) (c0 : Option R) (c1 : List Int → Int → Int → Option R) (c2 : Option R) : Option R :=
  br (decide (w0 < w1))
    (bnd (ix w2 w0) fun e0 =>
    bnd (ix l w0) fun e1 =>
    br (decide (e1 ≥ e0))
      (c0)
      (c1 w2 w1 (IntKind.i64.wrap (w0 + 1))))
    (c2)
theorem pickF_s2_eq (fuel k : Nat) (K : Ex → St → Option Out) (w0 w1 : Int) (w2 l : List Int) (x : Int) : lpN qc16 (qc15 fuel) 1125762467889212 [2, 3, 4, 5, 23, 24, 25] (k + 1) ⟨[(2, .ptr 0 1 0 0), (3, .ptr 1 1 0 0), (4, vI 0), (5, vI 0), (23, vW w2), (24, vI w1), (25, vI w0)], (qc14 l x), 2, none⟩ K = pickF_s2 w0 w1 w2 l x (K .ret ⟨[(2, .ptr 0 1 0 0), (3, .ptr 1 1 0 0), (4, vI 0), (5, vI 1)], (qc14 l x), 2, none⟩) (fun a0 a1 a2 => lpN qc16 (qc15 fuel) 1125762467889212 [2, 3, 4, 5, 23, 24, 25] k ⟨[(2, .ptr 0 1 0 0), (3, .ptr 1 1 0 0), (4, vI 0), (5, vI 0), (23, vW a0), (24, vI a1), (25, vI a2)], (qc14 l x), 2, none⟩ K) (K (.exit 0) ⟨[(2, .ptr 0 1 0 0), (3, .ptr 1 1 0 0), (4, vI 0), (5, vI 0)], (qc14 l x), 2, none⟩) := by kernel_rfl
noncomputable def pickF_l1 {R : Type} (fuel : Nat) (l : List Int) (x : Int) (k0 k1 : Option R) : Nat → List Int → Int → Int → Option R
  | 0, _, _, _ => none
  | k + 1, w0, w1, w2 =>
    (pickF_s2 w2 w1 w0 l x (k0) (fun a0 a1 a2 => ( pickF_l1 fuel l x k0 k1 k a0 a1 a2 )) (k1))
theorem pickF_l1_eq (fuel : Nat) (l : List Int) (x : Int) (K : Ex → St → Option Out) : ∀ (k : Nat) (w0 : List Int) (w1 w2 : Int), lpN qc16 (qc15 fuel) 1125762467889212 [2, 3, 4, 5, 23, 24, 25] k ⟨[(2, .ptr 0 1 0 0), (3, .ptr 1 1 0 0), (4, vI 0), (5, vI 0), (23, vW w0), (24, vI w1), (25, vI w2)], (qc14 l x), 2, none⟩ K = pickF_l1 fuel l x (K .ret ⟨[(2, .ptr 0 1 0 0), (3, .ptr 1 1 0 0), (4, vI 0), (5, vI 1)], (qc14 l x), 2, none⟩) (K (.exit 0) ⟨[(2, .ptr 0 1 0 0), (3, .ptr 1 1 0 0), (4, vI 0), (5, vI 0)], (qc14 l x), 2, none⟩) k w0 w1 w2
  | 0, _, _, _ => rfl
  | k + 1, w0, w1, w2 => by
    unfold pickF_l1
    exact (pickF_s2_eq fuel k K w2 w1 w0 l x).trans (congr (congr (congr (Eq.refl (pickF_s2 (R := Out) w2 w1 w0 l x)) (rfl)) (funext fun a0 => funext fun a1 => funext fun a2 => pickF_l1_eq fuel l x K k a0 a1 a2)) (rfl))
noncomputable def pickF_s3 {R : Type} (l : List Int) (x : Int) (c0 : Int → Int → Option R) : Option R :=
  c0 0 1
theorem pickF_s3_eq (fuel : Nat)  (l : List Int) (x : Int) : (kont (qc15 fuel) (bodyOf Tryd.prog 190) [1, 1, 0, 1, 0] 48 (endK Tryd.prog 0 0 190)) .ret ⟨[(2, .ptr 0 1 0 0), (3, .ptr 1 1 0 0), (4, vI 0), (5, vI 1)], (qc14 l x), 2, none⟩ = pickF_s3 l x (fun a0 a1 => some (.tup [vI a0, vI a1], [])) := by kernel_rfl
noncomputable def pickF_s4 {R : Type} (l : List Int) (x : Int) (c0 : Int → Int → Option R) : Option R :=
  bnd (ix l (IntKind.i64.wrap (((l.length : Nat) : Int) - 1))) fun e0 =>
  bnd (divI .rem .u64 x e0) fun v29 =>
  grd ((decide (1 ≤ l.length) && decide (l.length ≤ 64)) && risesS l && decide (((l.length : Nat) : Int) = (l.length : Int))) <|
  c0 (IntKind.i64.wrap (1 + (placeS l v29))) 0
theorem pickF_s4_eq (fuel : Nat)  (l : List Int) (x : Int) : (kont (qc15 fuel) (bodyOf Tryd.prog 190) [1, 1, 0, 1, 0] 48 (endK Tryd.prog 0 0 190)) (.exit 0) ⟨[(2, .ptr 0 1 0 0), (3, .ptr 1 1 0 0), (4, vI 0), (5, vI 0)], (qc14 l x), 2, none⟩ = pickF_s4 l x (fun a0 a1 => some (.tup [vI a0, vI a1], [])) := by kernel_rfl
noncomputable def pickF_s1 {R : Type} (l : List Int) (x : Int) (c0 : Int → Int → Option R) (c1 : List Int → Int → Int → Option R) : Option R :=
  br ((((l.length : Nat) : Int) : Int) == 0)
    (c0 0 1)
    (br (decide ((((l.length : Nat) : Int) : Int) > 64))
      (c0 0 1)
      (bnd (ix l 0) fun e5 =>
      br (e5 == 0)
        (c0 0 1)
        (bnd (upTo 1 l.length) fun j8 =>
        c1 ((l.drop j8).take (l.length - j8)) ((((l.drop j8).take (l.length - j8)).length : Nat) : Int) 0)))
theorem pickF_s1_eq (fuel : Nat)  (l : List Int) (x : Int) : callN Tryd.prog mode9 T_search fuel 190 [vW l, vU x] [] = pickF_s1 l x (fun a1 a2 => some (.tup [vI a1, vI a2], [])) (fun a0 a3 a4 => lpN qc16 (qc15 fuel) 1125762467889212 [2, 3, 4, 5, 23, 24, 25] fuel ⟨[(2, .ptr 0 1 0 0), (3, .ptr 1 1 0 0), (4, vI 0), (5, vI 0), (23, vW a0), (24, vI a3), (25, vI a4)], (qc14 l x), 2, none⟩ (kont (qc15 fuel) (bodyOf Tryd.prog 190) [1, 1, 0, 1, 0] 48 (endK Tryd.prog 0 0 190))) := by kernel_rfl
noncomputable def pickF {R : Type} (fuel : Nat) (l : List Int) (x : Int) (r0 : Int → Int → Option R) : Option R :=
  (pickF_s1 l x (fun a1 a2 => r0 a1 a2) (fun a0 a3 a4 => (pickF_l1 fuel l x ((pickF_s3 l x (fun a5 a6 => r0 a5 a6))) ((pickF_s4 l x (fun a7 a8 => r0 a7 a8))) fuel a0 a3 a4)))
theorem pickF_eq (fuel : Nat) (l : List Int) (x : Int) : callN Tryd.prog mode9 T_search fuel 190 [.li .u64 l, .s (.int .u64 x)] [] = pickF fuel l x (fun z0 z1 => some (.tup [.s (.int .i64 z0), .s (.int .i64 z1)], [])) := by
  unfold pickF
  exact (pickF_s1_eq fuel  l x).trans (congr (congr (Eq.refl (pickF_s1 (R := Out) l x)) (rfl)) (funext fun a0 => funext fun a1 => funext fun a2 => (pickF_l1_eq fuel l x (kont (qc15 fuel) (bodyOf Tryd.prog 190) [1, 1, 0, 1, 0] 48 (endK Tryd.prog 0 0 190)) fuel a0 a1 a2).trans (congrFun (congrFun (congrFun (congrFun (congr (congr (Eq.refl (pickF_l1 (R := Out) fuel l x)) ((pickF_s3_eq fuel  l x))) ((pickF_s4_eq fuel  l x))) fuel) a0) a1) a2)))
theorem pick_loop {R : Type} (fuel : Nat) (l : List Int) (x : Int) (hr : l.Pairwise (· < ·)) (hl : l.length ≤ 64) (k0 k1 : Option R) : ∀ (k j : Nat), j ≤ (l.drop 1).length → (l.drop 1).length < j + k → pickF_l1 fuel l x k0 k1 k (l.drop 1) ((l.drop 1).length : Int) (j : Int) = k1
  | 0, j, h1, h2 => by omega
  | k + 1, j, h1, h2 => by
    have hd : (l.drop 1).length = l.length - 1 := List.length_drop
    unfold pickF_l1 pickF_s2
    rw [br_if]
    by_cases hc : j < (l.drop 1).length
    · have g1 : ix (l.drop 1) (j : Int) = some (l.getD (j + 1) 0) := by rw [ix_nat, List.getElem?_drop, Nat.add_comm 1 j]; exact getD_pk (by omega)
      have g2 : ix l (j : Int) = some (l.getD j 0) := by rw [ix_nat]; exact getD_pk (by omega)
      have := getD_rise hr (show j < j + 1 by omega) (by omega)
      rw [if_pos (by simpa using hc), bnd_of g1, bnd_of g2, br_if, if_neg (by simpa using this), wrap_i64 (by omega) (by omega), show (j : Int) + 1 = ((j + 1 : Nat) : Int) by omega]
      exact pick_loop fuel l x hr hl k0 k1 k (j + 1) (by omega) (by omega)
    · rw [if_neg (by simpa using hc)]
theorem pick_fact (l : List Int) (x : Int) (hg : ((decide (1 ≤ l.length) && decide (l.length ≤ 64)) && risesS l && (decide (0 ≤ x) && decide (x < 18446744073709551616))) = true) : Fact Tryd.prog gTab 190 [.li .u64 l, .s (.int .u64 x)] [] (.tup [.s (.int .i64 (chosenS l x)), .s (.int .i64 0)], []) := by
  have hg' := hg
  simp only [Bool.and_eq_true, decide_eq_true_eq] at hg'
  obtain ⟨⟨⟨h1, h2⟩, h3⟩, h4, h5⟩ := hg'
  obtain ⟨hr, hp⟩ := rises_iff.1 h3
  refine callN_fact hN hM T_search_ok (n := 100) (mode := mode9) ?_
  rw [pickF_eq]
  unfold pickF pickF_s1
  have p0 := hp _ (getD_mem (l := l) (i := 0) (by omega))
  have pl := hp _ (getD_mem (l := l) (i := l.length - 1) (by omega))
  have g0 : ix l 0 = some (l.getD 0 0) := (ix_nat l 0).trans (getD_pk (by omega))
  have gl : ix l (IntKind.i64.wrap (((l.length : Nat) : Int) - 1)) = some (l.getD (l.length - 1) 0) := by
    rw [wrap_i64 (by omega) (by omega), show ((l.length : Nat) : Int) - 1 = ((l.length - 1 : Nat) : Int) by omega, ix_nat]
    exact getD_pk (by omega)
  have hd : (l.drop 1).length = l.length - 1 := List.length_drop
  rw [br_if, if_neg (by simp only [beq_iff_eq]; omega), br_if, if_neg (by simp only [decide_eq_true_eq]; omega), bnd_of g0, br_if, if_neg (by simp only [beq_iff_eq]; omega), bnd_of (show upTo 1 l.length = some 1 from upTo_of (by decide) (by omega))]
  rw [List.take_of_length_le (by omega)]
  dsimp only
  have h := fun k0 k1 => pick_loop (R := Out) 100 l x hr h2 k0 k1 100 0 (by omega) (by omega)
  rw [Int.natCast_zero] at h
  rw [h]
  unfold pickF_s4
  have hple := placeN_le l (x % l.getD (l.length - 1) 0)
  rw [bnd_of gl, bnd_of (rem_pos h4 pl.1), grd_of (by simp [h3]; omega), placeS_eq, chosenS_eq]
  unfold placeI chosenI
  rw [wrap_i64 (by omega) (by omega), Int.add_comm]
noncomputable def pick_ent : List V → List Blk → Option (Bool × Out)
  | [w0, .s (.int .u64 x)], [] => (asSl (.int .u64) w0).bind fun l => some (((decide (1 ≤ l.length) && decide (l.length ≤ 64)) && risesS l && (decide (0 ≤ x) && decide (x < 18446744073709551616))), (.tup [.s (.int .i64 (chosenS l x)), .s (.int .i64 0)], []))
  | _, _ => none
theorem pick_ok : ∀ args bs out, pick_ent args bs = some (true, out) → Fact Tryd.prog gTab 190 args bs out := by
  intro args bs out h
  unfold pick_ent at h
  split at h
  · rename_i w0 x
    obtain ⟨l, h_l, h⟩ := Option.bind_eq_some_iff.1 h
    simp only [Option.some.injEq, Prod.mk.injEq] at h
    obtain ⟨hg, rfl⟩ := h
    exact (pick_fact l x hg).args (fun _ _ _ => fun _ h => RVs_two (fun _ h => RV_li h_l h) (fun _ h => h) h)
  · cases h
noncomputable def T_pick : Tbl := Tbl.cons 190 pick_ent T_search
theorem T_pick_ok : CallOk Tryd.prog gTab T_pick := cons_ok T_search_ok pick_ok
def mode10 : FuncId → Nat := fun f => 0
/-! downpour/downpourref07.Pick -/
noncomputable abbrev qc17 (fuel : Nat) : Ctx Out := (fnX Tryd.prog mode10 T_pick fuel 28 0)
noncomputable def refPickF_s2 {R : Type} (w5 w6 : Int) (l : List Int) (v2 : Int) (c0 : Int → Option R) (c1 : Int → Int → Option R) (c2 : Option R) : Option R :=
  br (decide (w5 < w6))
    (bnd (ix l w5) fun e9 =>
    br (decide (e9 > v2))
      (c0 (IntKind.i64.wrap (w5 + 1)))
      (c1 w6 (IntKind.i64.wrap (w5 + 1))))
    (c2)
theorem refPickF_s2_eq (fuel k : Nat) (K : Ex → St → Option Out) (w5 w6 : Int) (l : List Int) (v2 : Int) : lpN (sub (bodyOf Tryd.prog 172) [1, 1, 0, 1, 0, 0]) (qc17 fuel) 16 [1, 4, 15, 16, 17] (k + 1) ⟨[(1, vU v2), (4, vI 0), (15, vW l), (16, vI w6), (17, vI w5)], [], 0, none⟩ K = refPickF_s2 w5 w6 l v2 (fun a0 => K .ret ⟨[(4, vI a0)], [], 0, none⟩) (fun a1 a2 => lpN (sub (bodyOf Tryd.prog 172) [1, 1, 0, 1, 0, 0]) (qc17 fuel) 16 [1, 4, 15, 16, 17] k ⟨[(1, vU v2), (4, vI 0), (15, vW l), (16, vI a1), (17, vI a2)], [], 0, none⟩ K) (K (.exit 0) ⟨[(4, vI 0)], [], 0, none⟩) := by kernel_rfl
noncomputable def refPickF_l1 {R : Type} (fuel : Nat) (v2 : Int) (l : List Int) (k0 : Int → Option R) (k1 : Option R) : Nat → Int → Int → Option R
  | 0, _, _ => none
  | k + 1, w6, w5 =>
    (refPickF_s2 w5 w6 l v2 (fun a0 => k0 a0) (fun a1 a2 => ( refPickF_l1 fuel v2 l k0 k1 k a1 a2 )) (k1))
theorem refPickF_l1_eq (fuel : Nat) (v2 : Int) (l : List Int) (K : Ex → St → Option Out) : ∀ (k : Nat) (w6 w5 : Int), lpN (sub (bodyOf Tryd.prog 172) [1, 1, 0, 1, 0, 0]) (qc17 fuel) 16 [1, 4, 15, 16, 17] k ⟨[(1, vU v2), (4, vI 0), (15, vW l), (16, vI w6), (17, vI w5)], [], 0, none⟩ K = refPickF_l1 fuel v2 l (fun y8 => K .ret ⟨[(4, vI y8)], [], 0, none⟩) (K (.exit 0) ⟨[(4, vI 0)], [], 0, none⟩) k w6 w5
  | 0, _, _ => rfl
  | k + 1, w6, w5 => by
    unfold refPickF_l1
    exact (refPickF_s2_eq fuel k K w5 w6 l v2).trans (congr (congr (congr (Eq.refl (refPickF_s2 (R := Out) w5 w6 l v2)) (rfl)) (funext fun a0 => funext fun a1 => refPickF_l1_eq fuel v2 l K k a0 a1)) (rfl))
noncomputable def refPickF_s3 {R : Type} (x0 : Int) (c0 : Int → Option R) : Option R :=
  c0 x0
theorem refPickF_s3_eq (fuel : Nat)  (x0 : Int) : (kont (qc17 fuel) (bodyOf Tryd.prog 172) [1, 1, 0, 1, 0] 16 (endK Tryd.prog 0 0 172)) .ret ⟨[(4, vI x0)], [], 0, none⟩ = refPickF_s3 x0 (fun a0 => some (vI a0, [])) := by kernel_rfl
noncomputable def refPickF_s4 {R : Type}  (c0 : Int → Option R) : Option R :=
  c0 0
theorem refPickF_s4_eq (fuel : Nat)   : (kont (qc17 fuel) (bodyOf Tryd.prog 172) [1, 1, 0, 1, 0] 16 (endK Tryd.prog 0 0 172)) (.exit 0) ⟨[(4, vI 0)], [], 0, none⟩ = refPickF_s4  (fun a0 => some (vI a0, [])) := by kernel_rfl
noncomputable def refPickF_s1 {R : Type} (l : List Int) (x : Int) (c0 : Int → Int → Int → Option R) : Option R :=
  bnd (ix l (IntKind.i64.wrap (((l.length : Nat) : Int) - 1))) fun e1 =>
  bnd (divI .rem .u64 x e1) fun v2 =>
  c0 ((l.length : Nat) : Int) 0 v2
theorem refPickF_s1_eq (fuel : Nat)  (l : List Int) (x : Int) : callN Tryd.prog mode10 T_pick fuel 172 [vW l, vU x] [] = refPickF_s1 l x (fun a0 a1 v2 => lpN (sub (bodyOf Tryd.prog 172) [1, 1, 0, 1, 0, 0]) (qc17 fuel) 16 [1, 4, 15, 16, 17] fuel ⟨[(1, vU v2), (4, vI 0), (15, vW l), (16, vI a0), (17, vI a1)], [], 0, none⟩ (kont (qc17 fuel) (bodyOf Tryd.prog 172) [1, 1, 0, 1, 0] 16 (endK Tryd.prog 0 0 172))) := by kernel_rfl
noncomputable def refPickF {R : Type} (fuel : Nat) (l : List Int) (x : Int) (r0 : Int → Option R) : Option R :=
  (refPickF_s1 l x (fun a0 a1 v2 => (refPickF_l1 fuel v2 l (fun x0 => (refPickF_s3 x0 (fun a2 => r0 a2))) ((refPickF_s4 (fun a3 => r0 a3))) fuel a0 a1)))
theorem refPickF_eq (fuel : Nat) (l : List Int) (x : Int) : callN Tryd.prog mode10 T_pick fuel 172 [.li .u64 l, .s (.int .u64 x)] [] = refPickF fuel l x (fun z0 => some (.s (.int .i64 z0), [])) := by
  unfold refPickF
  exact (refPickF_s1_eq fuel  l x).trans (congr (Eq.refl (refPickF_s1 (R := Out) l x)) (funext fun a0 => funext fun a1 => funext fun v2 => (refPickF_l1_eq fuel v2 l (kont (qc17 fuel) (bodyOf Tryd.prog 172) [1, 1, 0, 1, 0] 16 (endK Tryd.prog 0 0 172)) fuel a0 a1).trans (congrFun (congrFun (congrFun (congr (congr (Eq.refl (refPickF_l1 (R := Out) fuel v2 l)) (funext fun x0 => (refPickF_s3_eq fuel  x0))) ((refPickF_s4_eq fuel  ))) fuel) a0) a1)))
theorem refPick_loop {R : Type} (fuel : Nat) (l : List Int) (x : Int) (hr : l.Pairwise (· < ·)) (hl : l.length ≤ 64) (hp : placeN l x < l.length) (k0 : Int → Option R) (k1 : Option R) : ∀ (k j : Nat), j ≤ placeN l x → placeN l x < j + k → refPickF_l1 fuel x l k0 k1 k (l.length : Int) (j : Int) = k0 ((placeN l x : Nat) + 1)
  | 0, j, h1, h2 => by omega
  | k + 1, j, h1, h2 => by
    unfold refPickF_l1 refPickF_s2
    rw [br_if, if_pos (by simp; omega), bnd_of ((ix_nat l j).trans (getD_pk (by omega))), br_if, wrap_i64 (by omega) (by omega)]
    by_cases hc : j = placeN l x
    · have := placeN_at l x hp
      rw [← hc] at this
      rw [if_pos (by simpa using this), ← hc]
    · have := placeN_below l x j (by omega)
      rw [if_neg (by simpa using this), show (j : Int) + 1 = ((j + 1 : Nat) : Int) by omega]
      exact refPick_loop fuel l x hr hl hp k0 k1 k (j + 1) (by omega) (by omega)
theorem refPick_fact (l : List Int) (x : Int) (hg : ((decide (1 ≤ l.length) && decide (l.length ≤ 64)) && risesS l && (decide (0 ≤ x) && decide (x < 18446744073709551616))) = true) : Fact Tryd.prog gTab 172 [.li .u64 l, .s (.int .u64 x)] [] (.s (.int .i64 (chosenS l x)), []) := by
  have hg' := hg
  simp only [Bool.and_eq_true, decide_eq_true_eq] at hg'
  obtain ⟨⟨⟨h1, h2⟩, h3⟩, h4, h5⟩ := hg'
  obtain ⟨hr, hp⟩ := rises_iff.1 h3
  refine callN_fact hN hM T_pick_ok (n := 100) (mode := mode10) ?_
  rw [refPickF_eq]
  unfold refPickF refPickF_s1
  have pl := hp _ (getD_mem (l := l) (i := l.length - 1) (by omega))
  have gl : ix l (IntKind.i64.wrap (((l.length : Nat) : Int) - 1)) = some (l.getD (l.length - 1) 0) := by
    rw [wrap_i64 (by omega) (by omega), show ((l.length : Nat) : Int) - 1 = ((l.length - 1 : Nat) : Int) by omega, ix_nat]
    exact getD_pk (by omega)
  have hlt := Int.emod_lt_of_pos x pl.1
  rw [bnd_of gl, bnd_of (rem_pos h4 pl.1), chosenS_eq]
  unfold chosenI
  generalize x % l.getD (l.length - 1) 0 = y at *
  have hpl : placeN l y < l.length := by
    have := placeN_le l y
    rcases Nat.lt_or_eq_of_le this with h | h
    · exact h
    · have := placeN_below l y (l.length - 1) (by omega)
      omega
  dsimp only
  have h := fun k0 k1 => refPick_loop (R := Out) 100 l y hr h2 hpl k0 k1 100 0 (by omega) (by omega)
  rw [Int.natCast_zero] at h
  rw [h]
  rfl
noncomputable def refPick_ent : List V → List Blk → Option (Bool × Out)
  | [w0, .s (.int .u64 x)], [] => (asSl (.int .u64) w0).bind fun l => some (((decide (1 ≤ l.length) && decide (l.length ≤ 64)) && risesS l && (decide (0 ≤ x) && decide (x < 18446744073709551616))), (.s (.int .i64 (chosenS l x)), []))
  | _, _ => none
theorem refPick_ok : ∀ args bs out, refPick_ent args bs = some (true, out) → Fact Tryd.prog gTab 172 args bs out := by
  intro args bs out h
  unfold refPick_ent at h
  split at h
  · rename_i w0 x
    obtain ⟨l, h_l, h⟩ := Option.bind_eq_some_iff.1 h
    simp only [Option.some.injEq, Prod.mk.injEq] at h
    obtain ⟨hg, rfl⟩ := h
    exact (refPick_fact l x hg).args (fun _ _ _ => fun _ h => RVs_two (fun _ h => RV_li h_l h) (fun _ h => h) h)
  · cases h
noncomputable def T_refPick : Tbl := Tbl.cons 172 refPick_ent T_pick
theorem T_refPick_ok : CallOk Tryd.prog gTab T_refPick := cons_ok T_pick_ok refPick_ok
/-! A symbol's blocks. -/
theorem weight_pos {k d : Int} (hk : 1 ≤ k) (hk2 : k ≤ 64) (hd : 1 ≤ d) (hd2 : d ≤ 64) : 1 ≤ weightS k d := by
  have hr := root_range hk hk2
  have hdg := dig_range hr.1 hr.2
  have hm := mul_small (a := rootS k) (b := digS (rootS k)) hr.1 (by omega) hdg.1 (by omega)
  have a1 : 1 ≤ 4294967296 / k := Int.le_ediv_of_mul_le (by omega) (by omega)
  have a2 := div_small (a := 4294967296 * rootS k) (b := d * k) (by omega) (mul_small hd hd2 hk hk2).1
  have a3 := div_small (a := 4294967296 * rootS k * digS (rootS k)) (b := k) (by rw [Int.mul_assoc]; omega) hk
  have a4 : 1 < d → 1 ≤ 4294967296 / (d * (d - 1)) := fun h => by
    have := mul_small hd hd2 (show 1 ≤ d - 1 by omega) (by omega)
    exact Int.le_ediv_of_mul_le (by omega) (by omega)
  rw [weightS_eq]; unfold weightI
  split
  · rename_i h
    have a4 := a4 h
    split
    · omega
    · split <;> omega
  · split
    · omega
    · split <;> omega
theorem sum_rise {k : Int} (hk : 1 ≤ k) (hk2 : k ≤ 64) {a b : Nat} (hab : a < b) (hb : b ≤ 64) : sumN k a < sumN k b := by
  induction b with
  | zero => omega
  | succ b ih =>
    have := weight_pos hk hk2 (d := (b : Int) + 1) (by omega) (by omega)
    rw [sumN]
    rcases Nat.lt_or_eq_of_le (Nat.le_of_lt_succ hab) with h | h
    · have := ih h (by omega); omega
    · subst h; omega
theorem tabS_len {z : Int} (h : 1 ≤ z) : (tabS z).length = z.toNat := by rw [tabS_eq]; exact tab_len z z.toNat
theorem tab_rises {z : Int} (hk : 1 ≤ z) (hk2 : z ≤ 64) : risesS (tabS z) = true := by
  rw [tabS_eq]
  unfold tabI tabN
  refine rises_iff.2 ⟨?_, ?_⟩
  · rw [List.pairwise_map]
    refine (List.pairwise_lt_range).imp_of_mem fun {a b} ha hb h => ?_
    rw [List.mem_range] at ha hb
    exact sum_rise hk hk2 (by omega) (by omega)
  · intro x hx
    obtain ⟨a, ha, rfl⟩ := List.mem_map.1 hx
    rw [List.mem_range] at ha
    have := sum_range hk hk2 (a + 1) (by omega)
    have := sum_rise hk hk2 (show 0 < a + 1 by omega) (by omega)
    rw [show sumN z 0 = 0 from rfl] at this
    omega
theorem chosen_range {z x : Int} (hk : 1 ≤ z) (hk2 : z ≤ 64) (hx : 0 ≤ x) : 1 ≤ chosenS (tabS z) x ∧ chosenS (tabS z) x ≤ z := by
  have hl := tabS_len hk
  obtain ⟨hr, hp⟩ := rises_iff.1 (tab_rises hk hk2)
  have pl := hp _ (getD_mem (l := tabS z) (i := (tabS z).length - 1) (by omega))
  rw [chosenS_eq]
  unfold chosenI
  have hlt := Int.emod_lt_of_pos x pl.1
  generalize x % (tabS z).getD ((tabS z).length - 1) 0 = y at *
  have := placeN_le (tabS z) y
  rcases Nat.lt_or_eq_of_le this with h | h
  · omega
  · have := placeN_below (tabS z) y ((tabS z).length - 1) (by omega)
    omega
noncomputable def nbI (z id : Int) : List Int := someS (nextS (mixedS id)) z (chosenS (tabS z) (mixedS (nextS (mixedS id))))
noncomputable def nbS : Int → Int → List Int := Classical.choose (⟨nbI, rfl⟩ : ∃ f, f = nbI)
theorem nbS_eq : nbS = nbI := Classical.choose_spec (⟨nbI, rfl⟩ : ∃ f, f = nbI)
theorem kk_iff {z : Int} : (decide (1 ≤ z) && decide (z ≤ 64)) = true ↔ 1 ≤ z ∧ z ≤ 64 := by simp
theorem nb_range {z d x : Int} (hk : 1 ≤ z) (hk2 : z ≤ 64) (h : x ∈ nbS z d) : 0 ≤ x ∧ x < z := by
  rw [nbS_eq] at h
  unfold nbI at h
  have hn := next_range (mixedS d)
  exact (mem_shuffle hn.1 hn.2 hk (by omega)).1 ((List.take_sublist _ _).subset (mem_some.1 h))
theorem nb_len {z d : Int} (hk : 1 ≤ z) (hk2 : z ≤ 64) : (nbS z d).length ≤ 64 := by
  rw [nbS_eq]
  unfold nbI
  have hm := mixed_range (nextS (mixedS d))
  have hc := chosen_range hk hk2 hm.1
  rw [some_len (by omega) hc.2]
  omega
theorem nb_of {z d : Int} (hk : 1 ≤ z) (hk2 : z ≤ 64) : ofOk z (nbS z d) = true := ofOk_iff.2 ⟨⟨by omega, by omega⟩, fun x h => nb_range hk hk2 h⟩
theorem nb_ofLen {z d : Int} (hk2 : z ≤ 64) : (ofS z (nbS z d)).length ≤ 8 := by rw [of_len]; exact nw_le (by omega)
theorem someOk_of {n many : Int} (hn : 1 ≤ n) (hn2 : n ≤ 512) (h : 0 ≤ many) (h2 : many ≤ n) : someOk n many = true := by unfold someOk sizedS; simp; omega
def mode11 : FuncId → Nat := fun f => 0
/-! downpour/neighbours.of -/
noncomputable def nbOfF_s1 {R : Type} (z : Int) (c0 : Int → List Int → Int → Option R) : Option R :=
  c0 z (if (decide (1 ≤ z) && decide (z ≤ 64)) = true then tabS z else []) (if (decide (1 ≤ z) && decide (z ≤ 64)) = true then 0 else 2)
theorem nbOfF_s1_eq (fuel : Nat)  (z : Int) : callN Tryd.prog mode11 T_refPick fuel 145 [vI z] [] = nbOfF_s1 z (fun a1 a2 a3 => some (.tup [.agg [vI a1, vW a2], vI a3], [])) := by kernel_rfl
noncomputable def nbOfF {R : Type} (fuel : Nat) (z : Int) (r0 : Int → List Int → Int → Option R) : Option R :=
  (nbOfF_s1 z (fun a1 a2 a3 => r0 a1 a2 a3))
theorem nbOfF_eq (fuel : Nat) (z : Int) : callN Tryd.prog mode11 T_refPick fuel 145 [.s (.int .i64 z)] [] = nbOfF fuel z (fun z0 z1 z2 => some (.tup [.agg [.s (.int .i64 z0), .li .u64 z1], .s (.int .i64 z2)], [])) := by
  unfold nbOfF
  exact (nbOfF_s1_eq fuel  z)
theorem nbOf_fact (z : Int) : Fact Tryd.prog gTab 145 [.s (.int .i64 z)] [] (.tup [.agg [.s (.int .i64 z), .li .u64 (if (decide (1 ≤ z) && decide (z ≤ 64)) = true then tabS z else [])], .s (.int .i64 (if (decide (1 ≤ z) && decide (z ≤ 64)) = true then 0 else 2))], []) := by
  refine callN_fact hN hM T_refPick_ok (n := 0) (mode := mode11) ?_
  rw [nbOfF_eq]
  rfl
noncomputable def nbOf_ent : List V → List Blk → Option (Bool × Out)
  | [.s (.int .i64 z)], [] => some (true, (.tup [.agg [.s (.int .i64 z), .li .u64 (if (decide (1 ≤ z) && decide (z ≤ 64)) = true then tabS z else [])], .s (.int .i64 (if (decide (1 ≤ z) && decide (z ≤ 64)) = true then 0 else 2))], []))
  | _, _ => none
theorem nbOf_ok : ∀ args bs out, nbOf_ent args bs = some (true, out) → Fact Tryd.prog gTab 145 args bs out := by
  intro args bs out h
  unfold nbOf_ent at h
  split at h
  · rename_i z
    simp only [Option.some.injEq, Prod.mk.injEq] at h
    obtain ⟨_, rfl⟩ := h
    exact nbOf_fact z
  · cases h
noncomputable def T_nbOf : Tbl := Tbl.cons 145 nbOf_ent T_refPick
theorem T_nbOf_ok : CallOk Tryd.prog gTab T_nbOf := cons_ok T_refPick_ok nbOf_ok
/-! (downpour/neighbours.code).places -/
noncomputable def nbPlF_s1 {R : Type} (d : Int) (t : List Int) (z : Int) (c0 : List Int → Option R) : Option R :=
  grd (decide (0 ≤ d) && decide (d < 18446744073709551616)) <|
  grd ((decide (1 ≤ t.length) && decide (t.length ≤ 64)) && risesS t && (decide (0 ≤ (mixedS (nextS (mixedS d)))) && decide ((mixedS (nextS (mixedS d))) < 18446744073709551616))) <|
  grd (decide (0 ≤ (nextS (mixedS d))) && decide ((nextS (mixedS d)) < 18446744073709551616)) <|
  c0 (if someOk z (chosenS t (mixedS (nextS (mixedS d)))) = true then someS (nextS (mixedS d)) z (chosenS t (mixedS (nextS (mixedS d)))) else [])
theorem nbPlF_s1_eq (fuel : Nat)  (d : Int) (t : List Int) (z : Int) : callN Tryd.prog mode11 T_nbOf fuel 170 [.agg [vI z, vW t], vU d] [] = nbPlF_s1 d t z (fun a1 => some (vL a1, [])) := by kernel_rfl
noncomputable def nbPlF {R : Type} (fuel : Nat) (z : Int) (t : List Int) (d : Int) (r0 : List Int → Option R) : Option R :=
  (nbPlF_s1 d t z (fun a1 => r0 a1))
theorem nbPlF_eq (fuel : Nat) (z : Int) (t : List Int) (d : Int) : callN Tryd.prog mode11 T_nbOf fuel 170 [.agg [.s (.int .i64 z), .li .u64 t], .s (.int .u64 d)] [] = nbPlF fuel z t d (fun z0 => some (.li .i64 z0, [])) := by
  unfold nbPlF
  exact (nbPlF_s1_eq fuel  d t z)
theorem nbPl_fact (z : Int) (t : List Int) (d : Int) (hg : ((decide (1 ≤ z) && decide (z ≤ 64)) && eqS_li t (tabS z) && (decide (0 ≤ d) && decide (d < 18446744073709551616))) = true) : Fact Tryd.prog gTab 170 [.agg [.s (.int .i64 z), .li .u64 t], .s (.int .u64 d)] [] (.li .i64 (nbS z d), []) := by
  have hg' := hg
  rw [Bool.and_eq_true, Bool.and_eq_true] at hg'
  obtain ⟨⟨hk, ht⟩, hd⟩ := hg'
  have ht : t = tabS z := by rw [eqS_li_eq] at ht; exact of_decide_eq_true ht
  subst ht
  obtain ⟨k1, k2⟩ := kk_iff.1 hk
  refine callN_fact hN hM T_nbOf_ok (n := 0) (mode := mode11) ?_
  rw [nbPlF_eq]
  unfold nbPlF nbPlF_s1
  have hr := next_range (mixedS d)
  have hm := mixed_range (nextS (mixedS d))
  have hc := chosen_range k1 k2 hm.1
  have hl := tabS_len k1
  rw [grd_of hd, grd_of (by simp [tab_rises k1 k2]; omega), grd_of (by simp; omega), if_pos (someOk_of k1 (by omega) (by omega) hc.2), nbS_eq]
  rfl
noncomputable def nbPl_ent : List V → List Blk → Option (Bool × Out)
  | [.agg [.s (.int .i64 z), w0], .s (.int .u64 d)], [] => (asSl (.int .u64) w0).bind fun t => some (((decide (1 ≤ z) && decide (z ≤ 64)) && eqS_li t (tabS z) && (decide (0 ≤ d) && decide (d < 18446744073709551616))), (.li .i64 (nbS z d), []))
  | _, _ => none
theorem nbPl_ok : ∀ args bs out, nbPl_ent args bs = some (true, out) → Fact Tryd.prog gTab 170 args bs out := by
  intro args bs out h
  unfold nbPl_ent at h
  split at h
  · rename_i z w0 d
    obtain ⟨t, h_t, h⟩ := Option.bind_eq_some_iff.1 h
    simp only [Option.some.injEq, Prod.mk.injEq] at h
    obtain ⟨hg, rfl⟩ := h
    exact (nbPl_fact z t d hg).args (fun _ _ _ => fun _ h => RVs_two (fun _ h => RV_agg_two (fun _ h => RVs_two (fun _ h => h) (fun _ h => RVs_two (fun _ h => RV_li h_t h) (fun _ h => h) h) h) h) (fun _ h => h) h)
  · cases h
noncomputable def T_nbPl : Tbl := Tbl.cons 170 nbPl_ent T_nbOf
theorem T_nbPl_ok : CallOk Tryd.prog gTab T_nbPl := cons_ok T_nbOf_ok nbPl_ok
/-! (downpour/neighbours.code).row -/
noncomputable def nbRowF_s1 {R : Type} (z : Int) (t : List Int) (d : Int) (c0 : Int → List Int → Option R) : Option R :=
  grd ((decide (1 ≤ z) && decide (z ≤ 64)) && eqS_li t (tabS z) && (decide (0 ≤ d) && decide (d < 18446744073709551616))) <|
  grd (decide ((nbS z d).length ≤ 1000000)) <|
  c0 (if ofOk z (nbS z d) = true then z else 0) (if ofOk z (nbS z d) = true then ofS z (nbS z d) else [])
theorem nbRowF_s1_eq (fuel : Nat)  (z : Int) (t : List Int) (d : Int) : callN Tryd.prog mode11 T_nbPl fuel 146 [.agg [vI z, vW t], vU d] [] = nbRowF_s1 z t d (fun a1 a2 => some (.agg [vI a1, vW a2], [])) := by kernel_rfl
noncomputable def nbRowF {R : Type} (fuel : Nat) (z : Int) (t : List Int) (d : Int) (r0 : Int → List Int → Option R) : Option R :=
  (nbRowF_s1 z t d (fun a1 a2 => r0 a1 a2))
theorem nbRowF_eq (fuel : Nat) (z : Int) (t : List Int) (d : Int) : callN Tryd.prog mode11 T_nbPl fuel 146 [.agg [.s (.int .i64 z), .li .u64 t], .s (.int .u64 d)] [] = nbRowF fuel z t d (fun z0 z1 => some (.agg [.s (.int .i64 z0), .li .u64 z1], [])) := by
  unfold nbRowF
  exact (nbRowF_s1_eq fuel  z t d)
theorem nbRow_fact (z : Int) (t : List Int) (d : Int) (hg : ((decide (1 ≤ z) && decide (z ≤ 64)) && eqS_li t (tabS z) && (decide (0 ≤ d) && decide (d < 18446744073709551616))) = true) : Fact Tryd.prog gTab 146 [.agg [.s (.int .i64 z), .li .u64 t], .s (.int .u64 d)] [] (.agg [.s (.int .i64 z), .li .u64 (ofS z (nbS z d))], []) := by
  have hg' := hg
  rw [Bool.and_eq_true, Bool.and_eq_true] at hg'
  obtain ⟨k1, k2⟩ := kk_iff.1 hg'.1.1
  have hl := nb_len (d := d) k1 k2
  refine callN_fact hN hM T_nbPl_ok (n := 0) (mode := mode11) ?_
  rw [nbRowF_eq]
  unfold nbRowF nbRowF_s1
  rw [grd_of hg, grd_of (by simp; omega), nb_of k1 k2]
  rfl
noncomputable def nbRow_ent : List V → List Blk → Option (Bool × Out)
  | [.agg [.s (.int .i64 z), w0], .s (.int .u64 d)], [] => (asSl (.int .u64) w0).bind fun t => some (((decide (1 ≤ z) && decide (z ≤ 64)) && eqS_li t (tabS z) && (decide (0 ≤ d) && decide (d < 18446744073709551616))), (.agg [.s (.int .i64 z), .li .u64 (ofS z (nbS z d))], []))
  | _, _ => none
theorem nbRow_ok : ∀ args bs out, nbRow_ent args bs = some (true, out) → Fact Tryd.prog gTab 146 args bs out := by
  intro args bs out h
  unfold nbRow_ent at h
  split at h
  · rename_i z w0 d
    obtain ⟨t, h_t, h⟩ := Option.bind_eq_some_iff.1 h
    simp only [Option.some.injEq, Prod.mk.injEq] at h
    obtain ⟨hg, rfl⟩ := h
    exact (nbRow_fact z t d hg).args (fun _ _ _ => fun _ h => RVs_two (fun _ h => RV_agg_two (fun _ h => RVs_two (fun _ h => h) (fun _ h => RVs_two (fun _ h => RV_li h_t h) (fun _ h => h) h) h) h) (fun _ h => h) h)
  · cases h
noncomputable def T_nbRow : Tbl := Tbl.cons 146 nbRow_ent T_nbPl
theorem T_nbRow_ok : CallOk Tryd.prog gTab T_nbRow := cons_ok T_nbPl_ok nbRow_ok
/-! downpour/neighbours.Row -/
noncomputable def NbRowF_s1 {R : Type} (z d : Int) (c0 : Int → Int → Option R) (c1 : Int → List Int → Int → Option R) : Option R :=
  br (((if (decide (1 ≤ z) && decide (z ≤ 64)) = true then 0 else 2) : Int) != 0)
    (c0 0 (if (decide (1 ≤ z) && decide (z ≤ 64)) = true then 0 else 2))
    (grd ((decide (1 ≤ z) && decide (z ≤ 64)) && eqS_li (if (decide (1 ≤ z) && decide (z ≤ 64)) = true then tabS z else []) (tabS z) && (decide (0 ≤ d) && decide (d < 18446744073709551616))) <|
    c1 z (ofS z (nbS z d)) 0)
theorem NbRowF_s1_eq (fuel : Nat)  (z d : Int) : callN Tryd.prog mode11 T_nbRow fuel 101 [vI z, vU d] [] = NbRowF_s1 z d (fun a1 a2 => some (.tup [.agg [vI a1, vN], vI a2], [])) (fun a3 a4 a5 => some (.tup [.agg [vI a3, vW a4], vI a5], [])) := by kernel_rfl
noncomputable def NbRowF {R : Type} (fuel : Nat) (z d : Int) (r0 : Int → Int → Option R) (r1 : Int → List Int → Int → Option R) : Option R :=
  (NbRowF_s1 z d (fun a1 a2 => r0 a1 a2) (fun a3 a4 a5 => r1 a3 a4 a5))
theorem NbRowF_eq (fuel : Nat) (z d : Int) : callN Tryd.prog mode11 T_nbRow fuel 101 [.s (.int .i64 z), .s (.int .u64 d)] [] = NbRowF fuel z d (fun z0 z1 => some (.tup [.agg [.s (.int .i64 z0), .s (.slice none 0 0)], .s (.int .i64 z1)], [])) (fun z0 z1 z2 => some (.tup [.agg [.s (.int .i64 z0), .li .u64 z1], .s (.int .i64 z2)], [])) := by
  unfold NbRowF
  exact (NbRowF_s1_eq fuel  z d)
theorem NbRow_fact (z : Int) (d : Int) (hg : (decide (0 ≤ d) && decide (d < 18446744073709551616)) = true) : Fact Tryd.prog gTab 101 [.s (.int .i64 z), .s (.int .u64 d)] [] (.tup [.agg [.s (.int .i64 (if (decide (1 ≤ z) && decide (z ≤ 64)) = true then z else 0)), .li .u64 (if (decide (1 ≤ z) && decide (z ≤ 64)) = true then ofS z (nbS z d) else [])], .s (.int .i64 (if (decide (1 ≤ z) && decide (z ≤ 64)) = true then 0 else 2))], []) := by
  by_cases hk : (decide (1 ≤ z) && decide (z ≤ 64)) = true
  · refine callN_fact hN hM T_nbRow_ok (n := 0) (mode := mode11) ?_
    rw [NbRowF_eq]
    unfold NbRowF NbRowF_s1
    simp only [hk, if_true, bne_self_eq_false, br_ff]
    rw [grd_of (by simp only [Bool.true_and, hg, Bool.and_true]; exact eqS_li_self _)]
  · rw [if_neg hk, if_neg hk, if_neg hk]
    refine Fact.out (v := .tup [.agg [.s (.int .i64 0), .s (.slice none 0 0)], .s (.int .i64 2)]) (bs' := []) ?_ (fun _ _ _ x h => RV_tup_two (fun _ h => RVs_two (fun _ h => RV_agg_two (fun _ h => RVs_two (fun _ h => h) (fun _ h => RVs_two (fun _ h => RV_nil_li h) (fun _ h => h) h) h) h) (fun _ h => h) h) h)
    refine callN_fact hN hM T_nbRow_ok (n := 0) (mode := mode11) ?_
    rw [NbRowF_eq]
    unfold NbRowF NbRowF_s1
    rw [if_neg hk, br_if, if_pos (by decide)]
noncomputable def NbRow_ent : List V → List Blk → Option (Bool × Out)
  | [.s (.int .i64 z), .s (.int .u64 d)], [] => some ((decide (0 ≤ d) && decide (d < 18446744073709551616)), (.tup [.agg [.s (.int .i64 (if (decide (1 ≤ z) && decide (z ≤ 64)) = true then z else 0)), .li .u64 (if (decide (1 ≤ z) && decide (z ≤ 64)) = true then ofS z (nbS z d) else [])], .s (.int .i64 (if (decide (1 ≤ z) && decide (z ≤ 64)) = true then 0 else 2))], []))
  | _, _ => none
theorem NbRow_ok : ∀ args bs out, NbRow_ent args bs = some (true, out) → Fact Tryd.prog gTab 101 args bs out := by
  intro args bs out h
  unfold NbRow_ent at h
  split at h
  · rename_i z d
    simp only [Option.some.injEq, Prod.mk.injEq] at h
    obtain ⟨hg, rfl⟩ := h
    exact NbRow_fact z d hg
  · cases h
noncomputable def T_NbRow : Tbl := Tbl.cons 101 NbRow_ent T_nbRow
theorem T_NbRow_ok : CallOk Tryd.prog gTab T_NbRow := cons_ok T_nbRow_ok NbRow_ok
/-! downpour/downpourref08.Places -/
noncomputable def refNbPlF_s1 {R : Type} (d z : Int) (c0 : List Int → Option R) : Option R :=
  grd (decide (0 ≤ d) && decide (d < 18446744073709551616)) <|
  grd (decide (1 ≤ z) && decide (z ≤ 64)) <|
  grd (decide (0 ≤ (IntKind.u64.wrap ((mixedS d) + 11400714819323198485))) && decide ((IntKind.u64.wrap ((mixedS d) + 11400714819323198485)) < 18446744073709551616)) <|
  grd ((decide (1 ≤ (tabS z).length) && decide ((tabS z).length ≤ 64)) && risesS (tabS z) && (decide (0 ≤ (mixedS (IntKind.u64.wrap ((mixedS d) + 11400714819323198485)))) && decide ((mixedS (IntKind.u64.wrap ((mixedS d) + 11400714819323198485))) < 18446744073709551616))) <|
  grd ((decide (0 ≤ (IntKind.u64.wrap ((mixedS d) + 11400714819323198485))) && decide ((IntKind.u64.wrap ((mixedS d) + 11400714819323198485)) < 18446744073709551616) && decide (1 ≤ z) && decide (z ≤ 512)) && decide (0 ≤ (chosenS (tabS z) (mixedS (IntKind.u64.wrap ((mixedS d) + 11400714819323198485))))) && decide ((chosenS (tabS z) (mixedS (IntKind.u64.wrap ((mixedS d) + 11400714819323198485)))) ≤ z)) <|
  c0 (someS (IntKind.u64.wrap ((mixedS d) + 11400714819323198485)) z (chosenS (tabS z) (mixedS (IntKind.u64.wrap ((mixedS d) + 11400714819323198485)))))
theorem refNbPlF_s1_eq (fuel : Nat)  (d z : Int) : callN Tryd.prog mode11 T_NbRow fuel 147 [vI z, vU d] [] = refNbPlF_s1 d z (fun a1 => some (vL a1, [])) := by kernel_rfl
noncomputable def refNbPlF {R : Type} (fuel : Nat) (z d : Int) (r0 : List Int → Option R) : Option R :=
  (refNbPlF_s1 d z (fun a1 => r0 a1))
theorem refNbPlF_eq (fuel : Nat) (z d : Int) : callN Tryd.prog mode11 T_NbRow fuel 147 [.s (.int .i64 z), .s (.int .u64 d)] [] = refNbPlF fuel z d (fun z0 => some (.li .i64 z0, [])) := by
  unfold refNbPlF
  exact (refNbPlF_s1_eq fuel  d z)
theorem refNbPl_fact (z : Int) (d : Int) (hg : ((decide (1 ≤ z) && decide (z ≤ 64)) && (decide (0 ≤ d) && decide (d < 18446744073709551616))) = true) : Fact Tryd.prog gTab 147 [.s (.int .i64 z), .s (.int .u64 d)] [] (.li .i64 (nbS z d), []) := by
  rw [Bool.and_eq_true] at hg
  obtain ⟨hk, hd⟩ := hg
  obtain ⟨k1, k2⟩ := kk_iff.1 hk
  refine callN_fact hN hM T_NbRow_ok (n := 0) (mode := mode11) ?_
  rw [refNbPlF_eq]
  unfold refNbPlF refNbPlF_s1
  have hn : IntKind.u64.wrap (mixedS d + 11400714819323198485) = nextS (mixedS d) := by rw [nextS_eq]; rfl
  have hr := next_range (mixedS d)
  have hm := mixed_range (nextS (mixedS d))
  have hc := chosen_range k1 k2 hm.1
  have hl := tabS_len k1
  rw [hn, grd_of hd, grd_of hk, grd_of (by simp; omega), grd_of (by simp [tab_rises k1 k2]; omega), grd_of (by simp; omega), nbS_eq]
  rfl
noncomputable def refNbPl_ent : List V → List Blk → Option (Bool × Out)
  | [.s (.int .i64 z), .s (.int .u64 d)], [] => some (((decide (1 ≤ z) && decide (z ≤ 64)) && (decide (0 ≤ d) && decide (d < 18446744073709551616))), (.li .i64 (nbS z d), []))
  | _, _ => none
theorem refNbPl_ok : ∀ args bs out, refNbPl_ent args bs = some (true, out) → Fact Tryd.prog gTab 147 args bs out := by
  intro args bs out h
  unfold refNbPl_ent at h
  split at h
  · rename_i z d
    simp only [Option.some.injEq, Prod.mk.injEq] at h
    obtain ⟨hg, rfl⟩ := h
    exact refNbPl_fact z d hg
  · cases h
noncomputable def T_refNbPl : Tbl := Tbl.cons 147 refNbPl_ent T_NbRow
theorem T_refNbPl_ok : CallOk Tryd.prog gTab T_refNbPl := cons_ok T_NbRow_ok refNbPl_ok
/-! downpour/downpourref08.Row -/
noncomputable def refNbRowF_s1 {R : Type} (z d : Int) (c0 : Int → List Int → Option R) : Option R :=
  grd ((decide (1 ≤ z) && decide (z ≤ 64)) && (decide (0 ≤ d) && decide (d < 18446744073709551616))) <|
  grd (decide (0 ≤ z) && decide (z ≤ 512) && decide ((nbS z d).length ≤ 1000000)) <|
  c0 z (ofS z (nbS z d))
theorem refNbRowF_s1_eq (fuel : Nat)  (z d : Int) : callN Tryd.prog mode11 T_refNbPl fuel 103 [vI z, vU d] [] = refNbRowF_s1 z d (fun a1 a2 => some (.agg [vI a1, vW a2], [])) := by kernel_rfl
noncomputable def refNbRowF {R : Type} (fuel : Nat) (z d : Int) (r0 : Int → List Int → Option R) : Option R :=
  (refNbRowF_s1 z d (fun a1 a2 => r0 a1 a2))
theorem refNbRowF_eq (fuel : Nat) (z d : Int) : callN Tryd.prog mode11 T_refNbPl fuel 103 [.s (.int .i64 z), .s (.int .u64 d)] [] = refNbRowF fuel z d (fun z0 z1 => some (.agg [.s (.int .i64 z0), .li .u64 z1], [])) := by
  unfold refNbRowF
  exact (refNbRowF_s1_eq fuel  z d)
theorem refNbRow_fact (z : Int) (d : Int) (hg : ((decide (1 ≤ z) && decide (z ≤ 64)) && (decide (0 ≤ d) && decide (d < 18446744073709551616))) = true) : Fact Tryd.prog gTab 103 [.s (.int .i64 z), .s (.int .u64 d)] [] (.agg [.s (.int .i64 z), .li .u64 (ofS z (nbS z d))], []) := by
  have hg' := hg
  rw [Bool.and_eq_true] at hg'
  obtain ⟨k1, k2⟩ := kk_iff.1 hg'.1
  have hl := nb_len (d := d) k1 k2
  refine callN_fact hN hM T_refNbPl_ok (n := 0) (mode := mode11) ?_
  rw [refNbRowF_eq]
  unfold refNbRowF refNbRowF_s1
  rw [grd_of hg, grd_of (by simp; omega)]
noncomputable def refNbRow_ent : List V → List Blk → Option (Bool × Out)
  | [.s (.int .i64 z), .s (.int .u64 d)], [] => some (((decide (1 ≤ z) && decide (z ≤ 64)) && (decide (0 ≤ d) && decide (d < 18446744073709551616))), (.agg [.s (.int .i64 z), .li .u64 (ofS z (nbS z d))], []))
  | _, _ => none
theorem refNbRow_ok : ∀ args bs out, refNbRow_ent args bs = some (true, out) → Fact Tryd.prog gTab 103 args bs out := by
  intro args bs out h
  unfold refNbRow_ent at h
  split at h
  · rename_i z d
    simp only [Option.some.injEq, Prod.mk.injEq] at h
    obtain ⟨hg, rfl⟩ := h
    exact refNbRow_fact z d hg
  · cases h
noncomputable def T_refNbRow : Tbl := Tbl.cons 103 refNbRow_ent T_refNbPl
theorem T_refNbRow_ok : CallOk Tryd.prog gTab T_refNbRow := cons_ok T_refNbPl_ok refNbRow_ok
end Go.Proofs.YtfpdcfgjhkiklaaDoor
