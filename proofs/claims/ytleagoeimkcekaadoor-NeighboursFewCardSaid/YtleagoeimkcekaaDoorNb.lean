/- Degrees and neighbours: what each function tells. -/
import Derived.Test.YtleagoeimkcekaaDoorPmTab
import Derived.KernelRfl
import Derived.Test.YtleagoeimkcekaaDoorProg
import Derived.Test.YtleagoeimkcekaaDoorDeg
set_option autoImplicit false
set_option maxRecDepth 100000
set_option maxHeartbeats 4000000
set_option linter.unusedVariables false
set_option linter.unusedSimpArgs false
namespace Go.Proofs.YtleagoeimkcekaaDoor
open Go Go.PM Go.Proofs Go.Shelf Go.PM.Row Go.PM.Bits Go.PM.Bit
def mode7 : FuncId → Nat := fun f => bif Nat.beq f 172 then 2 else 0
/-! downpour/degree.Table -/
noncomputable def tableF_s3 {R : Type} (w83 : Int) (w2 : Int) (w3 : Int) (w86 : List Int) (w84 : Nat) (w85 : Int) (z : Int) (c0 : Int → Nat → Int → List Int → Option R) (c1 : Int → Nat → Int → List Int → Option R) (c2 : Int → Nat → Int → List Int → Option R) (c3 : Int → Nat → Int → List Int → Option R) (c4 : Int → Nat → Int → List Int → Option R) (c5 : Int → Nat → Int → List Int → Option R) (c6 : Nat → Int → List Int → Option R) : Option R :=
  br (decide (w83 ≤ w2))
    (bnd (divI .quo .u64 4294967296 w2) fun v98 =>
    br (decide (w83 > 1))
      (bnd (divI .quo .u64 4294967296 (IntKind.u64.wrap (w83 * (IntKind.u64.wrap (w83 - 1))))) fun v99 =>
      bnd (divI .quo .u64 w2 w3) fun v100 =>
      br (decide (w83 < v100))
        (bnd (divI .quo .u64 (IntKind.u64.wrap (4294967296 * w3)) (IntKind.u64.wrap (w83 * w2))) fun v101 =>
        grd (Nat.beq w86.length w84) <|
        grd (okN (w84 + 1) 8) <|
        c0 (IntKind.u64.wrap (w83 + 1)) ((w86 ++ [(IntKind.u64.wrap (w85 + (IntKind.u64.wrap (v99 + v101))))]).length) (IntKind.u64.wrap (w85 + (IntKind.u64.wrap (v99 + v101)))) (w86 ++ [(IntKind.u64.wrap (w85 + (IntKind.u64.wrap (v99 + v101))))]))
        (br (w83 == v100)
          (grd (decide (1 ≤ w3) && decide (w3 ≤ 8)) <|
          bnd (divI .quo .u64 (IntKind.u64.wrap ((IntKind.u64.wrap (4294967296 * w3)) * (IntKind.u64.wrap (digS w3)))) w2) fun v106 =>
          grd (Nat.beq w86.length w84) <|
          grd (okN (w84 + 1) 8) <|
          c1 (IntKind.u64.wrap (w83 + 1)) ((w86 ++ [(IntKind.u64.wrap (w85 + (IntKind.u64.wrap (v99 + v106))))]).length) (IntKind.u64.wrap (w85 + (IntKind.u64.wrap (v99 + v106)))) (w86 ++ [(IntKind.u64.wrap (w85 + (IntKind.u64.wrap (v99 + v106))))]))
          (grd (Nat.beq w86.length w84) <|
          grd (okN (w84 + 1) 8) <|
          c2 (IntKind.u64.wrap (w83 + 1)) ((w86 ++ [(IntKind.u64.wrap (w85 + v99))]).length) (IntKind.u64.wrap (w85 + v99)) (w86 ++ [(IntKind.u64.wrap (w85 + v99))]))))
      (bnd (divI .quo .u64 w2 w3) fun v115 =>
      br (decide (w83 < v115))
        (bnd (divI .quo .u64 (IntKind.u64.wrap (4294967296 * w3)) (IntKind.u64.wrap (w83 * w2))) fun v116 =>
        grd (Nat.beq w86.length w84) <|
        grd (okN (w84 + 1) 8) <|
        c3 (IntKind.u64.wrap (w83 + 1)) ((w86 ++ [(IntKind.u64.wrap (w85 + (IntKind.u64.wrap (v98 + v116))))]).length) (IntKind.u64.wrap (w85 + (IntKind.u64.wrap (v98 + v116)))) (w86 ++ [(IntKind.u64.wrap (w85 + (IntKind.u64.wrap (v98 + v116))))]))
        (br (w83 == v115)
          (grd (decide (1 ≤ w3) && decide (w3 ≤ 8)) <|
          bnd (divI .quo .u64 (IntKind.u64.wrap ((IntKind.u64.wrap (4294967296 * w3)) * (IntKind.u64.wrap (digS w3)))) w2) fun v121 =>
          grd (Nat.beq w86.length w84) <|
          grd (okN (w84 + 1) 8) <|
          c4 (IntKind.u64.wrap (w83 + 1)) ((w86 ++ [(IntKind.u64.wrap (w85 + (IntKind.u64.wrap (v98 + v121))))]).length) (IntKind.u64.wrap (w85 + (IntKind.u64.wrap (v98 + v121)))) (w86 ++ [(IntKind.u64.wrap (w85 + (IntKind.u64.wrap (v98 + v121))))]))
          (grd (Nat.beq w86.length w84) <|
          grd (okN (w84 + 1) 8) <|
          c5 (IntKind.u64.wrap (w83 + 1)) ((w86 ++ [(IntKind.u64.wrap (w85 + v98))]).length) (IntKind.u64.wrap (w85 + v98)) (w86 ++ [(IntKind.u64.wrap (w85 + v98))])))))
    (c6 w84 w85 w86)
theorem tableF_s3_eq (fuel : Nat) (k : Nat) (K : Ex → St → Option Out) (w83 : Int) (w2 : Int) (w3 : Int) (w86 : List Int) (w84 : Nat) (w85 : Int) (z : Int) : lpN (sub (bodyOf Tryd.prog 195) [1, 1, 0, 0]) (itX Tryd.prog mode7 T_weights fuel 3 60 4 3 (roundK (evC (sub (bodyOf Tryd.prog 118) [1, 1, 1, 1, 0, 1, 0, 0])) (evC (sub (bodyOf Tryd.prog 118) [1, 1, 1, 1, 0, 1, 0, 1])) (fnX Tryd.prog mode7 T_weights fuel 21 0) #[12] 1040496 [(2, .s (.slice none 0 0)), (3, .s (.int .i64 0)), (4, .ptr 0 1 0 0), (5, .ptr 1 1 0 0), (11, .fn (.func 195) [] [.ptr 2 1 0 0])])) 0 [0, 3, 4, 5] (k + 1) ⟨[(0, .yl 3), (3, .s (.int .u64 w2)), (4, .s (.int .u64 w3)), (5, .s (.int .u64 w83))], [(0, some ⟨27, .agg [.sl 4 1 0 w84], true⟩), (1, some ⟨22, .agg [.s (.int .u64 w85)], true⟩), (2, some ⟨3, .agg [.s (.int .i64 z)], true⟩), (3, none), (4, some ⟨22, .li .u64 w86, true⟩)], 5, none⟩ K = tableF_s3 w83 w2 w3 w86 w84 w85 z (fun (a102 : Int) (a103 : Nat) (a104 : Int) (a105 : List Int) => lpN (sub (bodyOf Tryd.prog 195) [1, 1, 0, 0]) (itX Tryd.prog mode7 T_weights fuel 3 60 4 3 (roundK (evC (sub (bodyOf Tryd.prog 118) [1, 1, 1, 1, 0, 1, 0, 0])) (evC (sub (bodyOf Tryd.prog 118) [1, 1, 1, 1, 0, 1, 0, 1])) (fnX Tryd.prog mode7 T_weights fuel 21 0) #[12] 1040496 [(2, .s (.slice none 0 0)), (3, .s (.int .i64 0)), (4, .ptr 0 1 0 0), (5, .ptr 1 1 0 0), (11, .fn (.func 195) [] [.ptr 2 1 0 0])])) 0 [0, 3, 4, 5] k ⟨[(0, .yl 3), (3, .s (.int .u64 w2)), (4, .s (.int .u64 w3)), (5, .s (.int .u64 a102))], [(0, some ⟨27, .agg [.sl 4 1 0 a103], true⟩), (1, some ⟨22, .agg [.s (.int .u64 a104)], true⟩), (2, some ⟨3, .agg [.s (.int .i64 z)], true⟩), (3, none), (4, some ⟨22, .li .u64 a105, true⟩)], 5, none⟩ K) (fun (a107 : Int) (a108 : Nat) (a109 : Int) (a110 : List Int) => lpN (sub (bodyOf Tryd.prog 195) [1, 1, 0, 0]) (itX Tryd.prog mode7 T_weights fuel 3 60 4 3 (roundK (evC (sub (bodyOf Tryd.prog 118) [1, 1, 1, 1, 0, 1, 0, 0])) (evC (sub (bodyOf Tryd.prog 118) [1, 1, 1, 1, 0, 1, 0, 1])) (fnX Tryd.prog mode7 T_weights fuel 21 0) #[12] 1040496 [(2, .s (.slice none 0 0)), (3, .s (.int .i64 0)), (4, .ptr 0 1 0 0), (5, .ptr 1 1 0 0), (11, .fn (.func 195) [] [.ptr 2 1 0 0])])) 0 [0, 3, 4, 5] k ⟨[(0, .yl 3), (3, .s (.int .u64 w2)), (4, .s (.int .u64 w3)), (5, .s (.int .u64 a107))], [(0, some ⟨27, .agg [.sl 4 1 0 a108], true⟩), (1, some ⟨22, .agg [.s (.int .u64 a109)], true⟩), (2, some ⟨3, .agg [.s (.int .i64 z)], true⟩), (3, none), (4, some ⟨22, .li .u64 a110, true⟩)], 5, none⟩ K) (fun (a111 : Int) (a112 : Nat) (a113 : Int) (a114 : List Int) => lpN (sub (bodyOf Tryd.prog 195) [1, 1, 0, 0]) (itX Tryd.prog mode7 T_weights fuel 3 60 4 3 (roundK (evC (sub (bodyOf Tryd.prog 118) [1, 1, 1, 1, 0, 1, 0, 0])) (evC (sub (bodyOf Tryd.prog 118) [1, 1, 1, 1, 0, 1, 0, 1])) (fnX Tryd.prog mode7 T_weights fuel 21 0) #[12] 1040496 [(2, .s (.slice none 0 0)), (3, .s (.int .i64 0)), (4, .ptr 0 1 0 0), (5, .ptr 1 1 0 0), (11, .fn (.func 195) [] [.ptr 2 1 0 0])])) 0 [0, 3, 4, 5] k ⟨[(0, .yl 3), (3, .s (.int .u64 w2)), (4, .s (.int .u64 w3)), (5, .s (.int .u64 a111))], [(0, some ⟨27, .agg [.sl 4 1 0 a112], true⟩), (1, some ⟨22, .agg [.s (.int .u64 a113)], true⟩), (2, some ⟨3, .agg [.s (.int .i64 z)], true⟩), (3, none), (4, some ⟨22, .li .u64 a114, true⟩)], 5, none⟩ K) (fun (a117 : Int) (a118 : Nat) (a119 : Int) (a120 : List Int) => lpN (sub (bodyOf Tryd.prog 195) [1, 1, 0, 0]) (itX Tryd.prog mode7 T_weights fuel 3 60 4 3 (roundK (evC (sub (bodyOf Tryd.prog 118) [1, 1, 1, 1, 0, 1, 0, 0])) (evC (sub (bodyOf Tryd.prog 118) [1, 1, 1, 1, 0, 1, 0, 1])) (fnX Tryd.prog mode7 T_weights fuel 21 0) #[12] 1040496 [(2, .s (.slice none 0 0)), (3, .s (.int .i64 0)), (4, .ptr 0 1 0 0), (5, .ptr 1 1 0 0), (11, .fn (.func 195) [] [.ptr 2 1 0 0])])) 0 [0, 3, 4, 5] k ⟨[(0, .yl 3), (3, .s (.int .u64 w2)), (4, .s (.int .u64 w3)), (5, .s (.int .u64 a117))], [(0, some ⟨27, .agg [.sl 4 1 0 a118], true⟩), (1, some ⟨22, .agg [.s (.int .u64 a119)], true⟩), (2, some ⟨3, .agg [.s (.int .i64 z)], true⟩), (3, none), (4, some ⟨22, .li .u64 a120, true⟩)], 5, none⟩ K) (fun (a122 : Int) (a123 : Nat) (a124 : Int) (a125 : List Int) => lpN (sub (bodyOf Tryd.prog 195) [1, 1, 0, 0]) (itX Tryd.prog mode7 T_weights fuel 3 60 4 3 (roundK (evC (sub (bodyOf Tryd.prog 118) [1, 1, 1, 1, 0, 1, 0, 0])) (evC (sub (bodyOf Tryd.prog 118) [1, 1, 1, 1, 0, 1, 0, 1])) (fnX Tryd.prog mode7 T_weights fuel 21 0) #[12] 1040496 [(2, .s (.slice none 0 0)), (3, .s (.int .i64 0)), (4, .ptr 0 1 0 0), (5, .ptr 1 1 0 0), (11, .fn (.func 195) [] [.ptr 2 1 0 0])])) 0 [0, 3, 4, 5] k ⟨[(0, .yl 3), (3, .s (.int .u64 w2)), (4, .s (.int .u64 w3)), (5, .s (.int .u64 a122))], [(0, some ⟨27, .agg [.sl 4 1 0 a123], true⟩), (1, some ⟨22, .agg [.s (.int .u64 a124)], true⟩), (2, some ⟨3, .agg [.s (.int .i64 z)], true⟩), (3, none), (4, some ⟨22, .li .u64 a125, true⟩)], 5, none⟩ K) (fun (a126 : Int) (a127 : Nat) (a128 : Int) (a129 : List Int) => lpN (sub (bodyOf Tryd.prog 195) [1, 1, 0, 0]) (itX Tryd.prog mode7 T_weights fuel 3 60 4 3 (roundK (evC (sub (bodyOf Tryd.prog 118) [1, 1, 1, 1, 0, 1, 0, 0])) (evC (sub (bodyOf Tryd.prog 118) [1, 1, 1, 1, 0, 1, 0, 1])) (fnX Tryd.prog mode7 T_weights fuel 21 0) #[12] 1040496 [(2, .s (.slice none 0 0)), (3, .s (.int .i64 0)), (4, .ptr 0 1 0 0), (5, .ptr 1 1 0 0), (11, .fn (.func 195) [] [.ptr 2 1 0 0])])) 0 [0, 3, 4, 5] k ⟨[(0, .yl 3), (3, .s (.int .u64 w2)), (4, .s (.int .u64 w3)), (5, .s (.int .u64 a126))], [(0, some ⟨27, .agg [.sl 4 1 0 a127], true⟩), (1, some ⟨22, .agg [.s (.int .u64 a128)], true⟩), (2, some ⟨3, .agg [.s (.int .i64 z)], true⟩), (3, none), (4, some ⟨22, .li .u64 a129, true⟩)], 5, none⟩ K) (fun (a130 : Nat) (a131 : Int) (a132 : List Int) => K (.exit 0) ⟨[], [(0, some ⟨27, .agg [.sl 4 1 0 a130], true⟩), (1, some ⟨22, .agg [.s (.int .u64 a131)], true⟩), (2, some ⟨3, .agg [.s (.int .i64 z)], true⟩), (3, none), (4, some ⟨22, .li .u64 a132, true⟩)], 5, none⟩) := by kernel_rfl
noncomputable def tableF_l2 {R : Type} (fuel : Nat) (w2 : Int) (w3 : Int) (z : Int) (k0 : Nat → Int → List Int → Option R) : Nat → Int → Nat → Int → List Int → Option R
  | 0, _, _, _, _ => none
  | k + 1, w83, w84, w85, w86 =>
    (tableF_s3 w83 w2 w3 w86 w84 w85 z (fun (a102 : Int) (a103 : Nat) (a104 : Int) (a105 : List Int) => ( tableF_l2 fuel w2 w3 z k0 k a102 a103 a104 a105 )) (fun (a107 : Int) (a108 : Nat) (a109 : Int) (a110 : List Int) => ( tableF_l2 fuel w2 w3 z k0 k a107 a108 a109 a110 )) (fun (a111 : Int) (a112 : Nat) (a113 : Int) (a114 : List Int) => ( tableF_l2 fuel w2 w3 z k0 k a111 a112 a113 a114 )) (fun (a117 : Int) (a118 : Nat) (a119 : Int) (a120 : List Int) => ( tableF_l2 fuel w2 w3 z k0 k a117 a118 a119 a120 )) (fun (a122 : Int) (a123 : Nat) (a124 : Int) (a125 : List Int) => ( tableF_l2 fuel w2 w3 z k0 k a122 a123 a124 a125 )) (fun (a126 : Int) (a127 : Nat) (a128 : Int) (a129 : List Int) => ( tableF_l2 fuel w2 w3 z k0 k a126 a127 a128 a129 )) (fun (a130 : Nat) (a131 : Int) (a132 : List Int) => k0 a130 a131 a132))
theorem tableF_l2_eq (fuel : Nat) (w2 : Int) (w3 : Int) (z : Int) (K : Ex → St → Option Out) : ∀ (k : Nat) (w83 : Int) (w84 : Nat) (w85 : Int) (w86 : List Int), lpN (sub (bodyOf Tryd.prog 195) [1, 1, 0, 0]) (itX Tryd.prog mode7 T_weights fuel 3 60 4 3 (roundK (evC (sub (bodyOf Tryd.prog 118) [1, 1, 1, 1, 0, 1, 0, 0])) (evC (sub (bodyOf Tryd.prog 118) [1, 1, 1, 1, 0, 1, 0, 1])) (fnX Tryd.prog mode7 T_weights fuel 21 0) #[12] 1040496 [(2, .s (.slice none 0 0)), (3, .s (.int .i64 0)), (4, .ptr 0 1 0 0), (5, .ptr 1 1 0 0), (11, .fn (.func 195) [] [.ptr 2 1 0 0])])) 0 [0, 3, 4, 5] k ⟨[(0, .yl 3), (3, .s (.int .u64 w2)), (4, .s (.int .u64 w3)), (5, .s (.int .u64 w83))], [(0, some ⟨27, .agg [.sl 4 1 0 w84], true⟩), (1, some ⟨22, .agg [.s (.int .u64 w85)], true⟩), (2, some ⟨3, .agg [.s (.int .i64 z)], true⟩), (3, none), (4, some ⟨22, .li .u64 w86, true⟩)], 5, none⟩ K = tableF_l2 fuel w2 w3 z (fun (y95 : Nat) (y96 : Int) (y97 : List Int) => K (.exit 0) ⟨[], [(0, some ⟨27, .agg [.sl 4 1 0 y95], true⟩), (1, some ⟨22, .agg [.s (.int .u64 y96)], true⟩), (2, some ⟨3, .agg [.s (.int .i64 z)], true⟩), (3, none), (4, some ⟨22, .li .u64 y97, true⟩)], 5, none⟩) k w83 w84 w85 w86
  | 0, _, _, _, _ => rfl
  | k + 1, w83, w84, w85, w86 => by
    unfold tableF_l2
    exact (tableF_s3_eq fuel k K w83 w2 w3 w86 w84 w85 z).trans (congr (congr (congr (congr (congr (congr (congr (Eq.refl (tableF_s3 (R := Out) w83 w2 w3 w86 w84 w85 z)) (funext fun a102 => funext fun a103 => funext fun a104 => funext fun a105 => tableF_l2_eq fuel w2 w3 z K k a102 a103 a104 a105)) (funext fun a107 => funext fun a108 => funext fun a109 => funext fun a110 => tableF_l2_eq fuel w2 w3 z K k a107 a108 a109 a110)) (funext fun a111 => funext fun a112 => funext fun a113 => funext fun a114 => tableF_l2_eq fuel w2 w3 z K k a111 a112 a113 a114)) (funext fun a117 => funext fun a118 => funext fun a119 => funext fun a120 => tableF_l2_eq fuel w2 w3 z K k a117 a118 a119 a120)) (funext fun a122 => funext fun a123 => funext fun a124 => funext fun a125 => tableF_l2_eq fuel w2 w3 z K k a122 a123 a124 a125)) (funext fun a126 => funext fun a127 => funext fun a128 => funext fun a129 => tableF_l2_eq fuel w2 w3 z K k a126 a127 a128 a129)) (rfl))
noncomputable def tableF_s2 {R : Type} (w2 : Int) (w3 : Int) (z : Int) (c0 : Int → Nat → Int → List Int → Option R) (c1 : Int → Nat → Int → List Int → Option R) (c2 : Int → Nat → Int → List Int → Option R) (c3 : Option R) : Option R :=
  br (decide (1 ≤ w2))
    (bnd (divI .quo .u64 4294967296 w2) fun v74 =>
    bnd (divI .quo .u64 w2 w3) fun v75 =>
    br (decide (1 < v75))
      (bnd (divI .quo .u64 (IntKind.u64.wrap (4294967296 * w3)) (IntKind.u64.wrap (1 * w2))) fun v76 =>
      c0 2 1 (IntKind.u64.wrap (0 + (IntKind.u64.wrap (v74 + v76)))) ([(IntKind.u64.wrap (0 + (IntKind.u64.wrap (v74 + v76))))]))
      (br (1 == v75)
        (grd (decide (1 ≤ w3) && decide (w3 ≤ 8)) <|
        bnd (divI .quo .u64 (IntKind.u64.wrap ((IntKind.u64.wrap (4294967296 * w3)) * (IntKind.u64.wrap (digS w3)))) w2) fun v140 =>
        c1 2 1 (IntKind.u64.wrap (0 + (IntKind.u64.wrap (v74 + v140)))) ([(IntKind.u64.wrap (0 + (IntKind.u64.wrap (v74 + v140))))]))
        (c2 2 1 (IntKind.u64.wrap (0 + v74)) ([(IntKind.u64.wrap (0 + v74))]))))
    (c3)
theorem tableF_s2_eq (fuel : Nat) (k : Nat) (K : Ex → St → Option Out) (w2 : Int) (w3 : Int) (z : Int) : lpN (sub (bodyOf Tryd.prog 195) [1, 1, 0, 0]) (itX Tryd.prog mode7 T_weights fuel 3 60 4 3 (roundK (evC (sub (bodyOf Tryd.prog 118) [1, 1, 1, 1, 0, 1, 0, 0])) (evC (sub (bodyOf Tryd.prog 118) [1, 1, 1, 1, 0, 1, 0, 1])) (fnX Tryd.prog mode7 T_weights fuel 21 0) #[12] 1040496 [(2, .s (.slice none 0 0)), (3, .s (.int .i64 0)), (4, .ptr 0 1 0 0), (5, .ptr 1 1 0 0), (11, .fn (.func 195) [] [.ptr 2 1 0 0])])) 0 [0, 3, 4, 5] (k + 1) ⟨[(0, .yl 3), (3, .s (.int .u64 w2)), (4, .s (.int .u64 w3)), (5, .s (.int .u64 1))], [(0, some ⟨27, .agg [.s (.slice none 0 0)], true⟩), (1, some ⟨22, .agg [.s (.int .u64 0)], true⟩), (2, some ⟨3, .agg [.s (.int .i64 z)], true⟩), (3, none)], 4, none⟩ K = tableF_s2 w2 w3 z (fun (a133 : Int) (a134 : Nat) (a135 : Int) (a136 : List Int) => lpN (sub (bodyOf Tryd.prog 195) [1, 1, 0, 0]) (itX Tryd.prog mode7 T_weights fuel 3 60 4 3 (roundK (evC (sub (bodyOf Tryd.prog 118) [1, 1, 1, 1, 0, 1, 0, 0])) (evC (sub (bodyOf Tryd.prog 118) [1, 1, 1, 1, 0, 1, 0, 1])) (fnX Tryd.prog mode7 T_weights fuel 21 0) #[12] 1040496 [(2, .s (.slice none 0 0)), (3, .s (.int .i64 0)), (4, .ptr 0 1 0 0), (5, .ptr 1 1 0 0), (11, .fn (.func 195) [] [.ptr 2 1 0 0])])) 0 [0, 3, 4, 5] k ⟨[(0, .yl 3), (3, .s (.int .u64 w2)), (4, .s (.int .u64 w3)), (5, .s (.int .u64 a133))], [(0, some ⟨27, .agg [.sl 4 1 0 a134], true⟩), (1, some ⟨22, .agg [.s (.int .u64 a135)], true⟩), (2, some ⟨3, .agg [.s (.int .i64 z)], true⟩), (3, none), (4, some ⟨22, .li .u64 a136, true⟩)], 5, none⟩ K) (fun (a141 : Int) (a142 : Nat) (a143 : Int) (a144 : List Int) => lpN (sub (bodyOf Tryd.prog 195) [1, 1, 0, 0]) (itX Tryd.prog mode7 T_weights fuel 3 60 4 3 (roundK (evC (sub (bodyOf Tryd.prog 118) [1, 1, 1, 1, 0, 1, 0, 0])) (evC (sub (bodyOf Tryd.prog 118) [1, 1, 1, 1, 0, 1, 0, 1])) (fnX Tryd.prog mode7 T_weights fuel 21 0) #[12] 1040496 [(2, .s (.slice none 0 0)), (3, .s (.int .i64 0)), (4, .ptr 0 1 0 0), (5, .ptr 1 1 0 0), (11, .fn (.func 195) [] [.ptr 2 1 0 0])])) 0 [0, 3, 4, 5] k ⟨[(0, .yl 3), (3, .s (.int .u64 w2)), (4, .s (.int .u64 w3)), (5, .s (.int .u64 a141))], [(0, some ⟨27, .agg [.sl 4 1 0 a142], true⟩), (1, some ⟨22, .agg [.s (.int .u64 a143)], true⟩), (2, some ⟨3, .agg [.s (.int .i64 z)], true⟩), (3, none), (4, some ⟨22, .li .u64 a144, true⟩)], 5, none⟩ K) (fun (a148 : Int) (a149 : Nat) (a150 : Int) (a151 : List Int) => lpN (sub (bodyOf Tryd.prog 195) [1, 1, 0, 0]) (itX Tryd.prog mode7 T_weights fuel 3 60 4 3 (roundK (evC (sub (bodyOf Tryd.prog 118) [1, 1, 1, 1, 0, 1, 0, 0])) (evC (sub (bodyOf Tryd.prog 118) [1, 1, 1, 1, 0, 1, 0, 1])) (fnX Tryd.prog mode7 T_weights fuel 21 0) #[12] 1040496 [(2, .s (.slice none 0 0)), (3, .s (.int .i64 0)), (4, .ptr 0 1 0 0), (5, .ptr 1 1 0 0), (11, .fn (.func 195) [] [.ptr 2 1 0 0])])) 0 [0, 3, 4, 5] k ⟨[(0, .yl 3), (3, .s (.int .u64 w2)), (4, .s (.int .u64 w3)), (5, .s (.int .u64 a148))], [(0, some ⟨27, .agg [.sl 4 1 0 a149], true⟩), (1, some ⟨22, .agg [.s (.int .u64 a150)], true⟩), (2, some ⟨3, .agg [.s (.int .i64 z)], true⟩), (3, none), (4, some ⟨22, .li .u64 a151, true⟩)], 5, none⟩ K) (K (.exit 0) ⟨[], [(0, some ⟨27, .agg [.s (.slice none 0 0)], true⟩), (1, some ⟨22, .agg [.s (.int .u64 0)], true⟩), (2, some ⟨3, .agg [.s (.int .i64 z)], true⟩), (3, none)], 4, none⟩) := by kernel_rfl
noncomputable def tableF_l1 {R : Type} (fuel : Nat) (z : Int) (k0 : Nat → Int → List Int → Option R) (k1 : Option R) : Nat → Int → Int → Option R
  | 0, _, _ => none
  | k + 1, w2, w3 =>
    (tableF_s2 w2 w3 z (fun (a133 : Int) (a134 : Nat) (a135 : Int) (a136 : List Int) => (tableF_l2 fuel w2 w3 z (fun (x137 : Nat) (x138 : Int) (x139 : List Int) => k0 x137 x138 x139) k a133 a134 a135 a136)) (fun (a141 : Int) (a142 : Nat) (a143 : Int) (a144 : List Int) => (tableF_l2 fuel w2 w3 z (fun (x145 : Nat) (x146 : Int) (x147 : List Int) => k0 x145 x146 x147) k a141 a142 a143 a144)) (fun (a148 : Int) (a149 : Nat) (a150 : Int) (a151 : List Int) => (tableF_l2 fuel w2 w3 z (fun (x152 : Nat) (x153 : Int) (x154 : List Int) => k0 x152 x153 x154) k a148 a149 a150 a151)) (k1))
theorem tableF_l1_eq (fuel : Nat) (z : Int) (K : Ex → St → Option Out) : ∀ (k : Nat) (w2 : Int) (w3 : Int), lpN (sub (bodyOf Tryd.prog 195) [1, 1, 0, 0]) (itX Tryd.prog mode7 T_weights fuel 3 60 4 3 (roundK (evC (sub (bodyOf Tryd.prog 118) [1, 1, 1, 1, 0, 1, 0, 0])) (evC (sub (bodyOf Tryd.prog 118) [1, 1, 1, 1, 0, 1, 0, 1])) (fnX Tryd.prog mode7 T_weights fuel 21 0) #[12] 1040496 [(2, .s (.slice none 0 0)), (3, .s (.int .i64 0)), (4, .ptr 0 1 0 0), (5, .ptr 1 1 0 0), (11, .fn (.func 195) [] [.ptr 2 1 0 0])])) 0 [0, 3, 4, 5] k ⟨[(0, .yl 3), (3, .s (.int .u64 w2)), (4, .s (.int .u64 w3)), (5, .s (.int .u64 1))], [(0, some ⟨27, .agg [.s (.slice none 0 0)], true⟩), (1, some ⟨22, .agg [.s (.int .u64 0)], true⟩), (2, some ⟨3, .agg [.s (.int .i64 z)], true⟩), (3, none)], 4, none⟩ K = tableF_l1 fuel z (fun (y71 : Nat) (y72 : Int) (y73 : List Int) => K (.exit 0) ⟨[], [(0, some ⟨27, .agg [.sl 4 1 0 y71], true⟩), (1, some ⟨22, .agg [.s (.int .u64 y72)], true⟩), (2, some ⟨3, .agg [.s (.int .i64 z)], true⟩), (3, none), (4, some ⟨22, .li .u64 y73, true⟩)], 5, none⟩) (K (.exit 0) ⟨[], [(0, some ⟨27, .agg [.s (.slice none 0 0)], true⟩), (1, some ⟨22, .agg [.s (.int .u64 0)], true⟩), (2, some ⟨3, .agg [.s (.int .i64 z)], true⟩), (3, none)], 4, none⟩) k w2 w3
  | 0, _, _ => rfl
  | k + 1, w2, w3 => by
    unfold tableF_l1
    exact (tableF_s2_eq fuel k K w2 w3 z).trans (congr (congr (congr (congr (Eq.refl (tableF_s2 (R := Out) w2 w3 z)) (funext fun a133 => funext fun a134 => funext fun a135 => funext fun a136 => tableF_l2_eq fuel w2 w3 z K k a133 a134 a135 a136)) (funext fun a141 => funext fun a142 => funext fun a143 => funext fun a144 => tableF_l2_eq fuel w2 w3 z K k a141 a142 a143 a144)) (funext fun a148 => funext fun a149 => funext fun a150 => funext fun a151 => tableF_l2_eq fuel w2 w3 z K k a148 a149 a150 a151)) (rfl))
noncomputable def tableF_s4 {R : Type} (x159 : List Int) (x157 : Nat) (z : Int) (x158 : Int) (c0 : List Int → Int → Option R) : Option R :=
  c0 ((x159.drop 0).take x157) 0
theorem tableF_s4_eq (fuel : Nat)  (x159 : List Int) (x157 : Nat) (z : Int) (x158 : Int) : (kont (itX Tryd.prog mode7 T_weights fuel 3 60 4 3 (roundK (evC (sub (bodyOf Tryd.prog 118) [1, 1, 1, 1, 0, 1, 0, 0])) (evC (sub (bodyOf Tryd.prog 118) [1, 1, 1, 1, 0, 1, 0, 1])) (fnX Tryd.prog mode7 T_weights fuel 21 0) #[12] 1040496 [(2, .s (.slice none 0 0)), (3, .s (.int .i64 0)), (4, .ptr 0 1 0 0), (5, .ptr 1 1 0 0), (11, .fn (.func 195) [] [.ptr 2 1 0 0])])) (bodyOf Tryd.prog 195) [1, 1, 0] 0 (itE (behind ⟨[(2, .s (.slice none 0 0)), (3, .s (.int .i64 0)), (4, .ptr 0 1 0 0), (5, .ptr 1 1 0 0), (11, .fn (.func 195) [] [.ptr 2 1 0 0])], [(0, some ⟨27, .agg [.s (.slice none 0 0)], true⟩), (1, some ⟨22, .agg [.s (.int .u64 0)], true⟩), (2, some ⟨3, .agg [.s (.int .i64 z)], true⟩)], 3, none⟩ (kont (fnX Tryd.prog mode7 T_weights fuel 21 0) (bodyOf Tryd.prog 118) [1, 1, 1, 1, 0, 1, 0] 12 (endK Tryd.prog 0 0 118))))) (.exit 0) ⟨[], [(0, some ⟨27, .agg [.sl 4 1 0 x157], true⟩), (1, some ⟨22, .agg [.s (.int .u64 x158)], true⟩), (2, some ⟨3, .agg [.s (.int .i64 z)], true⟩), (3, none), (4, some ⟨22, .li .u64 x159, true⟩)], 5, none⟩ = tableF_s4 x159 x157 z x158 (fun (a160 : List Int) (a161 : Int) => some (.tup [.li .u64 a160, .s (.int .i64 a161)], [])) := by kernel_rfl
noncomputable def tableF_s5 {R : Type} (z : Int) (c0 : Int → Option R) : Option R :=
  c0 0
theorem tableF_s5_eq (fuel : Nat)  (z : Int) : (kont (itX Tryd.prog mode7 T_weights fuel 3 60 4 3 (roundK (evC (sub (bodyOf Tryd.prog 118) [1, 1, 1, 1, 0, 1, 0, 0])) (evC (sub (bodyOf Tryd.prog 118) [1, 1, 1, 1, 0, 1, 0, 1])) (fnX Tryd.prog mode7 T_weights fuel 21 0) #[12] 1040496 [(2, .s (.slice none 0 0)), (3, .s (.int .i64 0)), (4, .ptr 0 1 0 0), (5, .ptr 1 1 0 0), (11, .fn (.func 195) [] [.ptr 2 1 0 0])])) (bodyOf Tryd.prog 195) [1, 1, 0] 0 (itE (behind ⟨[(2, .s (.slice none 0 0)), (3, .s (.int .i64 0)), (4, .ptr 0 1 0 0), (5, .ptr 1 1 0 0), (11, .fn (.func 195) [] [.ptr 2 1 0 0])], [(0, some ⟨27, .agg [.s (.slice none 0 0)], true⟩), (1, some ⟨22, .agg [.s (.int .u64 0)], true⟩), (2, some ⟨3, .agg [.s (.int .i64 z)], true⟩)], 3, none⟩ (kont (fnX Tryd.prog mode7 T_weights fuel 21 0) (bodyOf Tryd.prog 118) [1, 1, 1, 1, 0, 1, 0] 12 (endK Tryd.prog 0 0 118))))) (.exit 0) ⟨[], [(0, some ⟨27, .agg [.s (.slice none 0 0)], true⟩), (1, some ⟨22, .agg [.s (.int .u64 0)], true⟩), (2, some ⟨3, .agg [.s (.int .i64 z)], true⟩), (3, none)], 4, none⟩ = tableF_s5 z (fun (a162 : Int) => some (.tup [.s (.slice none 0 0), .s (.int .i64 a162)], [])) := by kernel_rfl
noncomputable def tableF_s1 {R : Type} (z : Int) (c0 : Int → Option R) (c1 : Int → Int → Option R) : Option R :=
  br (!(decide (1 ≤ z) && decide (z ≤ 64)))
    (c0 2)
    (grd (decide (1 ≤ z) && decide (z ≤ 64)) <|
    c1 (IntKind.u64.wrap z) (IntKind.u64.wrap (rootS z)))
theorem tableF_s1_eq (fuel : Nat)  (z : Int) : callN Tryd.prog mode7 T_weights fuel 118 [.s (.int .i64 z)] [] = tableF_s1 z (fun (a1 : Int) => some (.tup [.s (.slice none 0 0), .s (.int .i64 a1)], [])) (fun (a155 : Int) (a156 : Int) => lpN (sub (bodyOf Tryd.prog 195) [1, 1, 0, 0]) (itX Tryd.prog mode7 T_weights fuel 3 60 4 3 (roundK (evC (sub (bodyOf Tryd.prog 118) [1, 1, 1, 1, 0, 1, 0, 0])) (evC (sub (bodyOf Tryd.prog 118) [1, 1, 1, 1, 0, 1, 0, 1])) (fnX Tryd.prog mode7 T_weights fuel 21 0) #[12] 1040496 [(2, .s (.slice none 0 0)), (3, .s (.int .i64 0)), (4, .ptr 0 1 0 0), (5, .ptr 1 1 0 0), (11, .fn (.func 195) [] [.ptr 2 1 0 0])])) 0 [0, 3, 4, 5] fuel ⟨[(0, .yl 3), (3, .s (.int .u64 a155)), (4, .s (.int .u64 a156)), (5, .s (.int .u64 1))], [(0, some ⟨27, .agg [.s (.slice none 0 0)], true⟩), (1, some ⟨22, .agg [.s (.int .u64 0)], true⟩), (2, some ⟨3, .agg [.s (.int .i64 z)], true⟩), (3, none)], 4, none⟩ (kont (itX Tryd.prog mode7 T_weights fuel 3 60 4 3 (roundK (evC (sub (bodyOf Tryd.prog 118) [1, 1, 1, 1, 0, 1, 0, 0])) (evC (sub (bodyOf Tryd.prog 118) [1, 1, 1, 1, 0, 1, 0, 1])) (fnX Tryd.prog mode7 T_weights fuel 21 0) #[12] 1040496 [(2, .s (.slice none 0 0)), (3, .s (.int .i64 0)), (4, .ptr 0 1 0 0), (5, .ptr 1 1 0 0), (11, .fn (.func 195) [] [.ptr 2 1 0 0])])) (bodyOf Tryd.prog 195) [1, 1, 0] 0 (itE (behind ⟨[(2, .s (.slice none 0 0)), (3, .s (.int .i64 0)), (4, .ptr 0 1 0 0), (5, .ptr 1 1 0 0), (11, .fn (.func 195) [] [.ptr 2 1 0 0])], [(0, some ⟨27, .agg [.s (.slice none 0 0)], true⟩), (1, some ⟨22, .agg [.s (.int .u64 0)], true⟩), (2, some ⟨3, .agg [.s (.int .i64 z)], true⟩)], 3, none⟩ (kont (fnX Tryd.prog mode7 T_weights fuel 21 0) (bodyOf Tryd.prog 118) [1, 1, 1, 1, 0, 1, 0] 12 (endK Tryd.prog 0 0 118)))))) := by kernel_rfl
noncomputable def tableF {R : Type} (fuel : Nat) (z : Int) (r0 : Int → Option R) (r1 : List Int → Int → Option R) : Option R :=
  (tableF_s1 z (fun (a1 : Int) => r0 a1) (fun (a155 : Int) (a156 : Int) => (tableF_l1 fuel z (fun (x157 : Nat) (x158 : Int) (x159 : List Int) => (tableF_s4 x159 x157 z x158 (fun (a160 : List Int) (a161 : Int) => r1 a160 a161))) ((tableF_s5 z (fun (a162 : Int) => r0 a162))) fuel a155 a156)))
theorem tableF_eq (fuel : Nat) (z : Int) : callN Tryd.prog mode7 T_weights fuel 118 [.s (.int .i64 z)] [] = tableF fuel z (fun (z0 : Int) => some (.tup [.s (.slice none 0 0), .s (.int .i64 z0)], [])) (fun (z0 : List Int) (z1 : Int) => some (.tup [.li .u64 z0, .s (.int .i64 z1)], [])) := by
  unfold tableF
  exact (tableF_s1_eq fuel  z).trans (congr (congr (Eq.refl (tableF_s1 (R := Out) z)) (rfl)) (funext fun a155 => funext fun a156 => (tableF_l1_eq fuel z (kont (itX Tryd.prog mode7 T_weights fuel 3 60 4 3 (roundK (evC (sub (bodyOf Tryd.prog 118) [1, 1, 1, 1, 0, 1, 0, 0])) (evC (sub (bodyOf Tryd.prog 118) [1, 1, 1, 1, 0, 1, 0, 1])) (fnX Tryd.prog mode7 T_weights fuel 21 0) #[12] 1040496 [(2, .s (.slice none 0 0)), (3, .s (.int .i64 0)), (4, .ptr 0 1 0 0), (5, .ptr 1 1 0 0), (11, .fn (.func 195) [] [.ptr 2 1 0 0])])) (bodyOf Tryd.prog 195) [1, 1, 0] 0 (itE (behind ⟨[(2, .s (.slice none 0 0)), (3, .s (.int .i64 0)), (4, .ptr 0 1 0 0), (5, .ptr 1 1 0 0), (11, .fn (.func 195) [] [.ptr 2 1 0 0])], [(0, some ⟨27, .agg [.s (.slice none 0 0)], true⟩), (1, some ⟨22, .agg [.s (.int .u64 0)], true⟩), (2, some ⟨3, .agg [.s (.int .i64 z)], true⟩)], 3, none⟩ (kont (fnX Tryd.prog mode7 T_weights fuel 21 0) (bodyOf Tryd.prog 118) [1, 1, 1, 1, 0, 1, 0] 12 (endK Tryd.prog 0 0 118))))) fuel a155 a156).trans (congrFun (congrFun (congrFun (congr (congr (Eq.refl (tableF_l1 (R := Out) fuel z)) (funext fun x157 => funext fun x158 => funext fun x159 => (tableF_s4_eq fuel  x159 x157 z x158))) ((tableF_s5_eq fuel  z))) fuel) a155) a156)))
theorem table_loop {R : Type} (fuel : Nat) (z : Int) (hk : 1 ≤ z) (hk2 : z ≤ 64) (k0 : Nat → Int → List Int → Option R) : ∀ (k j : Nat), (j : Int) ≤ z → z < (j : Int) + k → tableF_l2 fuel z (rootS z) z k0 k ((j : Int) + 1) j (sumN z j) (tabN z j) = k0 z.toNat (sumN z z.toNat) (tabN z z.toNat)
  | 0, j, h1, h2 => by omega
  | k + 1, j, h1, h2 => by
    unfold tableF_l2 tableF_s3
    rw [br_if]
    by_cases hc : (j : Int) + 1 ≤ z
    · have ih := table_loop fuel z hk hk2 k0 k (j + 1) (by omega) (by omega)
      obtain ⟨d, hd⟩ : ∃ d : Int, d = (j : Int) + 1 := ⟨_, rfl⟩
      have hs := sum_range hk hk2 j (by omega)
      have hr := root_range hk hk2
      have hdg := dig_range hr.1 hr.2
      have hw := weight_range hk hk2 (d := d) (by omega) (by omega)
      have hsum : sumN z (j + 1) = sumN z j + weightS z d := by rw [sumN, hd]
      have htab := tab_succ z j
      rw [hsum] at htab ih
      rw [htab] at ih
      have hnx : IntKind.u64.wrap (d + 1) = ((j + 1 : Nat) : Int) + 1 := by rw [wrap_u64 (by omega) (by omega)]; omega
      have hlen : (tabN z j ++ [sumN z j + weightS z d]).length = j + 1 := by rw [List.length_append, tab_len]; rfl
      have hbeq : Nat.beq (tabN z j).length j = true := by rw [tab_len]; exact beq_self _
      have hok : okN (j + 1) 8 = true := okN_of (by omega) (by omega)
      rw [if_pos (by simpa using hc), ← hd]
      have hW : weightS z d = weightI z d := by rw [weightS_eq]
      rw [hW] at hw hsum htab ih hlen
      unfold weightI at hw hsum htab ih hlen
      generalize rootS z = r at *
      generalize digS r = g at *
      generalize sumN z j = sm at *
      generalize tabN z j = tb at *
      have m1 := mul_small (show 1 ≤ d by omega) (show d ≤ 64 by omega) hk hk2
      have hm2 := Int.mul_le_mul hr.2 hdg.2 (by omega) (show (0 : Int) ≤ 8 by decide)
      have hm := mul_small (a := r) (b := g) hr.1 (by omega) hdg.1 (by omega)
      have e2 : IntKind.u64.wrap (4294967296 * r) = 4294967296 * r := wrap_u64 (by omega) (by omega)
      have e3 : IntKind.u64.wrap g = g := wrap_u64 (by omega) (by omega)
      have e4 : IntKind.u64.wrap (4294967296 * r * g) = 4294967296 * r * g := by rw [Int.mul_assoc]; exact wrap_u64 (by omega) (by omega)
      have e5 : IntKind.u64.wrap (d * z) = d * z := wrap_u64 (by omega) (by omega)
      have q1 : divI .quo .u64 z r = some (z / r) := quo_u64 (by omega) (by omega) (by omega)
      have q2 : divI .quo .u64 4294967296 z = some (4294967296 / z) := quo_u64 (by decide) (by decide) (by omega)
      have q3 : divI .quo .u64 (4294967296 * r) (d * z) = some (4294967296 * r / (d * z)) := quo_u64 (by omega) (by omega) (by omega)
      have q4 : divI .quo .u64 (4294967296 * r * g) z = some (4294967296 * r * g / z) := by rw [Int.mul_assoc]; exact quo_u64 (by omega) (by omega) (by omega)
      have a2 := div_small (a := 4294967296 * r) (b := d * z) (by omega) m1.1
      have a3 := div_small (a := 4294967296 * r * g) (b := z) (by rw [Int.mul_assoc]; omega) hk
      have a1 := div_small (a := 4294967296) (by decide) hk
      rw [Int.mul_assoc] at a3
      have hgr : (decide (1 ≤ r) && decide (r ≤ 8)) = true := by simp; omega
      simp only [e2, e3, e4, e5, q1, q2, q3, q4, bnd_some, grd_of hgr, br_if, decide_eq_true_eq, beq_iff_eq, grd_of hbeq, grd_of hok, hnx]
      rw [Int.mul_assoc 4294967296 r g] at *
      generalize hp : z / r = p at *
      generalize 4294967296 * r / (d * z) = x at *
      generalize 4294967296 * (r * g) / z = y at *
      generalize 4294967296 / z = u at *
      by_cases hd1 : d > 1
      · have m2 := mul_small (show 1 ≤ d by omega) (show d ≤ 64 by omega) (show 1 ≤ d - 1 by omega) (by omega)
        have e6 : IntKind.u64.wrap (d * IntKind.u64.wrap (d - 1)) = d * (d - 1) := by rw [wrap_u64 (x := d - 1) (by omega) (by omega), wrap_u64 (by omega) (by omega)]
        have q5 : divI .quo .u64 4294967296 (d * (d - 1)) = some (4294967296 / (d * (d - 1))) := quo_u64 (by decide) (by decide) (by omega)
        have a4 := div_small (a := 4294967296) (b := d * (d - 1)) (by decide) m2.1
        simp only [if_pos hd1, e6, q5, bnd_some] at hw ih hlen ⊢
        generalize 4294967296 / (d * (d - 1)) = v at *
        by_cases h1 : d < p
        · simp only [if_pos h1] at hw ih hlen ⊢
          rw [wrap_u64 (x := v + x) (by omega) (by omega), wrap_u64 (by omega) (by omega), hlen]
          exact ih
        · by_cases h2 : d = p
          · simp only [if_neg h1, if_pos h2] at hw ih hlen ⊢
            rw [wrap_u64 (x := v + y) (by omega) (by omega), wrap_u64 (by omega) (by omega), hlen]
            exact ih
          · simp only [if_neg h1, if_neg h2, Int.add_zero] at hw ih hlen ⊢
            rw [wrap_u64 (by omega) (by omega), hlen]
            exact ih
      · simp only [if_neg hd1] at hw ih hlen ⊢
        by_cases h1 : d < p
        · simp only [if_pos h1] at hw ih hlen ⊢
          rw [wrap_u64 (x := u + x) (by omega) (by omega), wrap_u64 (by omega) (by omega), hlen]
          exact ih
        · by_cases h2 : d = p
          · simp only [if_neg h1, if_pos h2] at hw ih hlen ⊢
            rw [wrap_u64 (x := u + y) (by omega) (by omega), wrap_u64 (by omega) (by omega), hlen]
            exact ih
          · simp only [if_neg h1, if_neg h2, Int.add_zero] at hw ih hlen ⊢
            rw [wrap_u64 (by omega) (by omega), hlen]
            exact ih
    · rw [if_neg (by simpa using hc), show z.toNat = j by omega]
theorem table_fact (z : Int) : Fact Tryd.prog gTab 118 [.s (.int .i64 z)] [] (.tup [.li .u64 (if (decide (1 ≤ z) && decide (z ≤ 64)) = true then tabS z else []), .s (.int .i64 (if (decide (1 ≤ z) && decide (z ≤ 64)) = true then 0 else 2))], []) := by
  by_cases hk : (decide (1 ≤ z) && decide (z ≤ 64)) = true
  · have hk' := hk
    simp only [Bool.and_eq_true, decide_eq_true_eq] at hk'
    obtain ⟨hk1, hk2⟩ := hk'
    rw [hk, if_pos rfl, if_pos rfl]
    obtain ⟨F, hF⟩ : ∃ F : Nat, F = 99 := ⟨_, rfl⟩
    refine callN_fact hN hM T_weights_ok (n := F + 1) (mode := mode7) ?_
    rw [tableF_eq]
    unfold tableF tableF_s1
    have hr := root_range hk1 hk2
    rw [hk, br_if, if_neg (by decide), grd_tt, wrap_u64 (x := z) (by omega) (by omega), wrap_u64 (x := rootS z) (by omega) (by omega)]
    dsimp only
    unfold tableF_l1 tableF_s2
    dsimp only
    have hl := fun k0 => table_loop (R := Out) (F + 1) z hk1 hk2 k0 F 1 (by omega) (by omega)
    have hdg := dig_range hr.1 hr.2
    have hw := weight_range hk1 hk2 (d := 1) (by omega) (by omega)
    have hsum : sumN z 1 = weightS z 1 := by show 0 + weightS z (((0 : Nat) : Int) + 1) = _; simp
    have htab : tabN z 1 = [weightS z 1] := by rw [tab_succ, hsum]; rfl
    rw [htab, hsum, show ((1 : Nat) : Int) + 1 = 2 from rfl] at hl
    have htz : tabS z = tabN z z.toNat := by rw [tabS_eq]; rfl
    rw [htz]
    have hW : weightS z 1 = weightI z 1 := by rw [weightS_eq]
    rw [hW] at hw hl
    unfold weightI at hw hl
    rw [if_neg (by decide)] at hw hl
    generalize rootS z = r at *
    generalize digS r = g at *
    have hm2 := Int.mul_le_mul hr.2 hdg.2 (by omega) (show (0 : Int) ≤ 8 by decide)
    have hm := mul_small (a := r) (b := g) hr.1 (by omega) hdg.1 (by omega)
    have e2 : IntKind.u64.wrap (4294967296 * r) = 4294967296 * r := wrap_u64 (by omega) (by omega)
    have e3 : IntKind.u64.wrap g = g := wrap_u64 (by omega) (by omega)
    have e4 : IntKind.u64.wrap (4294967296 * r * g) = 4294967296 * r * g := by rw [Int.mul_assoc]; exact wrap_u64 (by omega) (by omega)
    have e5 : IntKind.u64.wrap (1 * z) = 1 * z := wrap_u64 (by omega) (by omega)
    have q1 : divI .quo .u64 z r = some (z / r) := quo_u64 (by omega) (by omega) (by omega)
    have q2 : divI .quo .u64 4294967296 z = some (4294967296 / z) := quo_u64 (by decide) (by decide) (by omega)
    have q3 : divI .quo .u64 (4294967296 * r) (1 * z) = some (4294967296 * r / (1 * z)) := quo_u64 (by omega) (by omega) (by omega)
    have q4 : divI .quo .u64 (4294967296 * r * g) z = some (4294967296 * r * g / z) := by rw [Int.mul_assoc]; exact quo_u64 (by omega) (by omega) (by omega)
    have a2 := div_small (a := 4294967296 * r) (b := 1 * z) (by omega) (by omega)
    have a3 := div_small (a := 4294967296 * r * g) (b := z) (by rw [Int.mul_assoc]; omega) hk1
    have a1 := div_small (a := 4294967296) (by decide) hk1
    rw [Int.mul_assoc] at a3
    have hgr : (decide (1 ≤ r) && decide (r ≤ 8)) = true := by simp; omega
    rw [br_if, if_pos (by simpa using hk1)]
    simp only [e2, e3, e4, e5, q1, q2, q3, q4, bnd_some, grd_of hgr, br_if, decide_eq_true_eq, beq_iff_eq]
    rw [Int.mul_assoc 4294967296 r g] at *
    generalize hp : z / r = p at *
    generalize 4294967296 * r / (1 * z) = x at *
    generalize 4294967296 * (r * g) / z = y at *
    generalize 4294967296 / z = u at *
    have hend : ∀ (s : Int), tableF_s4 (R := Out) (tabN z z.toNat) z.toNat z s (fun z0 z1 => some (.tup [.li .u64 z0, .s (.int .i64 z1)], [])) = some (.tup [.li .u64 (tabN z z.toNat), .s (.int .i64 0)], []) := fun s => by
      unfold tableF_s4
      rw [List.drop_zero, List.take_of_length_le (by rw [tab_len]; omega)]
    by_cases h1 : 1 < p
    · simp only [if_pos h1] at hw hl ⊢
      rw [wrap_u64 (x := u + x) (by omega) (by omega), wrap_u64 (by omega) (by omega), Int.zero_add, hl]
      exact hend _
    · by_cases h2 : 1 = p
      · simp only [if_neg h1, if_pos h2] at hw hl ⊢
        rw [wrap_u64 (x := u + y) (by omega) (by omega), wrap_u64 (by omega) (by omega), Int.zero_add, hl]
        exact hend _
      · simp only [if_neg h1, if_neg h2, Int.add_zero] at hw hl ⊢
        rw [wrap_u64 (by omega) (by omega), Int.zero_add, hl]
        exact hend _
  · rw [if_neg hk, if_neg hk]
    refine Fact.out (v := .tup [.s (.slice none 0 0), .s (.int .i64 2)]) (bs' := []) ?_ (fun _ _ _ x h => RV_tup_two (fun _ h => RVs_two (fun _ h => RV_nil_li h) (fun _ h => h) h) h)
    refine callN_fact hN hM T_weights_ok (n := 0) (mode := mode7) ?_
    rw [tableF_eq]
    unfold tableF tableF_s1
    rw [Bool.eq_false_iff.2 hk, br_if, if_pos (by decide)]
noncomputable def table_ent : List V → List Blk → Option (Bool × Out)
  | [.s (.int .i64 z)], [] => some (true, (.tup [.li .u64 (if (decide (1 ≤ z) && decide (z ≤ 64)) = true then tabS z else []), .s (.int .i64 (if (decide (1 ≤ z) && decide (z ≤ 64)) = true then 0 else 2))], []))
  | _, _ => none
theorem table_ok : ∀ args bs out, table_ent args bs = some (true, out) → Fact Tryd.prog gTab 118 args bs out := by
  intro args bs out h
  unfold table_ent at h
  split at h
  · rename_i z
    simp only [Option.some.injEq, Prod.mk.injEq] at h
    obtain ⟨_, rfl⟩ := h
    exact table_fact z
  · cases h
noncomputable def T_table : Tbl := Tbl.cons 118 table_ent T_weights
theorem T_table_ok : CallOk Tryd.prog gTab T_table := cons_ok T_weights_ok table_ok
def mode8 : FuncId → Nat := fun f => 0
/-! What is picked of a table. -/
def risesI (l : List Int) : Bool := decide (l.Pairwise (· < ·)) && l.all fun x => decide (0 < x) && decide (x < 18446744073709551616)
noncomputable def risesS : List Int → Bool := Classical.choose (⟨risesI, rfl⟩ : ∃ f, f = risesI)
theorem risesS_eq : risesS = risesI := Classical.choose_spec (⟨risesI, rfl⟩ : ∃ f, f = risesI)
theorem rises_iff {l : List Int} : risesS l = true ↔ l.Pairwise (· < ·) ∧ ∀ x ∈ l, 0 < x ∧ x < 18446744073709551616 := by rw [risesS_eq]; unfold risesI; simp
def aboveI (l : List Int) (x i : Int) : Bool := decide (x < l.getD i.toNat 0)
noncomputable def aboveS : List Int → Int → Int → Bool := Classical.choose (⟨aboveI, rfl⟩ : ∃ f, f = aboveI)
theorem aboveS_eq : aboveS = aboveI := Classical.choose_spec (⟨aboveI, rfl⟩ : ∃ f, f = aboveI)
/-- The place of the first one that is above x; the length, if none is. -/
def placeN : List Int → Int → Nat
  | [], _ => 0
  | y :: l, x => if x < y then 0 else placeN l x + 1
noncomputable def placeI (l : List Int) (x : Int) : Int := (placeN l x : Nat)
noncomputable def placeS : List Int → Int → Int := Classical.choose (⟨placeI, rfl⟩ : ∃ f, f = placeI)
theorem placeS_eq : placeS = placeI := Classical.choose_spec (⟨placeI, rfl⟩ : ∃ f, f = placeI)
theorem placeN_le : ∀ (l : List Int) (x : Int), placeN l x ≤ l.length
  | [], x => by simp [placeN]
  | y :: l, x => by
    have := placeN_le l x
    rw [placeN, List.length_cons]; split <;> omega
/-- All below the place are not above x. -/
theorem placeN_below : ∀ (l : List Int) (x : Int) (i : Nat), i < placeN l x → l.getD i 0 ≤ x
  | [], x, i, h => by simp [placeN] at h
  | y :: l, x, i, h => by
    rw [placeN] at h
    split at h
    · omega
    · cases i with
      | zero => show y ≤ x; omega
      | succ i => exact placeN_below l x i (by omega)
/-- The one at the place is above x. -/
theorem placeN_at : ∀ (l : List Int) (x : Int), placeN l x < l.length → x < l.getD (placeN l x) 0
  | [], x, h => by simp at h
  | y :: l, x, h => by
    rw [placeN] at h ⊢
    split
    · rename_i hc; exact hc
    · rename_i hc
      rw [if_neg hc] at h
      exact placeN_at l x (by simpa using h)
theorem getD_rise {l : List Int} (h : l.Pairwise (· < ·)) {i j : Nat} (hij : i < j) (hj : j < l.length) : l.getD i 0 < l.getD j 0 := by
  rw [List.getD_eq_getElem?_getD, List.getD_eq_getElem?_getD, List.getElem?_eq_getElem hj, List.getElem?_eq_getElem (by omega)]
  exact List.pairwise_iff_getElem.1 h i j (by omega) hj hij
/-- So the place is known by its neighbours. -/
theorem placeN_of {l : List Int} (hr : l.Pairwise (· < ·)) {x : Int} {i : Nat} (hi : i ≤ l.length) (h1 : ∀ k, k < i → l.getD k 0 ≤ x) (h2 : i < l.length → x < l.getD i 0) : placeN l x = i := by
  have a := placeN_le l x
  rcases Nat.lt_trichotomy (placeN l x) i with h | h | h
  · have := placeN_at l x (by omega)
    have := h1 _ h
    omega
  · exact h
  · have := placeN_below l x i h
    have := h2 (by omega)
    omega
noncomputable def chosenI (l : List Int) (n : Int) : Int := (placeN l (n % l.getD (l.length - 1) 0) : Nat) + 1
noncomputable def chosenS : List Int → Int → Int := Classical.choose (⟨chosenI, rfl⟩ : ∃ f, f = chosenI)
theorem chosenS_eq : chosenS = chosenI := Classical.choose_spec (⟨chosenI, rfl⟩ : ∃ f, f = chosenI)
theorem getD_get {l : List Int} {i : Nat} (h : i < l.length) : l[i]? = some (l.getD i 0) := by rw [List.getD_eq_getElem?_getD, List.getElem?_eq_getElem h]; rfl
theorem getD_mem {l : List Int} {i : Nat} (h : i < l.length) : l.getD i 0 ∈ l := by rw [List.getD_eq_getElem?_getD, List.getElem?_eq_getElem h]; exact List.getElem_mem h
def mode9 : FuncId → Nat := fun f => bif Nat.beq f 174 then 2 else bif Nat.beq f 175 then 2 else 0
/-! downpour/degree.Pick$1 -/
noncomputable def pick1F_s1 {R : Type} (l : List Int) (i : Int) (x : Int) (c0 : Bool → List Int → Int → Option R) : Option R :=
  bnd (ix l i) fun e1 =>
  c0 (decide (e1 > x)) l x
theorem pick1F_s1_eq (fuel : Nat)  (l : List Int) (i : Int) (x : Int) : callN Tryd.prog mode9 T_table fuel 175 [.s (.int .i64 i), .ptr 0 1 0 0, .ptr 1 1 0 0] [⟨27, .agg [.li .u64 l], true⟩, ⟨22, .agg [.s (.int .u64 x)], true⟩] = pick1F_s1 l i x (fun (a2 : Bool) (a3 : List Int) (a4 : Int) => some (.s (.bool a2), [some ⟨27, .agg [.li .u64 a3], true⟩, some ⟨22, .agg [.s (.int .u64 a4)], true⟩])) := by kernel_rfl
noncomputable def pick1F {R : Type} (fuel : Nat) (i : Int) (l : List Int) (x : Int) (r0 : Bool → List Int → Int → Option R) : Option R :=
  (pick1F_s1 l i x (fun (a2 : Bool) (a3 : List Int) (a4 : Int) => r0 a2 a3 a4))
theorem pick1F_eq (fuel : Nat) (i : Int) (l : List Int) (x : Int) : callN Tryd.prog mode9 T_table fuel 175 [.s (.int .i64 i), .ptr 0 1 0 0, .ptr 1 1 0 0] [⟨27, .agg [.li .u64 l], true⟩, ⟨22, .agg [.s (.int .u64 x)], true⟩] = pick1F fuel i l x (fun (z0 : Bool) (z1 : List Int) (z2 : Int) => some (.s (.bool z0), [some ⟨27, .agg [.li .u64 z1], true⟩, some ⟨22, .agg [.s (.int .u64 z2)], true⟩])) := by
  unfold pick1F
  exact (pick1F_s1_eq fuel  l i x)
theorem pick1_fact (i : Int) (l : List Int) (x : Int) (hg : (decide (0 ≤ i) && decide (i < (l.length : Int))) = true) : Fact Tryd.prog gTab 175 [.s (.int .i64 i), .ptr 0 1 0 0, .ptr 1 1 0 0] [⟨27, .agg [.li .u64 l], true⟩, ⟨22, .agg [.s (.int .u64 x)], true⟩] (.s (.bool (aboveS l x i)), [some ⟨27, .agg [.li .u64 l], true⟩, some ⟨22, .agg [.s (.int .u64 x)], true⟩]) := by
  simp only [Bool.and_eq_true, decide_eq_true_eq] at hg
  refine callN_fact hN hM T_table_ok (n := 0) (mode := mode9) ?_
  rw [pick1F_eq]
  unfold pick1F pick1F_s1
  obtain ⟨j, rfl⟩ : ∃ j : Nat, i = (j : Int) := ⟨i.toNat, by omega⟩
  have hj : j < l.length := by omega
  rw [bnd_of ((ix_nat l j).trans (List.getElem?_eq_getElem hj)), aboveS_eq]
  unfold aboveI
  rw [Int.toNat_natCast, List.getD_eq_getElem?_getD, List.getElem?_eq_getElem hj]
  rfl
noncomputable def pick1_ent : List V → List Blk → Option (Bool × Out)
  | [.s (.int .i64 i), .ptr 0 1 0 0, .ptr 1 1 0 0], [⟨27, .agg [.li .u64 l], true⟩, ⟨22, .agg [.s (.int .u64 x)], true⟩] => some ((decide (0 ≤ i) && decide (i < (l.length : Int))), (.s (.bool (aboveS l x i)), [some ⟨27, .agg [.li .u64 l], true⟩, some ⟨22, .agg [.s (.int .u64 x)], true⟩]))
  | _, _ => none
theorem pick1_ok : ∀ args bs out, pick1_ent args bs = some (true, out) → Fact Tryd.prog gTab 175 args bs out := by
  intro args bs out h
  unfold pick1_ent at h
  split at h
  · rename_i i l x
    simp only [Option.some.injEq, Prod.mk.injEq] at h
    obtain ⟨hg, rfl⟩ := h
    exact pick1_fact i l x hg
  · cases h
noncomputable def T_pick1 : Tbl := Tbl.cons 175 pick1_ent T_table
theorem T_pick1_ok : CallOk Tryd.prog gTab T_pick1 := cons_ok T_table_ok pick1_ok
/-! sort.Search -/
noncomputable def searchF_s2 {R : Type} (w2 : Int) (w3 : Int) (l : List Int) (x : Int) (c0 : Int → Int → Option R) (c1 : Int → Int → Option R) (c2 : Int → Option R) : Option R :=
  br (decide (w2 < w3))
    (bnd (shfI .shr .u64 (IntKind.u64.wrap (IntKind.i64.wrap (w2 + w3))) 1) fun v6 =>
    grd (decide (0 ≤ (IntKind.i64.wrap v6)) && decide ((IntKind.i64.wrap v6) < (l.length : Int))) <|
    br (!(aboveS l x (IntKind.i64.wrap v6)))
      (c0 (IntKind.i64.wrap ((IntKind.i64.wrap v6) + 1)) w3)
      (c1 w2 (IntKind.i64.wrap v6)))
    (c2 w2)
theorem searchF_s2_eq (fuel : Nat) (k : Nat) (K : Ex → St → Option Out) (w2 : Int) (w3 : Int) (l : List Int) (x : Int) : lpN (sub (bodyOf Tryd.prog 174) [1, 1, 0, 0, 0]) (fnX Tryd.prog mode9 T_pick1 fuel 26 2) 33554480 [1, 4, 5, 6] (k + 1) ⟨[(1, .fn (.func 175) [] [.ptr 0 1 0 0, .ptr 1 1 0 0]), (4, .s (.int .i64 0)), (5, .s (.int .i64 w2)), (6, .s (.int .i64 w3))], [(0, some ⟨27, .agg [.li .u64 l], true⟩), (1, some ⟨22, .agg [.s (.int .u64 x)], true⟩)], 2, none⟩ K = searchF_s2 w2 w3 l x (fun (a7 : Int) (a8 : Int) => lpN (sub (bodyOf Tryd.prog 174) [1, 1, 0, 0, 0]) (fnX Tryd.prog mode9 T_pick1 fuel 26 2) 33554480 [1, 4, 5, 6] k ⟨[(1, .fn (.func 175) [] [.ptr 0 1 0 0, .ptr 1 1 0 0]), (4, .s (.int .i64 0)), (5, .s (.int .i64 a7)), (6, .s (.int .i64 a8))], [(0, some ⟨27, .agg [.li .u64 l], true⟩), (1, some ⟨22, .agg [.s (.int .u64 x)], true⟩)], 2, none⟩ K) (fun (a9 : Int) (a10 : Int) => lpN (sub (bodyOf Tryd.prog 174) [1, 1, 0, 0, 0]) (fnX Tryd.prog mode9 T_pick1 fuel 26 2) 33554480 [1, 4, 5, 6] k ⟨[(1, .fn (.func 175) [] [.ptr 0 1 0 0, .ptr 1 1 0 0]), (4, .s (.int .i64 0)), (5, .s (.int .i64 a9)), (6, .s (.int .i64 a10))], [(0, some ⟨27, .agg [.li .u64 l], true⟩), (1, some ⟨22, .agg [.s (.int .u64 x)], true⟩)], 2, none⟩ K) (fun (a11 : Int) => K (.exit 0) ⟨[(4, .s (.int .i64 0)), (5, .s (.int .i64 a11))], [(0, some ⟨27, .agg [.li .u64 l], true⟩), (1, some ⟨22, .agg [.s (.int .u64 x)], true⟩)], 2, none⟩) := by kernel_rfl
noncomputable def searchF_l1 {R : Type} (fuel : Nat) (l : List Int) (x : Int) (k0 : Int → Option R) : Nat → Int → Int → Option R
  | 0, _, _ => none
  | k + 1, w2, w3 =>
    (searchF_s2 w2 w3 l x (fun (a7 : Int) (a8 : Int) => ( searchF_l1 fuel l x k0 k a7 a8 )) (fun (a9 : Int) (a10 : Int) => ( searchF_l1 fuel l x k0 k a9 a10 )) (fun (a11 : Int) => k0 a11))
theorem searchF_l1_eq (fuel : Nat) (l : List Int) (x : Int) (K : Ex → St → Option Out) : ∀ (k : Nat) (w2 : Int) (w3 : Int), lpN (sub (bodyOf Tryd.prog 174) [1, 1, 0, 0, 0]) (fnX Tryd.prog mode9 T_pick1 fuel 26 2) 33554480 [1, 4, 5, 6] k ⟨[(1, .fn (.func 175) [] [.ptr 0 1 0 0, .ptr 1 1 0 0]), (4, .s (.int .i64 0)), (5, .s (.int .i64 w2)), (6, .s (.int .i64 w3))], [(0, some ⟨27, .agg [.li .u64 l], true⟩), (1, some ⟨22, .agg [.s (.int .u64 x)], true⟩)], 2, none⟩ K = searchF_l1 fuel l x (fun (y5 : Int) => K (.exit 0) ⟨[(4, .s (.int .i64 0)), (5, .s (.int .i64 y5))], [(0, some ⟨27, .agg [.li .u64 l], true⟩), (1, some ⟨22, .agg [.s (.int .u64 x)], true⟩)], 2, none⟩) k w2 w3
  | 0, _, _ => rfl
  | k + 1, w2, w3 => by
    unfold searchF_l1
    exact (searchF_s2_eq fuel k K w2 w3 l x).trans (congr (congr (congr (Eq.refl (searchF_s2 (R := Out) w2 w3 l x)) (funext fun a7 => funext fun a8 => searchF_l1_eq fuel l x K k a7 a8)) (funext fun a9 => funext fun a10 => searchF_l1_eq fuel l x K k a9 a10)) (rfl))
noncomputable def searchF_s3 {R : Type} (x14 : Int) (l : List Int) (x : Int) (c0 : Int → List Int → Int → Option R) : Option R :=
  c0 x14 l x
theorem searchF_s3_eq (fuel : Nat)  (x14 : Int) (l : List Int) (x : Int) : (kont (fnX Tryd.prog mode9 T_pick1 fuel 26 2) (bodyOf Tryd.prog 174) [1, 1, 0, 0] 16 (endK Tryd.prog 2 2 174)) (.exit 0) ⟨[(4, .s (.int .i64 0)), (5, .s (.int .i64 x14))], [(0, some ⟨27, .agg [.li .u64 l], true⟩), (1, some ⟨22, .agg [.s (.int .u64 x)], true⟩)], 2, none⟩ = searchF_s3 x14 l x (fun (a15 : Int) (a16 : List Int) (a17 : Int) => some (.s (.int .i64 a15), [some ⟨27, .agg [.li .u64 a16], true⟩, some ⟨22, .agg [.s (.int .u64 a17)], true⟩])) := by kernel_rfl
noncomputable def searchF_s1 {R : Type} (n : Int) (l : List Int) (x : Int) (c0 : Int → Int → Option R) : Option R :=
  c0 0 n
theorem searchF_s1_eq (fuel : Nat)  (n : Int) (l : List Int) (x : Int) : callN Tryd.prog mode9 T_pick1 fuel 174 [.s (.int .i64 n), .fn (.func 175) [] [.ptr 0 1 0 0, .ptr 1 1 0 0]] [⟨27, .agg [.li .u64 l], true⟩, ⟨22, .agg [.s (.int .u64 x)], true⟩] = searchF_s1 n l x (fun (a12 : Int) (a13 : Int) => lpN (sub (bodyOf Tryd.prog 174) [1, 1, 0, 0, 0]) (fnX Tryd.prog mode9 T_pick1 fuel 26 2) 33554480 [1, 4, 5, 6] fuel ⟨[(1, .fn (.func 175) [] [.ptr 0 1 0 0, .ptr 1 1 0 0]), (4, .s (.int .i64 0)), (5, .s (.int .i64 a12)), (6, .s (.int .i64 a13))], [(0, some ⟨27, .agg [.li .u64 l], true⟩), (1, some ⟨22, .agg [.s (.int .u64 x)], true⟩)], 2, none⟩ (kont (fnX Tryd.prog mode9 T_pick1 fuel 26 2) (bodyOf Tryd.prog 174) [1, 1, 0, 0] 16 (endK Tryd.prog 2 2 174))) := by kernel_rfl
noncomputable def searchF {R : Type} (fuel : Nat) (n : Int) (l : List Int) (x : Int) (r0 : Int → List Int → Int → Option R) : Option R :=
  (searchF_s1 n l x (fun (a12 : Int) (a13 : Int) => (searchF_l1 fuel l x (fun (x14 : Int) => (searchF_s3 x14 l x (fun (a15 : Int) (a16 : List Int) (a17 : Int) => r0 a15 a16 a17))) fuel a12 a13)))
theorem searchF_eq (fuel : Nat) (n : Int) (l : List Int) (x : Int) : callN Tryd.prog mode9 T_pick1 fuel 174 [.s (.int .i64 n), .fn (.func 175) [] [.ptr 0 1 0 0, .ptr 1 1 0 0]] [⟨27, .agg [.li .u64 l], true⟩, ⟨22, .agg [.s (.int .u64 x)], true⟩] = searchF fuel n l x (fun (z0 : Int) (z1 : List Int) (z2 : Int) => some (.s (.int .i64 z0), [some ⟨27, .agg [.li .u64 z1], true⟩, some ⟨22, .agg [.s (.int .u64 z2)], true⟩])) := by
  unfold searchF
  exact (searchF_s1_eq fuel  n l x).trans (congr (Eq.refl (searchF_s1 (R := Out) n l x)) (funext fun a12 => funext fun a13 => (searchF_l1_eq fuel l x (kont (fnX Tryd.prog mode9 T_pick1 fuel 26 2) (bodyOf Tryd.prog 174) [1, 1, 0, 0] 16 (endK Tryd.prog 2 2 174)) fuel a12 a13).trans (congrFun (congrFun (congrFun (congr (Eq.refl (searchF_l1 (R := Out) fuel l x)) (funext fun x14 => (searchF_s3_eq fuel  x14 l x))) fuel) a12) a13)))
theorem search_loop {R : Type} (fuel : Nat) (l : List Int) (x : Int) (hr : l.Pairwise (· < ·)) (hl : l.length ≤ 64) (k0 : Int → Option R) : ∀ (k i j : Nat), i ≤ j → j ≤ l.length → j < i + k → (∀ t, t < i → l.getD t 0 ≤ x) → (j < l.length → x < l.getD j 0) → searchF_l1 fuel l x k0 k (i : Int) (j : Int) = k0 (placeS l x)
  | 0, i, j, h1, h2, h3, _, _ => by omega
  | k + 1, i, j, h1, h2, h3, h4, h5 => by
    unfold searchF_l1 searchF_s2
    rw [br_if]
    by_cases hc : i < j
    · have e1 : shfI .shr .u64 (IntKind.u64.wrap (IntKind.i64.wrap ((i : Int) + (j : Int)))) 1 = some (((i + j) / 2 : Nat) : Int) := by
        rw [wrap_i64 (by omega) (by omega), wrap_u64 (by omega) (by omega), shr_u64 (c := 2) (by decide) (by decide)]
        congr 1
      have e2 : IntKind.i64.wrap (((i + j) / 2 : Nat) : Int) = (((i + j) / 2 : Nat) : Int) := wrap_i64 (by omega) (by omega)
      rw [if_pos (by simpa using hc), bnd_of e1, e2, grd_of (by simp; omega), br_if, aboveS_eq]
      unfold aboveI
      rw [Int.toNat_natCast]
      by_cases hb : x < l.getD ((i + j) / 2) 0
      · rw [if_neg (by simpa using hb)]
        exact search_loop fuel l x hr hl k0 k i ((i + j) / 2) (by omega) (by omega) (by omega) h4 (fun _ => hb)
      · rw [if_pos (by simpa using hb), wrap_i64 (by omega) (by omega), show (((i + j) / 2 : Nat) : Int) + 1 = (((i + j) / 2 + 1 : Nat) : Int) by omega]
        refine search_loop fuel l x hr hl k0 k ((i + j) / 2 + 1) j (by omega) h2 (by omega) (fun t ht => ?_) h5
        rcases Nat.lt_or_eq_of_le (Nat.le_of_lt_succ ht) with h | h
        · have := getD_rise hr h (by omega)
          omega
        · rw [h]; omega
    · rw [if_neg (by simpa using hc), placeS_eq]
      unfold placeI
      have e : i = j := by omega
      subst e
      rw [placeN_of hr h2 h4 h5]
theorem search_fact (n : Int) (l : List Int) (x : Int) (hg : ((decide (1 ≤ l.length) && decide (l.length ≤ 64)) && risesS l && decide (n = (l.length : Int))) = true) : Fact Tryd.prog gTab 174 [.s (.int .i64 n), .fn (.func 175) [] [.ptr 0 1 0 0, .ptr 1 1 0 0]] [⟨27, .agg [.li .u64 l], true⟩, ⟨22, .agg [.s (.int .u64 x)], true⟩] (.s (.int .i64 (placeS l x)), [some ⟨27, .agg [.li .u64 l], true⟩, some ⟨22, .agg [.s (.int .u64 x)], true⟩]) := by
  simp only [Bool.and_eq_true, decide_eq_true_eq] at hg
  obtain ⟨⟨⟨h1, h2⟩, h3⟩, rfl⟩ := hg
  refine callN_fact hN hM T_pick1_ok (n := 100) (mode := mode9) ?_
  rw [searchF_eq]
  unfold searchF searchF_s1
  have h := fun k0 => search_loop (R := Out) 100 l x (rises_iff.1 h3).1 h2 k0 100 0 l.length (by omega) (by omega) (by omega) (fun t ht => by omega) (fun h => by omega)
  rw [Int.natCast_zero] at h
  dsimp only
  rw [h]
  rfl
noncomputable def search_ent : List V → List Blk → Option (Bool × Out)
  | [.s (.int .i64 n), .fn (.func 175) [] [.ptr 0 1 0 0, .ptr 1 1 0 0]], [⟨27, .agg [.li .u64 l], true⟩, ⟨22, .agg [.s (.int .u64 x)], true⟩] => some (((decide (1 ≤ l.length) && decide (l.length ≤ 64)) && risesS l && decide (n = (l.length : Int))), (.s (.int .i64 (placeS l x)), [some ⟨27, .agg [.li .u64 l], true⟩, some ⟨22, .agg [.s (.int .u64 x)], true⟩]))
  | _, _ => none
theorem search_ok : ∀ args bs out, search_ent args bs = some (true, out) → Fact Tryd.prog gTab 174 args bs out := by
  intro args bs out h
  unfold search_ent at h
  split at h
  · rename_i n l x
    simp only [Option.some.injEq, Prod.mk.injEq] at h
    obtain ⟨hg, rfl⟩ := h
    exact search_fact n l x hg
  · cases h
noncomputable def T_search : Tbl := Tbl.cons 174 search_ent T_pick1
theorem T_search_ok : CallOk Tryd.prog gTab T_search := cons_ok T_pick1_ok search_ok
/-! downpour/degree.Pick -/
noncomputable def pickF_s2 {R : Type} (w13 : Int) (w15 : Int) (w14 : List Int) (l : List Int) (x : Int) (c0 : Option R) (c1 : List Int → Int → Int → Option R) (c2 : Option R) : Option R :=
  br (decide (w13 < w15))
    (bnd (ix w14 w13) fun e18 =>
    bnd (ix l w13) fun e19 =>
    br (decide (e19 ≥ e18))
      (c0)
      (c1 w14 w15 (IntKind.i64.wrap (w13 + 1))))
    (c2)
theorem pickF_s2_eq (fuel : Nat) (k : Nat) (K : Ex → St → Option Out) (w13 : Int) (w15 : Int) (w14 : List Int) (l : List Int) (x : Int) : lpN (sub (bodyOf Tryd.prog 121) [1, 1, 0, 1, 0, 0]) (fnX Tryd.prog mode9 T_search fuel 50 0) 1125762467889212 [2, 3, 4, 5, 23, 24, 25] (k + 1) ⟨[(2, .ptr 0 1 0 0), (3, .ptr 1 1 0 0), (4, .s (.int .i64 0)), (5, .s (.int .i64 0)), (23, .li .u64 w14), (24, .s (.int .i64 w15)), (25, .s (.int .i64 w13))], [(0, some ⟨27, .agg [.li .u64 l], true⟩), (1, some ⟨22, .agg [.s (.int .u64 x)], true⟩)], 2, none⟩ K = pickF_s2 w13 w15 w14 l x (K .ret ⟨[(2, .ptr 0 1 0 0), (3, .ptr 1 1 0 0), (4, .s (.int .i64 0)), (5, .s (.int .i64 1))], [(0, some ⟨27, .agg [.li .u64 l], true⟩), (1, some ⟨22, .agg [.s (.int .u64 x)], true⟩)], 2, none⟩) (fun (a20 : List Int) (a21 : Int) (a22 : Int) => lpN (sub (bodyOf Tryd.prog 121) [1, 1, 0, 1, 0, 0]) (fnX Tryd.prog mode9 T_search fuel 50 0) 1125762467889212 [2, 3, 4, 5, 23, 24, 25] k ⟨[(2, .ptr 0 1 0 0), (3, .ptr 1 1 0 0), (4, .s (.int .i64 0)), (5, .s (.int .i64 0)), (23, .li .u64 a20), (24, .s (.int .i64 a21)), (25, .s (.int .i64 a22))], [(0, some ⟨27, .agg [.li .u64 l], true⟩), (1, some ⟨22, .agg [.s (.int .u64 x)], true⟩)], 2, none⟩ K) (K (.exit 0) ⟨[(2, .ptr 0 1 0 0), (3, .ptr 1 1 0 0), (4, .s (.int .i64 0)), (5, .s (.int .i64 0))], [(0, some ⟨27, .agg [.li .u64 l], true⟩), (1, some ⟨22, .agg [.s (.int .u64 x)], true⟩)], 2, none⟩) := by kernel_rfl
noncomputable def pickF_l1 {R : Type} (fuel : Nat) (l : List Int) (x : Int) (k0 : Option R) (k1 : Option R) : Nat → List Int → Int → Int → Option R
  | 0, _, _, _ => none
  | k + 1, w14, w15, w13 =>
    (pickF_s2 w13 w15 w14 l x (k0) (fun (a20 : List Int) (a21 : Int) (a22 : Int) => ( pickF_l1 fuel l x k0 k1 k a20 a21 a22 )) (k1))
theorem pickF_l1_eq (fuel : Nat) (l : List Int) (x : Int) (K : Ex → St → Option Out) : ∀ (k : Nat) (w14 : List Int) (w15 : Int) (w13 : Int), lpN (sub (bodyOf Tryd.prog 121) [1, 1, 0, 1, 0, 0]) (fnX Tryd.prog mode9 T_search fuel 50 0) 1125762467889212 [2, 3, 4, 5, 23, 24, 25] k ⟨[(2, .ptr 0 1 0 0), (3, .ptr 1 1 0 0), (4, .s (.int .i64 0)), (5, .s (.int .i64 0)), (23, .li .u64 w14), (24, .s (.int .i64 w15)), (25, .s (.int .i64 w13))], [(0, some ⟨27, .agg [.li .u64 l], true⟩), (1, some ⟨22, .agg [.s (.int .u64 x)], true⟩)], 2, none⟩ K = pickF_l1 fuel l x (K .ret ⟨[(2, .ptr 0 1 0 0), (3, .ptr 1 1 0 0), (4, .s (.int .i64 0)), (5, .s (.int .i64 1))], [(0, some ⟨27, .agg [.li .u64 l], true⟩), (1, some ⟨22, .agg [.s (.int .u64 x)], true⟩)], 2, none⟩) (K (.exit 0) ⟨[(2, .ptr 0 1 0 0), (3, .ptr 1 1 0 0), (4, .s (.int .i64 0)), (5, .s (.int .i64 0))], [(0, some ⟨27, .agg [.li .u64 l], true⟩), (1, some ⟨22, .agg [.s (.int .u64 x)], true⟩)], 2, none⟩) k w14 w15 w13
  | 0, _, _, _ => rfl
  | k + 1, w14, w15, w13 => by
    unfold pickF_l1
    exact (pickF_s2_eq fuel k K w13 w15 w14 l x).trans (congr (congr (congr (Eq.refl (pickF_s2 (R := Out) w13 w15 w14 l x)) (rfl)) (funext fun a20 => funext fun a21 => funext fun a22 => pickF_l1_eq fuel l x K k a20 a21 a22)) (rfl))
noncomputable def pickF_s3 {R : Type} (l : List Int) (x : Int) (c0 : Int → Int → Option R) : Option R :=
  c0 0 1
theorem pickF_s3_eq (fuel : Nat)  (l : List Int) (x : Int) : (kont (fnX Tryd.prog mode9 T_search fuel 50 0) (bodyOf Tryd.prog 121) [1, 1, 0, 1, 0] 48 (endK Tryd.prog 0 0 121)) .ret ⟨[(2, .ptr 0 1 0 0), (3, .ptr 1 1 0 0), (4, .s (.int .i64 0)), (5, .s (.int .i64 1))], [(0, some ⟨27, .agg [.li .u64 l], true⟩), (1, some ⟨22, .agg [.s (.int .u64 x)], true⟩)], 2, none⟩ = pickF_s3 l x (fun (a26 : Int) (a27 : Int) => some (.tup [.s (.int .i64 a26), .s (.int .i64 a27)], [])) := by kernel_rfl
noncomputable def pickF_s4 {R : Type} (l : List Int) (x : Int) (c0 : Int → Int → Option R) : Option R :=
  bnd (ix l (IntKind.i64.wrap (((l.length : Nat) : Int) - 1))) fun e28 =>
  bnd (divI .rem .u64 x e28) fun v29 =>
  grd ((decide (1 ≤ l.length) && decide (l.length ≤ 64)) && risesS l && decide (((l.length : Nat) : Int) = (l.length : Int))) <|
  c0 (IntKind.i64.wrap (1 + (placeS l v29))) 0
theorem pickF_s4_eq (fuel : Nat)  (l : List Int) (x : Int) : (kont (fnX Tryd.prog mode9 T_search fuel 50 0) (bodyOf Tryd.prog 121) [1, 1, 0, 1, 0] 48 (endK Tryd.prog 0 0 121)) (.exit 0) ⟨[(2, .ptr 0 1 0 0), (3, .ptr 1 1 0 0), (4, .s (.int .i64 0)), (5, .s (.int .i64 0))], [(0, some ⟨27, .agg [.li .u64 l], true⟩), (1, some ⟨22, .agg [.s (.int .u64 x)], true⟩)], 2, none⟩ = pickF_s4 l x (fun (a30 : Int) (a31 : Int) => some (.tup [.s (.int .i64 a30), .s (.int .i64 a31)], [])) := by kernel_rfl
noncomputable def pickF_s1 {R : Type} (l : List Int) (x : Int) (c0 : Int → Int → Option R) (c1 : List Int → Int → Int → Option R) : Option R :=
  br ((((l.length : Nat) : Int) : Int) == 0)
    (c0 0 1)
    (br (decide ((((l.length : Nat) : Int) : Int) > 64))
      (c0 0 1)
      (bnd (ix l 0) fun e5 =>
      br (e5 == 0)
        (c0 0 1)
        (bnd (upTo 1 l.length) fun j8 =>
        c1 ((l.drop j8).take (l.length - j8)) ((((l.drop j8).take (l.length - j8)).length : Nat) : Int) 0)))
theorem pickF_s1_eq (fuel : Nat)  (l : List Int) (x : Int) : callN Tryd.prog mode9 T_search fuel 121 [.li .u64 l, .s (.int .u64 x)] [] = pickF_s1 l x (fun (a1 : Int) (a2 : Int) => some (.tup [.s (.int .i64 a1), .s (.int .i64 a2)], [])) (fun (a23 : List Int) (a24 : Int) (a25 : Int) => lpN (sub (bodyOf Tryd.prog 121) [1, 1, 0, 1, 0, 0]) (fnX Tryd.prog mode9 T_search fuel 50 0) 1125762467889212 [2, 3, 4, 5, 23, 24, 25] fuel ⟨[(2, .ptr 0 1 0 0), (3, .ptr 1 1 0 0), (4, .s (.int .i64 0)), (5, .s (.int .i64 0)), (23, .li .u64 a23), (24, .s (.int .i64 a24)), (25, .s (.int .i64 a25))], [(0, some ⟨27, .agg [.li .u64 l], true⟩), (1, some ⟨22, .agg [.s (.int .u64 x)], true⟩)], 2, none⟩ (kont (fnX Tryd.prog mode9 T_search fuel 50 0) (bodyOf Tryd.prog 121) [1, 1, 0, 1, 0] 48 (endK Tryd.prog 0 0 121))) := by kernel_rfl
noncomputable def pickF {R : Type} (fuel : Nat) (l : List Int) (x : Int) (r0 : Int → Int → Option R) : Option R :=
  (pickF_s1 l x (fun (a1 : Int) (a2 : Int) => r0 a1 a2) (fun (a23 : List Int) (a24 : Int) (a25 : Int) => (pickF_l1 fuel l x ((pickF_s3 l x (fun (a26 : Int) (a27 : Int) => r0 a26 a27))) ((pickF_s4 l x (fun (a30 : Int) (a31 : Int) => r0 a30 a31))) fuel a23 a24 a25)))
theorem pickF_eq (fuel : Nat) (l : List Int) (x : Int) : callN Tryd.prog mode9 T_search fuel 121 [.li .u64 l, .s (.int .u64 x)] [] = pickF fuel l x (fun (z0 : Int) (z1 : Int) => some (.tup [.s (.int .i64 z0), .s (.int .i64 z1)], [])) := by
  unfold pickF
  exact (pickF_s1_eq fuel  l x).trans (congr (congr (Eq.refl (pickF_s1 (R := Out) l x)) (rfl)) (funext fun a23 => funext fun a24 => funext fun a25 => (pickF_l1_eq fuel l x (kont (fnX Tryd.prog mode9 T_search fuel 50 0) (bodyOf Tryd.prog 121) [1, 1, 0, 1, 0] 48 (endK Tryd.prog 0 0 121)) fuel a23 a24 a25).trans (congrFun (congrFun (congrFun (congrFun (congr (congr (Eq.refl (pickF_l1 (R := Out) fuel l x)) ((pickF_s3_eq fuel  l x))) ((pickF_s4_eq fuel  l x))) fuel) a23) a24) a25)))
theorem pick_loop {R : Type} (fuel : Nat) (l : List Int) (x : Int) (hr : l.Pairwise (· < ·)) (hl : l.length ≤ 64) (k0 k1 : Option R) : ∀ (k j : Nat), j ≤ (l.drop 1).length → (l.drop 1).length < j + k → pickF_l1 fuel l x k0 k1 k (l.drop 1) ((l.drop 1).length : Int) (j : Int) = k1
  | 0, j, h1, h2 => by omega
  | k + 1, j, h1, h2 => by
    have hd : (l.drop 1).length = l.length - 1 := List.length_drop
    unfold pickF_l1 pickF_s2
    rw [br_if]
    by_cases hc : j < (l.drop 1).length
    · have g1 : ix (l.drop 1) (j : Int) = some (l.getD (j + 1) 0) := by rw [ix_nat, List.getElem?_drop, Nat.add_comm 1 j]; exact getD_get (by omega)
      have g2 : ix l (j : Int) = some (l.getD j 0) := by rw [ix_nat]; exact getD_get (by omega)
      have := getD_rise hr (show j < j + 1 by omega) (by omega)
      rw [if_pos (by simpa using hc), bnd_of g1, bnd_of g2, br_if, if_neg (by simpa using this), wrap_i64 (by omega) (by omega), show (j : Int) + 1 = ((j + 1 : Nat) : Int) by omega]
      exact pick_loop fuel l x hr hl k0 k1 k (j + 1) (by omega) (by omega)
    · rw [if_neg (by simpa using hc)]
theorem pick_fact (l : List Int) (x : Int) (hg : ((decide (1 ≤ l.length) && decide (l.length ≤ 64)) && risesS l && (decide (0 ≤ x) && decide (x < 18446744073709551616))) = true) : Fact Tryd.prog gTab 121 [.li .u64 l, .s (.int .u64 x)] [] (.tup [.s (.int .i64 (chosenS l x)), .s (.int .i64 0)], []) := by
  have hg' := hg
  simp only [Bool.and_eq_true, decide_eq_true_eq] at hg'
  obtain ⟨⟨⟨h1, h2⟩, h3⟩, h4, h5⟩ := hg'
  obtain ⟨hr, hp⟩ := rises_iff.1 h3
  refine callN_fact hN hM T_search_ok (n := 100) (mode := mode9) ?_
  rw [pickF_eq]
  unfold pickF pickF_s1
  have p0 := hp _ (getD_mem (l := l) (i := 0) (by omega))
  have pl := hp _ (getD_mem (l := l) (i := l.length - 1) (by omega))
  have g0 : ix l 0 = some (l.getD 0 0) := (ix_nat l 0).trans (getD_get (by omega))
  have gl : ix l (IntKind.i64.wrap (((l.length : Nat) : Int) - 1)) = some (l.getD (l.length - 1) 0) := by
    rw [wrap_i64 (by omega) (by omega), show ((l.length : Nat) : Int) - 1 = ((l.length - 1 : Nat) : Int) by omega, ix_nat]
    exact getD_get (by omega)
  have hd : (l.drop 1).length = l.length - 1 := List.length_drop
  rw [br_if, if_neg (by simp only [beq_iff_eq]; omega), br_if, if_neg (by simp only [decide_eq_true_eq]; omega), bnd_of g0, br_if, if_neg (by simp only [beq_iff_eq]; omega), bnd_of (show upTo 1 l.length = some 1 from upTo_of (by decide) (by omega))]
  rw [List.take_of_length_le (by omega)]
  dsimp only
  have h := fun k0 k1 => pick_loop (R := Out) 100 l x hr h2 k0 k1 100 0 (by omega) (by omega)
  rw [Int.natCast_zero] at h
  rw [h]
  unfold pickF_s4
  have hple := placeN_le l (x % l.getD (l.length - 1) 0)
  rw [bnd_of gl, bnd_of (rem_pos h4 pl.1), grd_of (by simp [h3]; omega), placeS_eq, chosenS_eq]
  unfold placeI chosenI
  rw [wrap_i64 (by omega) (by omega), Int.add_comm]
noncomputable def pick_ent : List V → List Blk → Option (Bool × Out)
  | [w0, .s (.int .u64 x)], [] => (asSl (.int .u64) w0).bind fun l => some (((decide (1 ≤ l.length) && decide (l.length ≤ 64)) && risesS l && (decide (0 ≤ x) && decide (x < 18446744073709551616))), (.tup [.s (.int .i64 (chosenS l x)), .s (.int .i64 0)], []))
  | _, _ => none
theorem pick_ok : ∀ args bs out, pick_ent args bs = some (true, out) → Fact Tryd.prog gTab 121 args bs out := by
  intro args bs out h
  unfold pick_ent at h
  split at h
  · rename_i w0 x
    obtain ⟨l, h_l, h⟩ := Option.bind_eq_some_iff.1 h
    simp only [Option.some.injEq, Prod.mk.injEq] at h
    obtain ⟨hg, rfl⟩ := h
    exact (pick_fact l x hg).args (fun _ _ _ => fun _ h => RVs_two (fun _ h => RV_li h_l h) (fun _ h => h) h)
  · cases h
noncomputable def T_pick : Tbl := Tbl.cons 121 pick_ent T_search
theorem T_pick_ok : CallOk Tryd.prog gTab T_pick := cons_ok T_search_ok pick_ok
def mode10 : FuncId → Nat := fun f => 0
/-! A symbol's blocks. -/
theorem weight_pos {k d : Int} (hk : 1 ≤ k) (hk2 : k ≤ 64) (hd : 1 ≤ d) (hd2 : d ≤ 64) : 1 ≤ weightS k d := by
  have hr := root_range hk hk2
  have hdg := dig_range hr.1 hr.2
  have hm := mul_small (a := rootS k) (b := digS (rootS k)) hr.1 (by omega) hdg.1 (by omega)
  have a1 : 1 ≤ 4294967296 / k := Int.le_ediv_of_mul_le (by omega) (by omega)
  have a2 := div_small (a := 4294967296 * rootS k) (b := d * k) (by omega) (mul_small hd hd2 hk hk2).1
  have a3 := div_small (a := 4294967296 * rootS k * digS (rootS k)) (b := k) (by rw [Int.mul_assoc]; omega) hk
  have a4 : 1 < d → 1 ≤ 4294967296 / (d * (d - 1)) := fun h => by
    have := mul_small hd hd2 (show 1 ≤ d - 1 by omega) (by omega)
    exact Int.le_ediv_of_mul_le (by omega) (by omega)
  rw [weightS_eq]; unfold weightI
  split
  · rename_i h
    have a4 := a4 h
    split
    · omega
    · split <;> omega
  · split
    · omega
    · split <;> omega
theorem sum_rise {k : Int} (hk : 1 ≤ k) (hk2 : k ≤ 64) {a b : Nat} (hab : a < b) (hb : b ≤ 64) : sumN k a < sumN k b := by
  induction b with
  | zero => omega
  | succ b ih =>
    have := weight_pos hk hk2 (d := (b : Int) + 1) (by omega) (by omega)
    rw [sumN]
    rcases Nat.lt_or_eq_of_le (Nat.le_of_lt_succ hab) with h | h
    · have := ih h (by omega); omega
    · subst h; omega
theorem tabS_len {z : Int} (h : 1 ≤ z) : (tabS z).length = z.toNat := by rw [tabS_eq]; exact tab_len z z.toNat
theorem tab_rises {z : Int} (hk : 1 ≤ z) (hk2 : z ≤ 64) : risesS (tabS z) = true := by
  rw [tabS_eq]
  unfold tabI tabN
  refine rises_iff.2 ⟨?_, ?_⟩
  · rw [List.pairwise_map]
    refine (List.pairwise_lt_range).imp_of_mem fun {a b} ha hb h => ?_
    rw [List.mem_range] at ha hb
    exact sum_rise hk hk2 (by omega) (by omega)
  · intro x hx
    obtain ⟨a, ha, rfl⟩ := List.mem_map.1 hx
    rw [List.mem_range] at ha
    have := sum_range hk hk2 (a + 1) (by omega)
    have := sum_rise hk hk2 (show 0 < a + 1 by omega) (by omega)
    rw [show sumN z 0 = 0 from rfl] at this
    omega
theorem chosen_range {z x : Int} (hk : 1 ≤ z) (hk2 : z ≤ 64) (hx : 0 ≤ x) : 1 ≤ chosenS (tabS z) x ∧ chosenS (tabS z) x ≤ z := by
  have hl := tabS_len hk
  obtain ⟨hr, hp⟩ := rises_iff.1 (tab_rises hk hk2)
  have pl := hp _ (getD_mem (l := tabS z) (i := (tabS z).length - 1) (by omega))
  rw [chosenS_eq]
  unfold chosenI
  have hlt := Int.emod_lt_of_pos x pl.1
  generalize x % (tabS z).getD ((tabS z).length - 1) 0 = y at *
  have := placeN_le (tabS z) y
  rcases Nat.lt_or_eq_of_le this with h | h
  · omega
  · have := placeN_below (tabS z) y ((tabS z).length - 1) (by omega)
    omega
noncomputable def nbI (z id : Int) : List Int := someS (nextS (mixedS id)) z (chosenS (tabS z) (mixedS (nextS (mixedS id))))
noncomputable def nbS : Int → Int → List Int := Classical.choose (⟨nbI, rfl⟩ : ∃ f, f = nbI)
theorem nbS_eq : nbS = nbI := Classical.choose_spec (⟨nbI, rfl⟩ : ∃ f, f = nbI)
theorem kk_iff {z : Int} : (decide (1 ≤ z) && decide (z ≤ 64)) = true ↔ 1 ≤ z ∧ z ≤ 64 := by simp
theorem nb_range {z d x : Int} (hk : 1 ≤ z) (hk2 : z ≤ 64) (h : x ∈ nbS z d) : 0 ≤ x ∧ x < z := by
  rw [nbS_eq] at h
  unfold nbI at h
  have hn := next_range (mixedS d)
  exact (mem_shuffle hn.1 hn.2 hk (by omega)).1 ((List.take_sublist _ _).subset (mem_some.1 h))
theorem nb_len {z d : Int} (hk : 1 ≤ z) (hk2 : z ≤ 64) : (nbS z d).length ≤ 64 := by
  rw [nbS_eq]
  unfold nbI
  have hm := mixed_range (nextS (mixedS d))
  have hc := chosen_range hk hk2 hm.1
  rw [some_len (by omega) hc.2]
  omega
theorem nb_of {z d : Int} (hk : 1 ≤ z) (hk2 : z ≤ 64) : ofOk z (nbS z d) = true := ofOk_iff.2 ⟨⟨by omega, by omega⟩, fun x h => nb_range hk hk2 h⟩
theorem nb_ofLen {z d : Int} (hk2 : z ≤ 64) : (ofS z (nbS z d)).length ≤ 8 := by rw [of_len]; exact nw_le (by omega)
theorem someOk_of {n many : Int} (hn : 1 ≤ n) (hn2 : n ≤ 512) (h : 0 ≤ many) (h2 : many ≤ n) : someOk n many = true := by unfold someOk sizedS; simp; omega
def mode11 : FuncId → Nat := fun f => 0
/-! downpour/neighbours.of -/
noncomputable def nbOfF_s1 {R : Type} (z : Int) (c0 : Int → List Int → Int → Option R) : Option R :=
  c0 z (if (decide (1 ≤ z) && decide (z ≤ 64)) = true then tabS z else []) (if (decide (1 ≤ z) && decide (z ≤ 64)) = true then 0 else 2)
theorem nbOfF_s1_eq (fuel : Nat)  (z : Int) : callN Tryd.prog mode11 T_pick fuel 66 [.s (.int .i64 z)] [] = nbOfF_s1 z (fun (a1 : Int) (a2 : List Int) (a3 : Int) => some (.tup [.agg [.s (.int .i64 a1), .li .u64 a2], .s (.int .i64 a3)], [])) := by kernel_rfl
noncomputable def nbOfF {R : Type} (fuel : Nat) (z : Int) (r0 : Int → List Int → Int → Option R) : Option R :=
  (nbOfF_s1 z (fun (a1 : Int) (a2 : List Int) (a3 : Int) => r0 a1 a2 a3))
theorem nbOfF_eq (fuel : Nat) (z : Int) : callN Tryd.prog mode11 T_pick fuel 66 [.s (.int .i64 z)] [] = nbOfF fuel z (fun (z0 : Int) (z1 : List Int) (z2 : Int) => some (.tup [.agg [.s (.int .i64 z0), .li .u64 z1], .s (.int .i64 z2)], [])) := by
  unfold nbOfF
  exact (nbOfF_s1_eq fuel  z)
theorem nbOf_fact (z : Int) : Fact Tryd.prog gTab 66 [.s (.int .i64 z)] [] (.tup [.agg [.s (.int .i64 z), .li .u64 (if (decide (1 ≤ z) && decide (z ≤ 64)) = true then tabS z else [])], .s (.int .i64 (if (decide (1 ≤ z) && decide (z ≤ 64)) = true then 0 else 2))], []) := by
  refine callN_fact hN hM T_pick_ok (n := 0) (mode := mode11) ?_
  rw [nbOfF_eq]
  rfl
noncomputable def nbOf_ent : List V → List Blk → Option (Bool × Out)
  | [.s (.int .i64 z)], [] => some (true, (.tup [.agg [.s (.int .i64 z), .li .u64 (if (decide (1 ≤ z) && decide (z ≤ 64)) = true then tabS z else [])], .s (.int .i64 (if (decide (1 ≤ z) && decide (z ≤ 64)) = true then 0 else 2))], []))
  | _, _ => none
theorem nbOf_ok : ∀ args bs out, nbOf_ent args bs = some (true, out) → Fact Tryd.prog gTab 66 args bs out := by
  intro args bs out h
  unfold nbOf_ent at h
  split at h
  · rename_i z
    simp only [Option.some.injEq, Prod.mk.injEq] at h
    obtain ⟨_, rfl⟩ := h
    exact nbOf_fact z
  · cases h
noncomputable def T_nbOf : Tbl := Tbl.cons 66 nbOf_ent T_pick
theorem T_nbOf_ok : CallOk Tryd.prog gTab T_nbOf := cons_ok T_pick_ok nbOf_ok
/-! (downpour/neighbours.code).places -/
noncomputable def nbPlF_s1 {R : Type} (d : Int) (t : List Int) (z : Int) (c0 : List Int → Option R) : Option R :=
  grd (decide (0 ≤ d) && decide (d < 18446744073709551616)) <|
  grd ((decide (1 ≤ t.length) && decide (t.length ≤ 64)) && risesS t && (decide (0 ≤ (mixedS (nextS (mixedS d)))) && decide ((mixedS (nextS (mixedS d))) < 18446744073709551616))) <|
  grd (decide (0 ≤ (nextS (mixedS d))) && decide ((nextS (mixedS d)) < 18446744073709551616)) <|
  c0 (if someOk z (chosenS t (mixedS (nextS (mixedS d)))) = true then someS (nextS (mixedS d)) z (chosenS t (mixedS (nextS (mixedS d)))) else [])
theorem nbPlF_s1_eq (fuel : Nat)  (d : Int) (t : List Int) (z : Int) : callN Tryd.prog mode11 T_nbOf fuel 67 [.agg [.s (.int .i64 z), .li .u64 t], .s (.int .u64 d)] [] = nbPlF_s1 d t z (fun (a1 : List Int) => some (.li .i64 a1, [])) := by kernel_rfl
noncomputable def nbPlF {R : Type} (fuel : Nat) (z : Int) (t : List Int) (d : Int) (r0 : List Int → Option R) : Option R :=
  (nbPlF_s1 d t z (fun (a1 : List Int) => r0 a1))
theorem nbPlF_eq (fuel : Nat) (z : Int) (t : List Int) (d : Int) : callN Tryd.prog mode11 T_nbOf fuel 67 [.agg [.s (.int .i64 z), .li .u64 t], .s (.int .u64 d)] [] = nbPlF fuel z t d (fun (z0 : List Int) => some (.li .i64 z0, [])) := by
  unfold nbPlF
  exact (nbPlF_s1_eq fuel  d t z)
theorem nbPl_fact (z : Int) (t : List Int) (d : Int) (hg : ((decide (1 ≤ z) && decide (z ≤ 64)) && eqS_li t (tabS z) && (decide (0 ≤ d) && decide (d < 18446744073709551616))) = true) : Fact Tryd.prog gTab 67 [.agg [.s (.int .i64 z), .li .u64 t], .s (.int .u64 d)] [] (.li .i64 (nbS z d), []) := by
  have hg' := hg
  rw [Bool.and_eq_true, Bool.and_eq_true] at hg'
  obtain ⟨⟨hk, ht⟩, hd⟩ := hg'
  have ht : t = tabS z := by rw [eqS_li_eq] at ht; exact of_decide_eq_true ht
  subst ht
  obtain ⟨k1, k2⟩ := kk_iff.1 hk
  refine callN_fact hN hM T_nbOf_ok (n := 0) (mode := mode11) ?_
  rw [nbPlF_eq]
  unfold nbPlF nbPlF_s1
  have hr := next_range (mixedS d)
  have hm := mixed_range (nextS (mixedS d))
  have hc := chosen_range k1 k2 hm.1
  have hl := tabS_len k1
  rw [grd_of hd, grd_of (by simp [tab_rises k1 k2]; omega), grd_of (by simp; omega), if_pos (someOk_of k1 (by omega) (by omega) hc.2), nbS_eq]
  rfl
noncomputable def nbPl_ent : List V → List Blk → Option (Bool × Out)
  | [.agg [.s (.int .i64 z), w0], .s (.int .u64 d)], [] => (asSl (.int .u64) w0).bind fun t => some (((decide (1 ≤ z) && decide (z ≤ 64)) && eqS_li t (tabS z) && (decide (0 ≤ d) && decide (d < 18446744073709551616))), (.li .i64 (nbS z d), []))
  | _, _ => none
theorem nbPl_ok : ∀ args bs out, nbPl_ent args bs = some (true, out) → Fact Tryd.prog gTab 67 args bs out := by
  intro args bs out h
  unfold nbPl_ent at h
  split at h
  · rename_i z w0 d
    obtain ⟨t, h_t, h⟩ := Option.bind_eq_some_iff.1 h
    simp only [Option.some.injEq, Prod.mk.injEq] at h
    obtain ⟨hg, rfl⟩ := h
    exact (nbPl_fact z t d hg).args (fun _ _ _ => fun _ h => RVs_two (fun _ h => RV_agg_two (fun _ h => RVs_two (fun _ h => h) (fun _ h => RVs_two (fun _ h => RV_li h_t h) (fun _ h => h) h) h) h) (fun _ h => h) h)
  · cases h
noncomputable def T_nbPl : Tbl := Tbl.cons 67 nbPl_ent T_nbOf
theorem T_nbPl_ok : CallOk Tryd.prog gTab T_nbPl := cons_ok T_nbOf_ok nbPl_ok
/-! (downpour/neighbours.code).row -/
noncomputable def nbRowF_s1 {R : Type} (z : Int) (t : List Int) (d : Int) (c0 : Int → List Int → Option R) : Option R :=
  grd ((decide (1 ≤ z) && decide (z ≤ 64)) && eqS_li t (tabS z) && (decide (0 ≤ d) && decide (d < 18446744073709551616))) <|
  grd (decide ((nbS z d).length ≤ 1000000)) <|
  c0 (if ofOk z (nbS z d) = true then z else 0) (if ofOk z (nbS z d) = true then ofS z (nbS z d) else [])
theorem nbRowF_s1_eq (fuel : Nat)  (z : Int) (t : List Int) (d : Int) : callN Tryd.prog mode11 T_nbPl fuel 68 [.agg [.s (.int .i64 z), .li .u64 t], .s (.int .u64 d)] [] = nbRowF_s1 z t d (fun (a1 : Int) (a2 : List Int) => some (.agg [.s (.int .i64 a1), .li .u64 a2], [])) := by kernel_rfl
noncomputable def nbRowF {R : Type} (fuel : Nat) (z : Int) (t : List Int) (d : Int) (r0 : Int → List Int → Option R) : Option R :=
  (nbRowF_s1 z t d (fun (a1 : Int) (a2 : List Int) => r0 a1 a2))
theorem nbRowF_eq (fuel : Nat) (z : Int) (t : List Int) (d : Int) : callN Tryd.prog mode11 T_nbPl fuel 68 [.agg [.s (.int .i64 z), .li .u64 t], .s (.int .u64 d)] [] = nbRowF fuel z t d (fun (z0 : Int) (z1 : List Int) => some (.agg [.s (.int .i64 z0), .li .u64 z1], [])) := by
  unfold nbRowF
  exact (nbRowF_s1_eq fuel  z t d)
theorem nbRow_fact (z : Int) (t : List Int) (d : Int) (hg : ((decide (1 ≤ z) && decide (z ≤ 64)) && eqS_li t (tabS z) && (decide (0 ≤ d) && decide (d < 18446744073709551616))) = true) : Fact Tryd.prog gTab 68 [.agg [.s (.int .i64 z), .li .u64 t], .s (.int .u64 d)] [] (.agg [.s (.int .i64 z), .li .u64 (ofS z (nbS z d))], []) := by
  have hg' := hg
  rw [Bool.and_eq_true, Bool.and_eq_true] at hg'
  obtain ⟨k1, k2⟩ := kk_iff.1 hg'.1.1
  have hl := nb_len (d := d) k1 k2
  refine callN_fact hN hM T_nbPl_ok (n := 0) (mode := mode11) ?_
  rw [nbRowF_eq]
  unfold nbRowF nbRowF_s1
  rw [grd_of hg, grd_of (by simp; omega), nb_of k1 k2]
  rfl
noncomputable def nbRow_ent : List V → List Blk → Option (Bool × Out)
  | [.agg [.s (.int .i64 z), w0], .s (.int .u64 d)], [] => (asSl (.int .u64) w0).bind fun t => some (((decide (1 ≤ z) && decide (z ≤ 64)) && eqS_li t (tabS z) && (decide (0 ≤ d) && decide (d < 18446744073709551616))), (.agg [.s (.int .i64 z), .li .u64 (ofS z (nbS z d))], []))
  | _, _ => none
theorem nbRow_ok : ∀ args bs out, nbRow_ent args bs = some (true, out) → Fact Tryd.prog gTab 68 args bs out := by
  intro args bs out h
  unfold nbRow_ent at h
  split at h
  · rename_i z w0 d
    obtain ⟨t, h_t, h⟩ := Option.bind_eq_some_iff.1 h
    simp only [Option.some.injEq, Prod.mk.injEq] at h
    obtain ⟨hg, rfl⟩ := h
    exact (nbRow_fact z t d hg).args (fun _ _ _ => fun _ h => RVs_two (fun _ h => RV_agg_two (fun _ h => RVs_two (fun _ h => h) (fun _ h => RVs_two (fun _ h => RV_li h_t h) (fun _ h => h) h) h) h) (fun _ h => h) h)
  · cases h
noncomputable def T_nbRow : Tbl := Tbl.cons 68 nbRow_ent T_nbPl
theorem T_nbRow_ok : CallOk Tryd.prog gTab T_nbRow := cons_ok T_nbPl_ok nbRow_ok
/-! downpour/neighbours.Places -/
noncomputable def NbPlacesF_s1 {R : Type} (z : Int) (d : Int) (c0 : Int → Option R) (c1 : List Int → Int → Option R) : Option R :=
  br (((if (decide (1 ≤ z) && decide (z ≤ 64)) = true then 0 else 2) : Int) != 0)
    (c0 (if (decide (1 ≤ z) && decide (z ≤ 64)) = true then 0 else 2))
    (grd ((decide (1 ≤ z) && decide (z ≤ 64)) && eqS_li (if (decide (1 ≤ z) && decide (z ≤ 64)) = true then tabS z else []) (tabS z) && (decide (0 ≤ d) && decide (d < 18446744073709551616))) <|
    c1 (nbS z d) 0)
theorem NbPlacesF_s1_eq (fuel : Nat)  (z : Int) (d : Int) : callN Tryd.prog mode11 T_nbRow fuel 14 [.s (.int .i64 z), .s (.int .u64 d)] [] = NbPlacesF_s1 z d (fun (a1 : Int) => some (.tup [.s (.slice none 0 0), .s (.int .i64 a1)], [])) (fun (a2 : List Int) (a3 : Int) => some (.tup [.li .i64 a2, .s (.int .i64 a3)], [])) := by kernel_rfl
noncomputable def NbPlacesF {R : Type} (fuel : Nat) (z : Int) (d : Int) (r0 : Int → Option R) (r1 : List Int → Int → Option R) : Option R :=
  (NbPlacesF_s1 z d (fun (a1 : Int) => r0 a1) (fun (a2 : List Int) (a3 : Int) => r1 a2 a3))
theorem NbPlacesF_eq (fuel : Nat) (z : Int) (d : Int) : callN Tryd.prog mode11 T_nbRow fuel 14 [.s (.int .i64 z), .s (.int .u64 d)] [] = NbPlacesF fuel z d (fun (z0 : Int) => some (.tup [.s (.slice none 0 0), .s (.int .i64 z0)], [])) (fun (z0 : List Int) (z1 : Int) => some (.tup [.li .i64 z0, .s (.int .i64 z1)], [])) := by
  unfold NbPlacesF
  exact (NbPlacesF_s1_eq fuel  z d)
theorem NbPlaces_fact (z : Int) (d : Int) (hg : (decide (0 ≤ d) && decide (d < 18446744073709551616)) = true) : Fact Tryd.prog gTab 14 [.s (.int .i64 z), .s (.int .u64 d)] [] (.tup [.li .i64 (if (decide (1 ≤ z) && decide (z ≤ 64)) = true then nbS z d else []), .s (.int .i64 (if (decide (1 ≤ z) && decide (z ≤ 64)) = true then 0 else 2))], []) := by
  by_cases hk : (decide (1 ≤ z) && decide (z ≤ 64)) = true
  · refine callN_fact hN hM T_nbRow_ok (n := 0) (mode := mode11) ?_
    rw [NbPlacesF_eq]
    unfold NbPlacesF NbPlacesF_s1
    simp only [hk, if_true, bne_self_eq_false, br_ff]
    rw [grd_of (by simp only [Bool.true_and, hg, Bool.and_true]; exact eqS_li_self _)]
  · rw [if_neg hk, if_neg hk]
    refine Fact.out (v := .tup [.s (.slice none 0 0), .s (.int .i64 2)]) (bs' := []) ?_ (fun _ _ _ x h => RV_tup_two (fun _ h => RVs_two (fun _ h => RV_nil_li h) (fun _ h => h) h) h)
    refine callN_fact hN hM T_nbRow_ok (n := 0) (mode := mode11) ?_
    rw [NbPlacesF_eq]
    unfold NbPlacesF NbPlacesF_s1
    rw [if_neg hk, br_if, if_pos (by decide)]
noncomputable def NbPlaces_ent : List V → List Blk → Option (Bool × Out)
  | [.s (.int .i64 z), .s (.int .u64 d)], [] => some ((decide (0 ≤ d) && decide (d < 18446744073709551616)), (.tup [.li .i64 (if (decide (1 ≤ z) && decide (z ≤ 64)) = true then nbS z d else []), .s (.int .i64 (if (decide (1 ≤ z) && decide (z ≤ 64)) = true then 0 else 2))], []))
  | _, _ => none
theorem NbPlaces_ok : ∀ args bs out, NbPlaces_ent args bs = some (true, out) → Fact Tryd.prog gTab 14 args bs out := by
  intro args bs out h
  unfold NbPlaces_ent at h
  split at h
  · rename_i z d
    simp only [Option.some.injEq, Prod.mk.injEq] at h
    obtain ⟨hg, rfl⟩ := h
    exact NbPlaces_fact z d hg
  · cases h
noncomputable def T_NbPlaces : Tbl := Tbl.cons 14 NbPlaces_ent T_nbRow
theorem T_NbPlaces_ok : CallOk Tryd.prog gTab T_NbPlaces := cons_ok T_nbRow_ok NbPlaces_ok
/-! downpour/neighbours.Row -/
noncomputable def NbRowF_s1 {R : Type} (z : Int) (d : Int) (c0 : Int → Int → Option R) (c1 : Int → List Int → Int → Option R) : Option R :=
  br (((if (decide (1 ≤ z) && decide (z ≤ 64)) = true then 0 else 2) : Int) != 0)
    (c0 0 (if (decide (1 ≤ z) && decide (z ≤ 64)) = true then 0 else 2))
    (grd ((decide (1 ≤ z) && decide (z ≤ 64)) && eqS_li (if (decide (1 ≤ z) && decide (z ≤ 64)) = true then tabS z else []) (tabS z) && (decide (0 ≤ d) && decide (d < 18446744073709551616))) <|
    c1 z (ofS z (nbS z d)) 0)
theorem NbRowF_s1_eq (fuel : Nat)  (z : Int) (d : Int) : callN Tryd.prog mode11 T_NbPlaces fuel 15 [.s (.int .i64 z), .s (.int .u64 d)] [] = NbRowF_s1 z d (fun (a1 : Int) (a2 : Int) => some (.tup [.agg [.s (.int .i64 a1), .s (.slice none 0 0)], .s (.int .i64 a2)], [])) (fun (a3 : Int) (a4 : List Int) (a5 : Int) => some (.tup [.agg [.s (.int .i64 a3), .li .u64 a4], .s (.int .i64 a5)], [])) := by kernel_rfl
noncomputable def NbRowF {R : Type} (fuel : Nat) (z : Int) (d : Int) (r0 : Int → Int → Option R) (r1 : Int → List Int → Int → Option R) : Option R :=
  (NbRowF_s1 z d (fun (a1 : Int) (a2 : Int) => r0 a1 a2) (fun (a3 : Int) (a4 : List Int) (a5 : Int) => r1 a3 a4 a5))
theorem NbRowF_eq (fuel : Nat) (z : Int) (d : Int) : callN Tryd.prog mode11 T_NbPlaces fuel 15 [.s (.int .i64 z), .s (.int .u64 d)] [] = NbRowF fuel z d (fun (z0 : Int) (z1 : Int) => some (.tup [.agg [.s (.int .i64 z0), .s (.slice none 0 0)], .s (.int .i64 z1)], [])) (fun (z0 : Int) (z1 : List Int) (z2 : Int) => some (.tup [.agg [.s (.int .i64 z0), .li .u64 z1], .s (.int .i64 z2)], [])) := by
  unfold NbRowF
  exact (NbRowF_s1_eq fuel  z d)
theorem NbRow_fact (z : Int) (d : Int) (hg : (decide (0 ≤ d) && decide (d < 18446744073709551616)) = true) : Fact Tryd.prog gTab 15 [.s (.int .i64 z), .s (.int .u64 d)] [] (.tup [.agg [.s (.int .i64 (if (decide (1 ≤ z) && decide (z ≤ 64)) = true then z else 0)), .li .u64 (if (decide (1 ≤ z) && decide (z ≤ 64)) = true then ofS z (nbS z d) else [])], .s (.int .i64 (if (decide (1 ≤ z) && decide (z ≤ 64)) = true then 0 else 2))], []) := by
  by_cases hk : (decide (1 ≤ z) && decide (z ≤ 64)) = true
  · refine callN_fact hN hM T_NbPlaces_ok (n := 0) (mode := mode11) ?_
    rw [NbRowF_eq]
    unfold NbRowF NbRowF_s1
    simp only [hk, if_true, bne_self_eq_false, br_ff]
    rw [grd_of (by simp only [Bool.true_and, hg, Bool.and_true]; exact eqS_li_self _)]
  · rw [if_neg hk, if_neg hk, if_neg hk]
    refine Fact.out (v := .tup [.agg [.s (.int .i64 0), .s (.slice none 0 0)], .s (.int .i64 2)]) (bs' := []) ?_ (fun _ _ _ x h => RV_tup_two (fun _ h => RVs_two (fun _ h => RV_agg_two (fun _ h => RVs_two (fun _ h => h) (fun _ h => RVs_two (fun _ h => RV_nil_li h) (fun _ h => h) h) h) h) (fun _ h => h) h) h)
    refine callN_fact hN hM T_NbPlaces_ok (n := 0) (mode := mode11) ?_
    rw [NbRowF_eq]
    unfold NbRowF NbRowF_s1
    rw [if_neg hk, br_if, if_pos (by decide)]
noncomputable def NbRow_ent : List V → List Blk → Option (Bool × Out)
  | [.s (.int .i64 z), .s (.int .u64 d)], [] => some ((decide (0 ≤ d) && decide (d < 18446744073709551616)), (.tup [.agg [.s (.int .i64 (if (decide (1 ≤ z) && decide (z ≤ 64)) = true then z else 0)), .li .u64 (if (decide (1 ≤ z) && decide (z ≤ 64)) = true then ofS z (nbS z d) else [])], .s (.int .i64 (if (decide (1 ≤ z) && decide (z ≤ 64)) = true then 0 else 2))], []))
  | _, _ => none
theorem NbRow_ok : ∀ args bs out, NbRow_ent args bs = some (true, out) → Fact Tryd.prog gTab 15 args bs out := by
  intro args bs out h
  unfold NbRow_ent at h
  split at h
  · rename_i z d
    simp only [Option.some.injEq, Prod.mk.injEq] at h
    obtain ⟨hg, rfl⟩ := h
    exact NbRow_fact z d hg
  · cases h
noncomputable def T_NbRow : Tbl := Tbl.cons 15 NbRow_ent T_NbPlaces
theorem T_NbRow_ok : CallOk Tryd.prog gTab T_NbRow := cons_ok T_NbPlaces_ok NbRow_ok
/-! downpour/downpourlaw08.alive -/
noncomputable def nbAliveF_s1 {R : Type}  (c0 : Bool → Option R) : Option R :=
  grd (decide (0 ≤ 7) && decide (7 < 18446744073709551616)) <|
  br (((if (decide (1 ≤ 1) && decide (1 ≤ 64)) = true then 0 else 2) : Int) == 0)
    (br (((((if (decide (1 ≤ 1) && decide (1 ≤ 64)) = true then nbS 1 7 else []).length : Nat) : Int) : Int) == 1)
      (bnd (ix (if (decide (1 ≤ 1) && decide (1 ≤ 64)) = true then nbS 1 7 else []) 0) fun e1 =>
      c0 (e1 == 0))
      (c0 false))
    (c0 false)
theorem nbAliveF_s1_eq (fuel : Nat)   : callN Tryd.prog mode11 T_NbRow fuel 19 [] [] = nbAliveF_s1  (fun (a2 : Bool) => some (.s (.bool a2), [])) := by kernel_rfl
noncomputable def nbAliveF {R : Type} (fuel : Nat)  (r0 : Bool → Option R) : Option R :=
  (nbAliveF_s1 (fun (a2 : Bool) => r0 a2))
theorem nbAliveF_eq (fuel : Nat)  : callN Tryd.prog mode11 T_NbRow fuel 19 [] [] = nbAliveF fuel  (fun (z0 : Bool) => some (.s (.bool z0), [])) := by
  unfold nbAliveF
  exact (nbAliveF_s1_eq fuel  )
theorem nb_one (d : Int) : nbS 1 d = [0] := by
  have h : (nbS 1 d).length = 1 := by
    rw [nbS_eq]
    unfold nbI
    have hm := mixed_range (nextS (mixedS d))
    have hc := chosen_range (z := 1) (by decide) (by decide) hm.1
    rw [some_len (by omega) hc.2]
    omega
  match hl : nbS 1 d, h with
  | [x], _ =>
    have := nb_range (z := 1) (d := d) (x := x) (by decide) (by decide) (by rw [hl]; exact List.mem_singleton.2 rfl)
    rw [show x = 0 by omega]
theorem nbAlive_fact  : Fact Tryd.prog gTab 19 [] [] (.s (.bool true), []) := by
  refine callN_fact hN hM T_NbRow_ok (n := 0) (mode := mode11) ?_
  rw [nbAliveF_eq]
  unfold nbAliveF nbAliveF_s1
  simp only [nb_one]
  rfl
noncomputable def nbAlive_ent : List V → List Blk → Option (Bool × Out)
  | [], [] => some (true, (.s (.bool true), []))
  | _, _ => none
theorem nbAlive_ok : ∀ args bs out, nbAlive_ent args bs = some (true, out) → Fact Tryd.prog gTab 19 args bs out := by
  intro args bs out h
  unfold nbAlive_ent at h
  split at h
  · simp only [Option.some.injEq, Prod.mk.injEq] at h
    obtain ⟨_, rfl⟩ := h
    exact nbAlive_fact 
  · cases h
noncomputable def T_nbAlive : Tbl := Tbl.cons 19 nbAlive_ent T_NbRow
theorem T_nbAlive_ok : CallOk Tryd.prog gTab T_nbAlive := cons_ok T_NbRow_ok nbAlive_ok
def mode12 : FuncId → Nat := fun f => 0
/-! Matrices: which are the same. -/
def eqMI (n : Int) (a : List (Int × List Int)) (m : Int) (b : List (Int × List Int)) : Bool := decide (n = m ∧ a = b)
noncomputable def eqM : Int → List (Int × List Int) → Int → List (Int × List Int) → Bool := Classical.choose (⟨eqMI, rfl⟩ : ∃ f, f = eqMI)
theorem eqM_eq : eqM = eqMI := Classical.choose_spec (⟨eqMI, rfl⟩ : ∃ f, f = eqMI)
def shMI (a : List (Int × List Int)) : Bool := decide (a.length ≤ 1000000) && a.all fun r => decide (r.2.length ≤ 1000000)
noncomputable def shM : List (Int × List Int) → Bool := Classical.choose (⟨shMI, rfl⟩ : ∃ f, f = shMI)
theorem shM_eq : shM = shMI := Classical.choose_spec (⟨shMI, rfl⟩ : ∃ f, f = shMI)
theorem shM_iff {a : List (Int × List Int)} : shM a = true ↔ a.length ≤ 1000000 ∧ ∀ r, r ∈ a → r.2.length ≤ 1000000 := by rw [shM_eq]; unfold shMI; simp
theorem eqM_self (n : Int) (a : List (Int × List Int)) : eqM n a n a = true := by rw [eqM_eq]; unfold eqMI; simp
/-! Rows of several symbols. -/
noncomputable def rowsI (z : Int) (l : List Int) : List (Int × List Int) := l.map fun d => (z, ofS z (nbS z d))
noncomputable def rowsS : Int → List Int → List (Int × List Int) := Classical.choose (⟨rowsI, rfl⟩ : ∃ f, f = rowsI)
theorem rowsS_eq : rowsS = rowsI := Classical.choose_spec (⟨rowsI, rfl⟩ : ∃ f, f = rowsI)
theorem rows_nil (z : Int) : rowsS z [] = [] := by rw [rowsS_eq]; rfl
theorem rows_len (z : Int) (l : List Int) : (rowsS z l).length = l.length := by rw [rowsS_eq]; unfold rowsI; exact List.length_map _
theorem rows_snoc (z : Int) (l : List Int) (d : Int) : rowsS z (l ++ [d]) = rowsS z l ++ [(z, ofS z (nbS z d))] := by rw [rowsS_eq]; unfold rowsI; rw [List.map_append]; rfl
theorem sh_nil : shM [] = true := by rw [shM_iff]; simp
theorem sh_rows {z : Int} {l : List Int} (hz : z ≤ 64) (hl : l.length ≤ 1000000) : shM (rowsS z l) = true := by
  rw [shM_iff, rows_len]
  refine ⟨hl, fun r hr => ?_⟩
  rw [rowsS_eq] at hr
  obtain ⟨d, _, rfl⟩ := List.mem_map.1 hr
  have := nb_ofLen (z := z) (d := d) hz
  show (ofS z (nbS z d)).length ≤ 1000000
  omega
theorem ok_u {l : List Int} (h : okW l = true) {j : Nat} (hj : j < l.length) : (decide (0 ≤ l[j]) && decide (l[j] < 18446744073709551616)) = true := by
  have := okW_iff.1 h _ (List.getElem_mem hj)
  simp; omega
def mode13 : FuncId → Nat := fun f => 0
/-! downpour/neighbours.Rows -/
noncomputable def NbRowsF_s3 {R : Type} (w21 : Int) (w6 : Int) (l : List Int) (z : Int) (w5 : List Int) (w23 : List (Int × List Int)) (w22 : Nat) (c0 : Int → Nat → (List (Int × List Int)) → Option R) (c1 : Nat → (List (Int × List Int)) → Option R) : Option R :=
  br (decide (w21 < w6))
    (bnd (ix l w21) fun e27 =>
    grd ((decide (1 ≤ z) && decide (z ≤ 64)) && eqS_li w5 (tabS z) && (decide (0 ≤ e27) && decide (e27 < 18446744073709551616))) <|
    grd (Nat.beq w23.length w22) <|
    grd (okN (w22 + 1) 32) <|
    c0 (IntKind.i64.wrap (w21 + 1)) ((w23 ++ [(z, (ofS z (nbS z e27)))]).length) (w23 ++ [(z, (ofS z (nbS z e27)))]))
    (c1 w22 w23)
theorem NbRowsF_s3_eq (fuel : Nat) (k : Nat) (K : Ex → St → Option Out) (w21 : Int) (w6 : Int) (l : List Int) (z : Int) (w5 : List Int) (w23 : List (Int × List Int)) (w22 : Nat) : lpN (sub (bodyOf Tryd.prog 16) [1, 1, 1, 1, 1, 0, 1, 0, 0]) (fnX Tryd.prog mode13 T_nbAlive fuel 45 0) 17592186044976 [4, 5, 8, 9, 29, 30, 31] (k + 1) ⟨[(4, .ptr 0 2 0 0), (5, .s (.int .i64 0)), (8, .fn (.func 68) [.agg [.s (.int .i64 z), .li .u64 w5]] []), (9, .ptr 1 2 0 0), (29, .li .u64 l), (30, .s (.int .i64 w6)), (31, .s (.int .i64 w21))], [(0, some ⟨34, .agg [.s (.int .i64 0), .s (.slice none 0 0)], true⟩), (1, some ⟨34, .agg [.s (.int .i64 z), .sl 2 2 0 w22], true⟩), (2, some ⟨29, .lt (.pair (.int .i64) (.sl (.int .u64))) w23, true⟩)], 3, none⟩ K = NbRowsF_s3 w21 w6 l z w5 w23 w22 (fun (a28 : Int) (a29 : Nat) (a30 : List (Int × List Int)) => lpN (sub (bodyOf Tryd.prog 16) [1, 1, 1, 1, 1, 0, 1, 0, 0]) (fnX Tryd.prog mode13 T_nbAlive fuel 45 0) 17592186044976 [4, 5, 8, 9, 29, 30, 31] k ⟨[(4, .ptr 0 2 0 0), (5, .s (.int .i64 0)), (8, .fn (.func 68) [.agg [.s (.int .i64 z), .li .u64 w5]] []), (9, .ptr 1 2 0 0), (29, .li .u64 l), (30, .s (.int .i64 w6)), (31, .s (.int .i64 a28))], [(0, some ⟨34, .agg [.s (.int .i64 0), .s (.slice none 0 0)], true⟩), (1, some ⟨34, .agg [.s (.int .i64 z), .sl 2 2 0 a29], true⟩), (2, some ⟨29, .lt (.pair (.int .i64) (.sl (.int .u64))) a30, true⟩)], 3, none⟩ K) (fun (a31 : Nat) (a32 : List (Int × List Int)) => K (.exit 0) ⟨[(4, .ptr 0 2 0 0), (5, .s (.int .i64 0)), (9, .ptr 1 2 0 0)], [(0, some ⟨34, .agg [.s (.int .i64 0), .s (.slice none 0 0)], true⟩), (1, some ⟨34, .agg [.s (.int .i64 z), .sl 2 2 0 a31], true⟩), (2, some ⟨29, .lt (.pair (.int .i64) (.sl (.int .u64))) a32, true⟩)], 3, none⟩) := by kernel_rfl
noncomputable def NbRowsF_l2 {R : Type} (fuel : Nat) (z : Int) (w5 : List Int) (l : List Int) (w6 : Int) (k0 : Nat → (List (Int × List Int)) → Option R) : Nat → Int → Nat → (List (Int × List Int)) → Option R
  | 0, _, _, _ => none
  | k + 1, w21, w22, w23 =>
    (NbRowsF_s3 w21 w6 l z w5 w23 w22 (fun (a28 : Int) (a29 : Nat) (a30 : List (Int × List Int)) => ( NbRowsF_l2 fuel z w5 l w6 k0 k a28 a29 a30 )) (fun (a31 : Nat) (a32 : List (Int × List Int)) => k0 a31 a32))
theorem NbRowsF_l2_eq (fuel : Nat) (z : Int) (w5 : List Int) (l : List Int) (w6 : Int) (K : Ex → St → Option Out) : ∀ (k : Nat) (w21 : Int) (w22 : Nat) (w23 : List (Int × List Int)), lpN (sub (bodyOf Tryd.prog 16) [1, 1, 1, 1, 1, 0, 1, 0, 0]) (fnX Tryd.prog mode13 T_nbAlive fuel 45 0) 17592186044976 [4, 5, 8, 9, 29, 30, 31] k ⟨[(4, .ptr 0 2 0 0), (5, .s (.int .i64 0)), (8, .fn (.func 68) [.agg [.s (.int .i64 z), .li .u64 w5]] []), (9, .ptr 1 2 0 0), (29, .li .u64 l), (30, .s (.int .i64 w6)), (31, .s (.int .i64 w21))], [(0, some ⟨34, .agg [.s (.int .i64 0), .s (.slice none 0 0)], true⟩), (1, some ⟨34, .agg [.s (.int .i64 z), .sl 2 2 0 w22], true⟩), (2, some ⟨29, .lt (.pair (.int .i64) (.sl (.int .u64))) w23, true⟩)], 3, none⟩ K = NbRowsF_l2 fuel z w5 l w6 (fun (y25 : Nat) (y26 : List (Int × List Int)) => K (.exit 0) ⟨[(4, .ptr 0 2 0 0), (5, .s (.int .i64 0)), (9, .ptr 1 2 0 0)], [(0, some ⟨34, .agg [.s (.int .i64 0), .s (.slice none 0 0)], true⟩), (1, some ⟨34, .agg [.s (.int .i64 z), .sl 2 2 0 y25], true⟩), (2, some ⟨29, .lt (.pair (.int .i64) (.sl (.int .u64))) y26, true⟩)], 3, none⟩) k w21 w22 w23
  | 0, _, _, _ => rfl
  | k + 1, w21, w22, w23 => by
    unfold NbRowsF_l2
    exact (NbRowsF_s3_eq fuel k K w21 w6 l z w5 w23 w22).trans (congr (congr (Eq.refl (NbRowsF_s3 (R := Out) w21 w6 l z w5 w23 w22)) (funext fun a28 => funext fun a29 => funext fun a30 => NbRowsF_l2_eq fuel z w5 l w6 K k a28 a29 a30)) (rfl))
noncomputable def NbRowsF_s2 {R : Type} (w6 : Int) (l : List Int) (z : Int) (w5 : List Int) (c0 : Int → Nat → (List (Int × List Int)) → Option R) (c1 : Option R) : Option R :=
  br (decide (0 < w6))
    (bnd (ix l 0) fun e18 =>
    grd ((decide (1 ≤ z) && decide (z ≤ 64)) && eqS_li w5 (tabS z) && (decide (0 ≤ e18) && decide (e18 < 18446744073709551616))) <|
    c0 1 1 ([(z, (ofS z (nbS z e18)))]))
    (c1)
theorem NbRowsF_s2_eq (fuel : Nat) (k : Nat) (K : Ex → St → Option Out) (w6 : Int) (l : List Int) (z : Int) (w5 : List Int) : lpN (sub (bodyOf Tryd.prog 16) [1, 1, 1, 1, 1, 0, 1, 0, 0]) (fnX Tryd.prog mode13 T_nbAlive fuel 45 0) 17592186044976 [4, 5, 8, 9, 29, 30, 31] (k + 1) ⟨[(4, .ptr 0 2 0 0), (5, .s (.int .i64 0)), (8, .fn (.func 68) [.agg [.s (.int .i64 z), .li .u64 w5]] []), (9, .ptr 1 2 0 0), (29, .li .u64 l), (30, .s (.int .i64 w6)), (31, .s (.int .i64 0))], [(0, some ⟨34, .agg [.s (.int .i64 0), .s (.slice none 0 0)], true⟩), (1, some ⟨34, .agg [.s (.int .i64 z), .s (.slice none 0 0)], true⟩)], 2, none⟩ K = NbRowsF_s2 w6 l z w5 (fun (a33 : Int) (a34 : Nat) (a35 : List (Int × List Int)) => lpN (sub (bodyOf Tryd.prog 16) [1, 1, 1, 1, 1, 0, 1, 0, 0]) (fnX Tryd.prog mode13 T_nbAlive fuel 45 0) 17592186044976 [4, 5, 8, 9, 29, 30, 31] k ⟨[(4, .ptr 0 2 0 0), (5, .s (.int .i64 0)), (8, .fn (.func 68) [.agg [.s (.int .i64 z), .li .u64 w5]] []), (9, .ptr 1 2 0 0), (29, .li .u64 l), (30, .s (.int .i64 w6)), (31, .s (.int .i64 a33))], [(0, some ⟨34, .agg [.s (.int .i64 0), .s (.slice none 0 0)], true⟩), (1, some ⟨34, .agg [.s (.int .i64 z), .sl 2 2 0 a34], true⟩), (2, some ⟨29, .lt (.pair (.int .i64) (.sl (.int .u64))) a35, true⟩)], 3, none⟩ K) (K (.exit 0) ⟨[(4, .ptr 0 2 0 0), (5, .s (.int .i64 0)), (9, .ptr 1 2 0 0)], [(0, some ⟨34, .agg [.s (.int .i64 0), .s (.slice none 0 0)], true⟩), (1, some ⟨34, .agg [.s (.int .i64 z), .s (.slice none 0 0)], true⟩)], 2, none⟩) := by kernel_rfl
noncomputable def NbRowsF_l1 {R : Type} (fuel : Nat) (z : Int) (l : List Int) (k0 : Nat → (List (Int × List Int)) → Option R) (k1 : Option R) : Nat → List Int → Int → Option R
  | 0, _, _ => none
  | k + 1, w5, w6 =>
    (NbRowsF_s2 w6 l z w5 (fun (a33 : Int) (a34 : Nat) (a35 : List (Int × List Int)) => (NbRowsF_l2 fuel z w5 l w6 (fun (x36 : Nat) (x37 : List (Int × List Int)) => k0 x36 x37) k a33 a34 a35)) (k1))
theorem NbRowsF_l1_eq (fuel : Nat) (z : Int) (l : List Int) (K : Ex → St → Option Out) : ∀ (k : Nat) (w5 : List Int) (w6 : Int), lpN (sub (bodyOf Tryd.prog 16) [1, 1, 1, 1, 1, 0, 1, 0, 0]) (fnX Tryd.prog mode13 T_nbAlive fuel 45 0) 17592186044976 [4, 5, 8, 9, 29, 30, 31] k ⟨[(4, .ptr 0 2 0 0), (5, .s (.int .i64 0)), (8, .fn (.func 68) [.agg [.s (.int .i64 z), .li .u64 w5]] []), (9, .ptr 1 2 0 0), (29, .li .u64 l), (30, .s (.int .i64 w6)), (31, .s (.int .i64 0))], [(0, some ⟨34, .agg [.s (.int .i64 0), .s (.slice none 0 0)], true⟩), (1, some ⟨34, .agg [.s (.int .i64 z), .s (.slice none 0 0)], true⟩)], 2, none⟩ K = NbRowsF_l1 fuel z l (fun (y16 : Nat) (y17 : List (Int × List Int)) => K (.exit 0) ⟨[(4, .ptr 0 2 0 0), (5, .s (.int .i64 0)), (9, .ptr 1 2 0 0)], [(0, some ⟨34, .agg [.s (.int .i64 0), .s (.slice none 0 0)], true⟩), (1, some ⟨34, .agg [.s (.int .i64 z), .sl 2 2 0 y16], true⟩), (2, some ⟨29, .lt (.pair (.int .i64) (.sl (.int .u64))) y17, true⟩)], 3, none⟩) (K (.exit 0) ⟨[(4, .ptr 0 2 0 0), (5, .s (.int .i64 0)), (9, .ptr 1 2 0 0)], [(0, some ⟨34, .agg [.s (.int .i64 0), .s (.slice none 0 0)], true⟩), (1, some ⟨34, .agg [.s (.int .i64 z), .s (.slice none 0 0)], true⟩)], 2, none⟩) k w5 w6
  | 0, _, _ => rfl
  | k + 1, w5, w6 => by
    unfold NbRowsF_l1
    exact (NbRowsF_s2_eq fuel k K w6 l z w5).trans (congr (congr (Eq.refl (NbRowsF_s2 (R := Out) w6 l z w5)) (funext fun a33 => funext fun a34 => funext fun a35 => NbRowsF_l2_eq fuel z w5 l w6 K k a33 a34 a35)) (rfl))
noncomputable def NbRowsF_s4 {R : Type} (z : Int) (x41 : List (Int × List Int)) (x40 : Nat) (c0 : Int → (List (Int × List Int)) → Int → Option R) : Option R :=
  c0 z ((x41.drop 0).take x40) 0
theorem NbRowsF_s4_eq (fuel : Nat)  (z : Int) (x41 : List (Int × List Int)) (x40 : Nat) : (kont (fnX Tryd.prog mode13 T_nbAlive fuel 45 0) (bodyOf Tryd.prog 16) [1, 1, 1, 1, 1, 0, 1, 0] 48 (endK Tryd.prog 0 0 16)) (.exit 0) ⟨[(4, .ptr 0 2 0 0), (5, .s (.int .i64 0)), (9, .ptr 1 2 0 0)], [(0, some ⟨34, .agg [.s (.int .i64 0), .s (.slice none 0 0)], true⟩), (1, some ⟨34, .agg [.s (.int .i64 z), .sl 2 2 0 x40], true⟩), (2, some ⟨29, .lt (.pair (.int .i64) (.sl (.int .u64))) x41, true⟩)], 3, none⟩ = NbRowsF_s4 z x41 x40 (fun (a42 : Int) (a43 : List (Int × List Int)) (a44 : Int) => some (.tup [.agg [.s (.int .i64 a42), .lt (.pair (.int .i64) (.sl (.int .u64))) a43], .s (.int .i64 a44)], [])) := by kernel_rfl
noncomputable def NbRowsF_s5 {R : Type} (z : Int) (c0 : Int → Int → Option R) : Option R :=
  c0 z 0
theorem NbRowsF_s5_eq (fuel : Nat)  (z : Int) : (kont (fnX Tryd.prog mode13 T_nbAlive fuel 45 0) (bodyOf Tryd.prog 16) [1, 1, 1, 1, 1, 0, 1, 0] 48 (endK Tryd.prog 0 0 16)) (.exit 0) ⟨[(4, .ptr 0 2 0 0), (5, .s (.int .i64 0)), (9, .ptr 1 2 0 0)], [(0, some ⟨34, .agg [.s (.int .i64 0), .s (.slice none 0 0)], true⟩), (1, some ⟨34, .agg [.s (.int .i64 z), .s (.slice none 0 0)], true⟩)], 2, none⟩ = NbRowsF_s5 z (fun (a45 : Int) (a46 : Int) => some (.tup [.agg [.s (.int .i64 a45), .s (.slice none 0 0)], .s (.int .i64 a46)], [])) := by kernel_rfl
noncomputable def NbRowsF_s1 {R : Type} (z : Int) (l : List Int) (c0 : Int → Int → Option R) (c1 : List Int → Int → Option R) : Option R :=
  br (((if (decide (1 ≤ z) && decide (z ≤ 64)) = true then 0 else 2) : Int) != 0)
    (c0 0 2)
    (br (decide ((((l.length : Nat) : Int) : Int) > 64))
      (c0 0 2)
      (c1 (if (decide (1 ≤ z) && decide (z ≤ 64)) = true then tabS z else []) ((l.length : Nat) : Int)))
theorem NbRowsF_s1_eq (fuel : Nat)  (z : Int) (l : List Int) : callN Tryd.prog mode13 T_nbAlive fuel 16 [.s (.int .i64 z), .li .u64 l] [] = NbRowsF_s1 z l (fun (a1 : Int) (a2 : Int) => some (.tup [.agg [.s (.int .i64 a1), .s (.slice none 0 0)], .s (.int .i64 a2)], [])) (fun (a38 : List Int) (a39 : Int) => lpN (sub (bodyOf Tryd.prog 16) [1, 1, 1, 1, 1, 0, 1, 0, 0]) (fnX Tryd.prog mode13 T_nbAlive fuel 45 0) 17592186044976 [4, 5, 8, 9, 29, 30, 31] fuel ⟨[(4, .ptr 0 2 0 0), (5, .s (.int .i64 0)), (8, .fn (.func 68) [.agg [.s (.int .i64 z), .li .u64 a38]] []), (9, .ptr 1 2 0 0), (29, .li .u64 l), (30, .s (.int .i64 a39)), (31, .s (.int .i64 0))], [(0, some ⟨34, .agg [.s (.int .i64 0), .s (.slice none 0 0)], true⟩), (1, some ⟨34, .agg [.s (.int .i64 z), .s (.slice none 0 0)], true⟩)], 2, none⟩ (kont (fnX Tryd.prog mode13 T_nbAlive fuel 45 0) (bodyOf Tryd.prog 16) [1, 1, 1, 1, 1, 0, 1, 0] 48 (endK Tryd.prog 0 0 16))) := by kernel_rfl
noncomputable def NbRowsF {R : Type} (fuel : Nat) (z : Int) (l : List Int) (r0 : Int → Int → Option R) (r1 : Int → (List (Int × List Int)) → Int → Option R) : Option R :=
  (NbRowsF_s1 z l (fun (a1 : Int) (a2 : Int) => r0 a1 a2) (fun (a38 : List Int) (a39 : Int) => (NbRowsF_l1 fuel z l (fun (x40 : Nat) (x41 : List (Int × List Int)) => (NbRowsF_s4 z x41 x40 (fun (a42 : Int) (a43 : List (Int × List Int)) (a44 : Int) => r1 a42 a43 a44))) ((NbRowsF_s5 z (fun (a45 : Int) (a46 : Int) => r0 a45 a46))) fuel a38 a39)))
theorem NbRowsF_eq (fuel : Nat) (z : Int) (l : List Int) : callN Tryd.prog mode13 T_nbAlive fuel 16 [.s (.int .i64 z), .li .u64 l] [] = NbRowsF fuel z l (fun (z0 : Int) (z1 : Int) => some (.tup [.agg [.s (.int .i64 z0), .s (.slice none 0 0)], .s (.int .i64 z1)], [])) (fun (z0 : Int) (z1 : List (Int × List Int)) (z2 : Int) => some (.tup [.agg [.s (.int .i64 z0), .lt (.pair (.int .i64) (.sl (.int .u64))) z1], .s (.int .i64 z2)], [])) := by
  unfold NbRowsF
  exact (NbRowsF_s1_eq fuel  z l).trans (congr (congr (Eq.refl (NbRowsF_s1 (R := Out) z l)) (rfl)) (funext fun a38 => funext fun a39 => (NbRowsF_l1_eq fuel z l (kont (fnX Tryd.prog mode13 T_nbAlive fuel 45 0) (bodyOf Tryd.prog 16) [1, 1, 1, 1, 1, 0, 1, 0] 48 (endK Tryd.prog 0 0 16)) fuel a38 a39).trans (congrFun (congrFun (congrFun (congr (congr (Eq.refl (NbRowsF_l1 (R := Out) fuel z l)) (funext fun x40 => funext fun x41 => (NbRowsF_s4_eq fuel  z x41 x40))) ((NbRowsF_s5_eq fuel  z))) fuel) a38) a39)))
theorem NbRows_more {R : Type} (fuel : Nat) (z : Int) (l : List Int) (hz : (decide (1 ≤ z) && decide (z ≤ 64)) = true) (hok : okW l = true) (hx : l.length ≤ 64) (k0 : Nat → List (Int × List Int) → Option R) : ∀ (k j : Nat), j ≤ l.length → l.length < j + k → NbRowsF_l2 fuel z (tabS z) l (l.length : Int) k0 k (j : Int) j (rowsS z (l.take j)) = k0 l.length (rowsS z l)
  | 0, j, h1, h2 => by omega
  | k + 1, j, h1, h2 => by
    unfold NbRowsF_l2 NbRowsF_s3
    rw [br_if]
    by_cases hc : j < l.length
    · rw [if_pos (by simpa using hc), bnd_of ((ix_nat l j).trans (List.getElem?_eq_getElem hc)), grd_of (by rw [hz, ok_u hok hc]; simp only [Bool.true_and, Bool.and_true]; exact eqS_li_self _), grd_of (by rw [rows_len, List.length_take, Nat.min_eq_left (by omega)]; exact beq_self j), grd_of (okN_of (by omega) (by omega)), wrap_i64 (by omega) (by omega), show (j : Int) + 1 = ((j + 1 : Nat) : Int) by omega]
      dsimp only
      rw [← rows_snoc, ← List.take_succ_eq_append_getElem hc, rows_len, List.length_take, Nat.min_eq_left (by omega)]
      exact NbRows_more fuel z l hz hok hx k0 k (j + 1) (by omega) (by omega)
    · have e : j = l.length := by omega
      subst e
      rw [if_neg (by simp), List.take_length]
theorem NbRows_first {R : Type} (fuel : Nat) (z : Int) (l : List Int) (hz : (decide (1 ≤ z) && decide (z ≤ 64)) = true) (hok : okW l = true) (hx : l.length ≤ 64) (k0 : Nat → List (Int × List Int) → Option R) (k1 : Option R) (k : Nat) (hk : l.length < k) : NbRowsF_l1 fuel z l k0 k1 (k + 1) (tabS z) (l.length : Int) = if l.length = 0 then k1 else k0 l.length (rowsS z l) := by
  unfold NbRowsF_l1 NbRowsF_s2
  dsimp only
  rw [br_if]
  by_cases hc : 0 < l.length
  · have e : rowsS z (l.take 1) = [(z, ofS z (nbS z l[0]))] := by
      rw [show (1 : Nat) = 0 + 1 from rfl, List.take_succ_eq_append_getElem hc, List.take_zero, rows_snoc, rows_nil]; rfl
    have e0 : ix l 0 = some l[0] := (ix_nat l 0).trans (List.getElem?_eq_getElem hc)
    rw [if_pos (by simpa using hc), bnd_of e0, grd_of (by rw [hz, ok_u hok hc]; simp only [Bool.true_and, Bool.and_true]; exact eqS_li_self _), if_neg (by omega)]
    rw [← e]
    exact NbRows_more fuel z l hz hok hx k0 k 1 (by omega) (by omega)
  · rw [if_neg (by simpa using hc), if_pos (by omega)]
theorem NbRows_fact (z : Int) (l : List Int) (hg : (okW l) = true) : Fact Tryd.prog gTab 16 [.s (.int .i64 z), .li .u64 l] [] (.tup [.agg [.s (.int .i64 (if ((decide (1 ≤ z) && decide (z ≤ 64)) && decide (l.length ≤ 64)) = true then z else 0)), .lt (.pair (.int .i64) (.sl (.int .u64))) ((if ((decide (1 ≤ z) && decide (z ≤ 64)) && decide (l.length ≤ 64)) = true then rowsS z l else []) : List (Int × List Int))], .s (.int .i64 (if ((decide (1 ≤ z) && decide (z ≤ 64)) && decide (l.length ≤ 64)) = true then 0 else 2))], []) := by
  by_cases hk : ((decide (1 ≤ z) && decide (z ≤ 64)) && decide (l.length ≤ 64)) = true
  · have hk' := hk
    rw [Bool.and_eq_true] at hk'
    obtain ⟨hz, hx⟩ := hk'
    have hx := of_decide_eq_true hx
    rw [if_pos hk, if_pos hk, if_pos hk]
    have hf := fun k0 k1 => @NbRows_first Out 70 z l hz hg hx k0 k1 69 (by omega)
    by_cases h0 : l.length = 0
    · rw [List.eq_nil_of_length_eq_zero h0] at hf ⊢
      rw [rows_nil]
      refine Fact.out (v := .tup [.agg [.s (.int .i64 z), .s (.slice none 0 0)], .s (.int .i64 0)]) (bs' := []) ?_ (fun _ _ _ x h => RV_tup_two (fun _ h => RVs_two (fun _ h => RV_agg_two (fun _ h => RVs_two (fun _ h => h) (fun _ h => RVs_two (fun _ h => RV_nil_sl (s := .pair (.int .i64) (.sl (.int .u64))) h) (fun _ h => h) h) h) h) (fun _ h => h) h) h)
      refine callN_fact hN hM T_nbAlive_ok (n := 70) (mode := mode13) ?_
      rw [NbRowsF_eq]
      unfold NbRowsF NbRowsF_s1
      rw [br_if, if_pos hz, if_neg (by decide), br_if, if_neg (by decide), if_pos hz]
      dsimp only
      rw [hf, if_pos (List.length_nil (α := Int))]
      rfl
    · refine callN_fact hN hM T_nbAlive_ok (n := 70) (mode := mode13) ?_
      rw [NbRowsF_eq]
      unfold NbRowsF NbRowsF_s1
      rw [br_if, if_pos hz, if_neg (by decide), br_if, if_neg (by simp; omega), if_pos hz]
      dsimp only
      rw [hf, if_neg h0]
      unfold NbRowsF_s4
      rw [List.drop_zero, ← rows_len z l, List.take_length]
  · rw [if_neg hk, if_neg hk, if_neg hk]
    refine Fact.out (v := .tup [.agg [.s (.int .i64 0), .s (.slice none 0 0)], .s (.int .i64 2)]) (bs' := []) ?_ (fun _ _ _ x h => RV_tup_two (fun _ h => RVs_two (fun _ h => RV_agg_two (fun _ h => RVs_two (fun _ h => h) (fun _ h => RVs_two (fun _ h => RV_nil_sl (s := .pair (.int .i64) (.sl (.int .u64))) h) (fun _ h => h) h) h) h) (fun _ h => h) h) h)
    refine callN_fact hN hM T_nbAlive_ok (n := 70) (mode := mode13) ?_
    rw [NbRowsF_eq]
    unfold NbRowsF NbRowsF_s1
    by_cases hz : (decide (1 ≤ z) && decide (z ≤ 64)) = true
    · rw [hz, Bool.true_and] at hk
      rw [if_pos hz, br_if, if_neg (by decide), br_if, if_pos (by simp at hk ⊢; omega)]
    · rw [if_neg hz, br_if, if_pos (by decide)]
noncomputable def NbRows_ent : List V → List Blk → Option (Bool × Out)
  | [.s (.int .i64 z), w0], [] => (asSl (.int .u64) w0).bind fun l => some ((okW l), (.tup [.agg [.s (.int .i64 (if ((decide (1 ≤ z) && decide (z ≤ 64)) && decide (l.length ≤ 64)) = true then z else 0)), .lt (.pair (.int .i64) (.sl (.int .u64))) ((if ((decide (1 ≤ z) && decide (z ≤ 64)) && decide (l.length ≤ 64)) = true then rowsS z l else []) : List (Int × List Int))], .s (.int .i64 (if ((decide (1 ≤ z) && decide (z ≤ 64)) && decide (l.length ≤ 64)) = true then 0 else 2))], []))
  | _, _ => none
theorem NbRows_ok : ∀ args bs out, NbRows_ent args bs = some (true, out) → Fact Tryd.prog gTab 16 args bs out := by
  intro args bs out h
  unfold NbRows_ent at h
  split at h
  · rename_i z w0
    obtain ⟨l, h_l, h⟩ := Option.bind_eq_some_iff.1 h
    simp only [Option.some.injEq, Prod.mk.injEq] at h
    obtain ⟨hg, rfl⟩ := h
    exact (NbRows_fact z l hg).args (fun _ _ _ => fun _ h => RVs_two (fun _ h => h) (fun _ h => RVs_two (fun _ h => RV_li h_l h) (fun _ h => h) h) h)
  · cases h
noncomputable def T_NbRows : Tbl := Tbl.cons 16 NbRows_ent T_nbAlive
theorem T_NbRows_ok : CallOk Tryd.prog gTab T_NbRows := cons_ok T_nbAlive_ok NbRows_ok
end Go.Proofs.YtleagoeimkcekaaDoor
