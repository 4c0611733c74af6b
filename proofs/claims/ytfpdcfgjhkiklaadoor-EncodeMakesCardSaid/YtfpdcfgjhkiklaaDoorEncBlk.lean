/- Blocks, and blocks that a row names: what each function tells. -/
import Derived.Test.YtfpdcfgjhkiklaaDoorPmTab
import Derived.KernelRfl
import Derived.Test.YtfpdcfgjhkiklaaDoorProg
import Derived.Test.YtfpdcfgjhkiklaaDoorNb
import Derived.Test.YtfpdcfgjhkiklaaDoorPlBlk
import Derived.Shelf.Spec.TrailingZeros
set_option autoImplicit false
set_option maxRecDepth 100000
set_option maxHeartbeats 4000000
set_option linter.unusedVariables false
set_option linter.unusedSimpArgs false
namespace Go.Proofs.YtfpdcfgjhkiklaaDoor
open Go Go.PM Go.Proofs Go.Shelf Go.PM.Row Go.PM.Bits Go.PM.Bit Go.PM.Blk
/-! math/bits.TrailingZeros64 -/
def lays29_ren : Go.Shelf.Ren := ⟨fun | 29 => 127 | n => n, fun | 22 => 79 | 3 => 3 | 4 => 4 | 25 => 191 | 54 => 207 | 0 => 0 | 5 => 5 | n => n, fun | 1 => 0 | n => n⟩
theorem lays29 : Go.Proofs.Lays7.n29 Tryd.prog lays29_ren where
  mixed := by kernel_rfl
  f29 := Tryd.func127.trans (congrArg some (by kernel_rfl))
  t0 := Tryd.underlying0
  a0 := Tryd.isAgg0
  z0 := Tryd.sizeOf0
  v0 := Tryd.zeroValue0
  i0 := by kernel_rfl
  t3 := Tryd.underlying3
  a3 := Tryd.isAgg3
  z3 := Tryd.sizeOf3
  v3 := Tryd.zeroValue3
  i3 := by kernel_rfl
  t4 := Tryd.underlying4
  a4 := Tryd.isAgg4
  z4 := Tryd.sizeOf4
  v4 := Tryd.zeroValue4
  i4 := by kernel_rfl
  t5 := Tryd.underlying5
  a5 := Tryd.isAgg5
  z5 := Tryd.sizeOf5
  v5 := Tryd.zeroValue5
  i5 := by kernel_rfl
  t22 := Tryd.underlying79
  a22 := Tryd.isAgg79
  z22 := Tryd.sizeOf79
  v22 := Tryd.zeroValue79
  i22 := by kernel_rfl
  t25 := Tryd.underlying191
  a25 := Tryd.isAgg191
  z25 := Tryd.sizeOf191
  v25 := Tryd.zeroValue191
  i25 := by kernel_rfl
  t54 := Tryd.underlying207
  a54 := Tryd.isAgg207
  z54 := Tryd.sizeOf207
  g1 := by kernel_rfl
noncomputable def tzI (x : Int) : Int := (Lib.ctz 64 x.toNat : Nat)
noncomputable def tzS : Int → Int := Classical.choose (⟨tzI, rfl⟩ : ∃ f, f = tzI)
theorem tzS_eq : tzS = tzI := Classical.choose_spec (⟨tzI, rfl⟩ : ∃ f, f = tzI)
theorem tz_fact (x : Int) (hg : (decide (1 ≤ x) && decide (x < 18446744073709551616)) = true) : Fact Tryd.prog gTab 127 [.s (.int .u64 x)] [] (.s (.int .i64 (tzS x)), []) := by
  simp only [Bool.and_eq_true, decide_eq_true_eq] at hg
  refine fact_pure (Go.PM.enters_of (by kernel_rfl)) fun w ρ I xs hG hr => ?_
  simp only [RVs, RV] at hr
  obtain ⟨y, r, rfl, rfl, rfl⟩ := hr
  have hT : TabAt 0 Lib.deBruijn64tab w := fun j hj => (hG 0 _ rfl).2 j _ (by
    rw [List.getElem?_map, List.getD_eq_getElem?_getD, List.getElem?_eq_getElem hj]; rfl)
  obtain ⟨n, rfl⟩ : ∃ n : Nat, x = (n : Int) := ⟨x.toNat, by omega⟩
  have h := Any7.bits_TrailingZeros64 lays29 n (by omega) w (fun _ => hT)
  refine h.mono fun e w' ⟨he, hw⟩ => ⟨_, he, hw, ?_⟩
  simp only [RV]
  rw [tzS_eq]
  rfl
noncomputable def tz_ent : List V → List Blk → Option (Bool × Out)
  | [.s (.int .u64 x)], [] => some ((decide (1 ≤ x) && decide (x < 18446744073709551616)), (.s (.int .i64 (tzS x)), []))
  | _, _ => none
theorem tz_ok : ∀ args bs out, tz_ent args bs = some (true, out) → Fact Tryd.prog gTab 127 args bs out := by
  intro args bs out h
  unfold tz_ent at h
  split at h
  · rename_i x
    simp only [Option.some.injEq, Prod.mk.injEq] at h
    obtain ⟨hg, rfl⟩ := h
    exact tz_fact x hg
  · cases h
noncomputable def T_tz : Tbl := Tbl.cons 127 tz_ent T_refNbRow
theorem T_tz_ok : CallOk Tryd.prog gTab T_tz := cons_ok T_refNbRow_ok tz_ok
def mode12 : FuncId → Nat := fun f => bif Nat.beq f 77 then 2 else bif Nat.beq f 125 then 2 else bif Nat.beq f 78 then 2 else 0
/-! downpour/bitrow.places -/
noncomputable def placesF_s1 {R : Type} (n : Int) (ws : List Int) (c0 : Nat → Int → List Int → Option R) : Option R :=
  c0 0 n ws
theorem placesF_s1_eq (fuel : Nat)  (n : Int) (ws : List Int) : callN Tryd.prog mode12 T_tz fuel 78 [.agg [vI n, vW ws]] [] = placesF_s1 n ws (fun a1 a2 a3 => some (.fn (.func 126) [] [.ptr 0 2 a1 0], [some ⟨44, .agg [vI a2, vW a3], true⟩])) := by kernel_rfl
noncomputable def placesF {R : Type} (fuel : Nat) (n : Int) (ws : List Int) (r0 : Nat → Int → List Int → Option R) : Option R :=
  (placesF_s1 n ws (fun a1 a2 a3 => r0 a1 a2 a3))
theorem placesF_eq (fuel : Nat) (n : Int) (ws : List Int) : callN Tryd.prog mode12 T_tz fuel 78 [.agg [.s (.int .i64 n), .li .u64 ws]] [] = placesF fuel n ws (fun z0 z1 z2 => some (.fn (.func 126) [] [.ptr 0 2 z0 0], [some ⟨44, .agg [.s (.int .i64 z1), .li .u64 z2], true⟩])) := by
  unfold placesF
  exact (placesF_s1_eq fuel  n ws)
theorem places_fact (n : Int) (ws : List Int) : Fact Tryd.prog gTab 78 [.agg [.s (.int .i64 n), .li .u64 ws]] [] (.fn (.func 126) [] [.ptr 0 2 0 0], [some ⟨44, .agg [.s (.int .i64 n), .li .u64 ws], true⟩]) := by
  refine callN_fact hN hM T_tz_ok (n := 0) (mode := mode12) ?_
  rw [placesF_eq]
  rfl
noncomputable def places_ent : List V → List Blk → Option (Bool × Out)
  | [.agg [.s (.int .i64 n), w0]], [] => (asSl (.int .u64) w0).bind fun ws => some (true, (.fn (.func 126) [] [.ptr 0 2 0 0], [some ⟨44, .agg [.s (.int .i64 n), .li .u64 ws], true⟩]))
  | _, _ => none
theorem places_ok : ∀ args bs out, places_ent args bs = some (true, out) → Fact Tryd.prog gTab 78 args bs out := by
  intro args bs out h
  unfold places_ent at h
  split at h
  · rename_i n w0
    obtain ⟨ws, h_ws, h⟩ := Option.bind_eq_some_iff.1 h
    simp only [Option.some.injEq, Prod.mk.injEq] at h
    obtain ⟨_, rfl⟩ := h
    exact (places_fact n ws).args (fun _ _ _ => fun _ h => RVs_two (fun _ h => RV_agg_two (fun _ h => RVs_two (fun _ h => h) (fun _ h => RVs_two (fun _ h => RV_li h_ws h) (fun _ h => h) h) h) h) (fun _ h => h) h)
  · cases h
noncomputable def T_places : Tbl := Tbl.cons 78 places_ent T_tz
theorem T_places_ok : CallOk Tryd.prog gTab T_places := cons_ok T_tz_ok places_ok
/-! slices.AppendSeq[[]int,int] -/
noncomputable abbrev qd0 : List (Nat × V) := [(2, .ptr 1 1 0 0), (4, vN), (6, .fn (.func 126) [] [.ptr 0 2 0 0])]
noncomputable abbrev qd1 : Code := (sub (bodyOf Tryd.prog 125) [1, 0, 1, 0, 0])
noncomputable abbrev qd2 : Code := (sub (bodyOf Tryd.prog 125) [1, 0, 1, 0, 1])
noncomputable abbrev qd3 (n : Int) (ws : List Int) : Nat × Option Blk := (0, some ⟨44, .agg [vI n, vW ws], true⟩)
noncomputable abbrev qd4 (fuel : Nat) : Ctx Out := (fnX Tryd.prog mode12 T_places fuel 13 1)
noncomputable abbrev qd5 : Code := (sub (bodyOf Tryd.prog 126) [1, 0, 0])
noncomputable abbrev qd6 : Nat × Option Blk := (1, some ⟨26, .agg [vN], true⟩)
noncomputable abbrev qd7 : List Nat := [0, 3, 4, 6, 7, 8, 9, 10, 11, 12]
noncomputable abbrev qd8 : Code := (sub qd5 [1, 1, 0, 0, 1, 0, 0])
noncomputable abbrev qd9 : List Nat := [0, 6, 7, 8]
noncomputable def plcAppF_s4 {R : Type} (w0 : Int) (w1 : List Int) (w2 : Nat) (w3 : Int) (ws : List Int) (w4 : Int) (w5 : Bool) (e0 n : Int) (c0 : Int → Nat → List Int → Option R) (c1 : Int → Bool → Nat → List Int → Option R) : Option R :=
  br (w0 != 0)
    (grd (decide (1 ≤ w0) && decide (w0 < 18446744073709551616)) <|
    grd (Nat.beq w1.length w2) <|
    grd (okN (w2 + 1) 8) <|
    c0 (andI .u64 w0 (IntKind.u64.wrap (w0 - 1))) ((w1 ++ [(IntKind.i64.wrap ((IntKind.i64.wrap (w3 * 64)) + (tzS w0)))]).length) (w1 ++ [(IntKind.i64.wrap ((IntKind.i64.wrap (w3 * 64)) + (tzS w0)))]))
    (c1 w0 (w0 != 0) w2 w1)
theorem plcAppF_s4_eq (fuel k : Nat) (K : Ex → St → Option Out) (w0 : Int) (w1 : List Int) (w2 : Nat) (w3 : Int) (ws : List Int) (w4 : Int) (w5 : Bool) (e0 n : Int) : lpN qd8 (itX Tryd.prog mode12 T_places fuel 3 28 3 2 (roundK (evC qd1) (evC qd2) (qd4 fuel) #[7] 3876 qd0)) 268435417 qd7 (k + 1) ⟨[(0, .yl 2), (3, vI w3), (4, vU w0), (6, vW ws), (7, vI w4), (8, vI w3), (9, vB w5), (10, vI w3), (11, .lp [vU e0] 0), (12, vU e0)], [(qd3 n ws), (1, some ⟨26, .agg [.sl 3 1 0 w2], true⟩), (2, none), (3, bL 3 w1)], 4, none⟩ K = plcAppF_s4 w0 w1 w2 w3 ws w4 w5 e0 n (fun a0 a1 a2 => lpN qd8 (itX Tryd.prog mode12 T_places fuel 3 28 3 2 (roundK (evC qd1) (evC qd2) (qd4 fuel) #[7] 3876 qd0)) 268435417 qd7 k ⟨[(0, .yl 2), (3, vI w3), (4, vU a0), (6, vW ws), (7, vI w4), (8, vI w3), (9, vB w5), (10, vI w3), (11, .lp [vU e0] 0), (12, vU e0)], [(qd3 n ws), (1, some ⟨26, .agg [.sl 3 1 0 a1], true⟩), (2, none), (3, bL 3 a2)], 4, none⟩ K) (fun a3 a4 a5 a6 => K (.exit 2) ⟨[(0, .yl 2), (3, vI w3), (4, vU a3), (6, vW ws), (7, vI w4), (8, vI w3), (9, vB w5), (10, vI w3), (11, .lp [vU e0] 0), (12, vU e0), (13, vU a3), (14, vB a4)], [(qd3 n ws), (1, some ⟨26, .agg [.sl 3 1 0 a5], true⟩), (2, none), (3, bL 3 a6)], 4, none⟩) := by kernel_rfl
noncomputable def plcAppF_l3 {R : Type} (fuel : Nat) (w0 : Int) (ws : List Int) (w1 : Int) (w2 : Bool) (e0 n : Int) (k0 : Int → Bool → Nat → List Int → Option R) : Nat → Int → Nat → List Int → Option R
  | 0, _, _, _ => none
  | k + 1, w3, w4, w5 =>
    (plcAppF_s4 w3 w5 w4 w0 ws w1 w2 e0 n (fun a0 a1 a2 => ( plcAppF_l3 fuel w0 ws w1 w2 e0 n k0 k a0 a1 a2 )) (fun a3 a4 a5 a6 => k0 a3 a4 a5 a6))
theorem plcAppF_l3_eq (fuel : Nat) (w0 : Int) (ws : List Int) (w1 : Int) (w2 : Bool) (e0 n : Int) (K : Ex → St → Option Out) : ∀ (k : Nat) (w3 : Int) (w4 : Nat) (w5 : List Int), lpN qd8 (itX Tryd.prog mode12 T_places fuel 3 28 3 2 (roundK (evC qd1) (evC qd2) (qd4 fuel) #[7] 3876 qd0)) 268435417 qd7 k ⟨[(0, .yl 2), (3, vI w0), (4, vU w3), (6, vW ws), (7, vI w1), (8, vI w0), (9, vB w2), (10, vI w0), (11, .lp [vU e0] 0), (12, vU e0)], [(qd3 n ws), (1, some ⟨26, .agg [.sl 3 1 0 w4], true⟩), (2, none), (3, bL 3 w5)], 4, none⟩ K = plcAppF_l3 fuel w0 ws w1 w2 e0 n (fun y0 y1 y2 y3 => K (.exit 2) ⟨[(0, .yl 2), (3, vI w0), (4, vU y0), (6, vW ws), (7, vI w1), (8, vI w0), (9, vB w2), (10, vI w0), (11, .lp [vU e0] 0), (12, vU e0), (13, vU y0), (14, vB y1)], [(qd3 n ws), (1, some ⟨26, .agg [.sl 3 1 0 y2], true⟩), (2, none), (3, bL 3 y3)], 4, none⟩) k w3 w4 w5
  | 0, _, _, _ => rfl
  | k + 1, w3, w4, w5 => by
    unfold plcAppF_l3
    exact (plcAppF_s4_eq fuel k K w3 w5 w4 w0 ws w1 w2 e0 n).trans (congr (congr (Eq.refl (plcAppF_s4 (R := Out) w3 w5 w4 w0 ws w1 w2 e0 n)) (funext fun a0 => funext fun a1 => funext fun a2 => plcAppF_l3_eq fuel w0 ws w1 w2 e0 n K k a0 a1 a2)) (rfl))
noncomputable def plcAppF_s3 {R : Type} (e0 w0 : Int) (w1 : Bool) (ws : List Int) (w2 n : Int) (c0 : Int → Nat → List Int → Option R) (c1 : Bool → Bool → Option R) : Option R :=
  br (e0 != 0)
    (grd (decide (1 ≤ e0) && decide (e0 < 18446744073709551616)) <|
    c0 (andI .u64 e0 (IntKind.u64.wrap (e0 - 1))) 1 ([(IntKind.i64.wrap ((IntKind.i64.wrap (w0 * 64)) + (tzS e0)))]))
    (c1 w1 (e0 != 0))
theorem plcAppF_s3_eq (fuel k : Nat) (K : Ex → St → Option Out) (e0 w0 : Int) (w1 : Bool) (ws : List Int) (w2 n : Int) : lpN qd8 (itX Tryd.prog mode12 T_places fuel 3 28 3 2 (roundK (evC qd1) (evC qd2) (qd4 fuel) #[7] 3876 qd0)) 268435417 qd7 (k + 1) ⟨[(0, .yl 2), (3, vI w0), (4, vU e0), (6, vW ws), (7, vI w2), (8, vI w0), (9, vB w1), (10, vI w0), (11, .lp [vU e0] 0), (12, vU e0)], [(qd3 n ws), qd6, (2, none)], 3, none⟩ K = plcAppF_s3 e0 w0 w1 ws w2 n (fun a0 a1 a2 => lpN qd8 (itX Tryd.prog mode12 T_places fuel 3 28 3 2 (roundK (evC qd1) (evC qd2) (qd4 fuel) #[7] 3876 qd0)) 268435417 qd7 k ⟨[(0, .yl 2), (3, vI w0), (4, vU a0), (6, vW ws), (7, vI w2), (8, vI w0), (9, vB w1), (10, vI w0), (11, .lp [vU e0] 0), (12, vU e0)], [(qd3 n ws), (1, some ⟨26, .agg [.sl 3 1 0 a1], true⟩), (2, none), (3, bL 3 a2)], 4, none⟩ K) (fun a3 a4 => K (.exit 2) ⟨[(0, .yl 2), (3, vI w0), (4, vU e0), (6, vW ws), (7, vI w2), (8, vI w0), (9, vB a3), (10, vI w0), (11, .lp [vU e0] 0), (12, vU e0), (13, vU e0), (14, vB a4)], [(qd3 n ws), qd6, (2, none)], 3, none⟩) := by kernel_rfl
noncomputable def plcAppF_l2 {R : Type} (fuel : Nat) (w0 e0 : Int) (ws : List Int) (w1 n : Int) (k0 : Int → Bool → Bool → Nat → List Int → Option R) (k1 : Bool → Bool → Option R) : Nat → Bool → Option R
  | 0, _ => none
  | k + 1, w2 =>
    (plcAppF_s3 e0 w0 w2 ws w1 n (fun a0 a1 a2 => (plcAppF_l3 fuel w0 ws w1 w2 e0 n (fun x0 x1 x2 x3 => k0 x0 w2 x1 x2 x3) k a0 a1 a2)) (fun a3 a4 => k1 a3 a4))
theorem plcAppF_l2_eq (fuel : Nat) (w0 e0 : Int) (ws : List Int) (w1 n : Int) (K : Ex → St → Option Out) : ∀ (k : Nat) (w2 : Bool), lpN qd8 (itX Tryd.prog mode12 T_places fuel 3 28 3 2 (roundK (evC qd1) (evC qd2) (qd4 fuel) #[7] 3876 qd0)) 268435417 qd7 k ⟨[(0, .yl 2), (3, vI w0), (4, vU e0), (6, vW ws), (7, vI w1), (8, vI w0), (9, vB w2), (10, vI w0), (11, .lp [vU e0] 0), (12, vU e0)], [(qd3 n ws), qd6, (2, none)], 3, none⟩ K = plcAppF_l2 fuel w0 e0 ws w1 n (fun y0 y1 y2 y3 y4 => K (.exit 2) ⟨[(0, .yl 2), (3, vI w0), (4, vU y0), (6, vW ws), (7, vI w1), (8, vI w0), (9, vB y1), (10, vI w0), (11, .lp [vU e0] 0), (12, vU e0), (13, vU y0), (14, vB y2)], [(qd3 n ws), (1, some ⟨26, .agg [.sl 3 1 0 y3], true⟩), (2, none), (3, bL 3 y4)], 4, none⟩) (fun y5 y6 => K (.exit 2) ⟨[(0, .yl 2), (3, vI w0), (4, vU e0), (6, vW ws), (7, vI w1), (8, vI w0), (9, vB y5), (10, vI w0), (11, .lp [vU e0] 0), (12, vU e0), (13, vU e0), (14, vB y6)], [(qd3 n ws), qd6, (2, none)], 3, none⟩) k w2
  | 0, _ => rfl
  | k + 1, w2 => by
    unfold plcAppF_l2
    exact (plcAppF_s3_eq fuel k K e0 w0 w2 ws w1 n).trans (congr (congr (Eq.refl (plcAppF_s3 (R := Out) e0 w0 w2 ws w1 n)) (funext fun a0 => funext fun a1 => funext fun a2 => plcAppF_l3_eq fuel w0 ws w1 w2 e0 n K k a0 a1 a2)) (rfl))
noncomputable def plcAppF_s7 {R : Type} (w0 : Int) (w1 : List Int) (w2 : Nat) (w3 : Bool) (w4 : Int) (ws : List Int) (w5 e0 n : Int) (c0 : Int → Bool → Nat → List Int → Option R) (c1 : Int → Bool → Bool → Nat → List Int → Option R) : Option R :=
  br (w0 != 0)
    (grd (decide (1 ≤ w0) && decide (w0 < 18446744073709551616)) <|
    grd (Nat.beq w1.length w2) <|
    grd (okN (w2 + 1) 8) <|
    c0 (andI .u64 w0 (IntKind.u64.wrap (w0 - 1))) w3 ((w1 ++ [(IntKind.i64.wrap ((IntKind.i64.wrap (w4 * 64)) + (tzS w0)))]).length) (w1 ++ [(IntKind.i64.wrap ((IntKind.i64.wrap (w4 * 64)) + (tzS w0)))]))
    (c1 w0 w3 (w0 != 0) w2 w1)
theorem plcAppF_s7_eq (fuel k : Nat) (K : Ex → St → Option Out) (w0 : Int) (w1 : List Int) (w2 : Nat) (w3 : Bool) (w4 : Int) (ws : List Int) (w5 e0 n : Int) : lpN qd8 (itX Tryd.prog mode12 T_places fuel 3 28 3 2 (roundK (evC qd1) (evC qd2) (qd4 fuel) #[7] 3876 qd0)) 268435417 qd7 (k + 1) ⟨[(0, .yl 2), (3, vI w4), (4, vU w0), (6, vW ws), (7, vI w5), (8, vI w4), (9, vB w3), (10, vI w4), (11, .lp [vU e0] 0), (12, vU e0)], [(qd3 n ws), (1, some ⟨26, .agg [.sl 3 1 0 w2], true⟩), (2, none), (3, bL 3 w1)], 4, none⟩ K = plcAppF_s7 w0 w1 w2 w3 w4 ws w5 e0 n (fun a0 a1 a2 a3 => lpN qd8 (itX Tryd.prog mode12 T_places fuel 3 28 3 2 (roundK (evC qd1) (evC qd2) (qd4 fuel) #[7] 3876 qd0)) 268435417 qd7 k ⟨[(0, .yl 2), (3, vI w4), (4, vU a0), (6, vW ws), (7, vI w5), (8, vI w4), (9, vB a1), (10, vI w4), (11, .lp [vU e0] 0), (12, vU e0)], [(qd3 n ws), (1, some ⟨26, .agg [.sl 3 1 0 a2], true⟩), (2, none), (3, bL 3 a3)], 4, none⟩ K) (fun a4 a5 a6 a7 a8 => K (.exit 2) ⟨[(0, .yl 2), (3, vI w4), (4, vU a4), (6, vW ws), (7, vI w5), (8, vI w4), (9, vB a5), (10, vI w4), (11, .lp [vU e0] 0), (12, vU e0), (13, vU a4), (14, vB a6)], [(qd3 n ws), (1, some ⟨26, .agg [.sl 3 1 0 a7], true⟩), (2, none), (3, bL 3 a8)], 4, none⟩) := by kernel_rfl
noncomputable def plcAppF_l5 {R : Type} (fuel : Nat) (w0 : Int) (ws : List Int) (w1 e0 n : Int) (k0 : Int → Bool → Bool → Nat → List Int → Option R) : Nat → Int → Bool → Nat → List Int → Option R
  | 0, _, _, _, _ => none
  | k + 1, w2, w3, w4, w5 =>
    (plcAppF_s7 w2 w5 w4 w3 w0 ws w1 e0 n (fun a0 a1 a2 a3 => ( plcAppF_l5 fuel w0 ws w1 e0 n k0 k a0 a1 a2 a3 )) (fun a4 a5 a6 a7 a8 => k0 a4 a5 a6 a7 a8))
theorem plcAppF_l5_eq (fuel : Nat) (w0 : Int) (ws : List Int) (w1 e0 n : Int) (K : Ex → St → Option Out) : ∀ (k : Nat) (w2 : Int) (w3 : Bool) (w4 : Nat) (w5 : List Int), lpN qd8 (itX Tryd.prog mode12 T_places fuel 3 28 3 2 (roundK (evC qd1) (evC qd2) (qd4 fuel) #[7] 3876 qd0)) 268435417 qd7 k ⟨[(0, .yl 2), (3, vI w0), (4, vU w2), (6, vW ws), (7, vI w1), (8, vI w0), (9, vB w3), (10, vI w0), (11, .lp [vU e0] 0), (12, vU e0)], [(qd3 n ws), (1, some ⟨26, .agg [.sl 3 1 0 w4], true⟩), (2, none), (3, bL 3 w5)], 4, none⟩ K = plcAppF_l5 fuel w0 ws w1 e0 n (fun y0 y1 y2 y3 y4 => K (.exit 2) ⟨[(0, .yl 2), (3, vI w0), (4, vU y0), (6, vW ws), (7, vI w1), (8, vI w0), (9, vB y1), (10, vI w0), (11, .lp [vU e0] 0), (12, vU e0), (13, vU y0), (14, vB y2)], [(qd3 n ws), (1, some ⟨26, .agg [.sl 3 1 0 y3], true⟩), (2, none), (3, bL 3 y4)], 4, none⟩) k w2 w3 w4 w5
  | 0, _, _, _, _ => rfl
  | k + 1, w2, w3, w4, w5 => by
    unfold plcAppF_l5
    exact (plcAppF_s7_eq fuel k K w2 w5 w4 w3 w0 ws w1 e0 n).trans (congr (congr (Eq.refl (plcAppF_s7 (R := Out) w2 w5 w4 w3 w0 ws w1 e0 n)) (funext fun a0 => funext fun a1 => funext fun a2 => funext fun a3 => plcAppF_l5_eq fuel w0 ws w1 e0 n K k a0 a1 a2 a3)) (rfl))
noncomputable def plcAppF_s8 {R : Type} (w0 : Int) (x0 : Nat) (x1 : List Int) (x2 : Int) (ws : List Int) (w1 : Int) (x3 : Bool) (e0 : Int) (x4 : Bool) (n : Int) (c0 : Int → Nat → List Int → Option R) : Option R :=
  c0 (IntKind.i64.wrap (w0 + 1)) x0 x1
theorem plcAppF_s8_eq (fuel k : Nat) (K : Ex → St → Option Out) (w0 : Int) (x0 : Nat) (x1 : List Int) (x2 : Int) (ws : List Int) (w1 : Int) (x3 : Bool) (e0 : Int) (x4 : Bool) (n : Int) : (kont (itX Tryd.prog mode12 T_places fuel 3 28 3 2 (roundK (evC qd1) (evC qd2) (qd4 fuel) #[7] 3876 qd0)) qd5 [1, 1, 0, 0, 1, 0] 268435417 (rdK qd5 (itX Tryd.prog mode12 T_places fuel 3 28 3 2 (roundK (evC qd1) (evC qd2) (qd4 fuel) #[7] 3876 qd0)) 0 qd9 k K)) (.exit 2) ⟨[(0, .yl 2), (3, vI w0), (4, vU x2), (6, vW ws), (7, vI w1), (8, vI w0), (9, vB x3), (10, vI w0), (11, .lp [vU e0] 0), (12, vU e0), (13, vU x2), (14, vB x4)], [(qd3 n ws), (1, some ⟨26, .agg [.sl 3 1 0 x0], true⟩), (2, none), (3, bL 3 x1)], 4, none⟩ = plcAppF_s8 w0 x0 x1 x2 ws w1 x3 e0 x4 n (fun a0 a1 a2 => lpN qd5 (itX Tryd.prog mode12 T_places fuel 3 28 3 2 (roundK (evC qd1) (evC qd2) (qd4 fuel) #[7] 3876 qd0)) 0 qd9 k ⟨[(0, .yl 2), (6, vW ws), (7, vI w1), (8, vI a0)], [(qd3 n ws), (1, some ⟨26, .agg [.sl 3 1 0 a1], true⟩), (2, none), (3, bL 3 a2)], 4, none⟩ K) := by kernel_rfl
noncomputable def plcAppF_s6 {R : Type} (w0 w1 : Int) (ws : List Int) (w2 : Nat) (w3 : List Int) (n : Int) (c0 : Int → Bool → Nat → List Int → Int → Option R) (c1 : Nat → List Int → Option R) : Option R :=
  br (decide (w0 < w1))
    (bnd (ix ws w0) fun e0 =>
    c0 e0 (decide (w0 < w1)) w2 w3 e0)
    (c1 w2 w3)
theorem plcAppF_s6_eq (fuel k : Nat) (K : Ex → St → Option Out) (w0 w1 : Int) (ws : List Int) (w2 : Nat) (w3 : List Int) (n : Int) : lpN qd5 (itX Tryd.prog mode12 T_places fuel 3 28 3 2 (roundK (evC qd1) (evC qd2) (qd4 fuel) #[7] 3876 qd0)) 0 qd9 (k + 1) ⟨[(0, .yl 2), (6, vW ws), (7, vI w1), (8, vI w0)], [(qd3 n ws), (1, some ⟨26, .agg [.sl 3 1 0 w2], true⟩), (2, none), (3, bL 3 w3)], 4, none⟩ K = plcAppF_s6 w0 w1 ws w2 w3 n (fun a0 a1 a2 a3 e0 => lpN qd8 (itX Tryd.prog mode12 T_places fuel 3 28 3 2 (roundK (evC qd1) (evC qd2) (qd4 fuel) #[7] 3876 qd0)) 268435417 qd7 fuel ⟨[(0, .yl 2), (3, vI w0), (4, vU a0), (6, vW ws), (7, vI w1), (8, vI w0), (9, vB a1), (10, vI w0), (11, .lp [vU e0] 0), (12, vU e0)], [(qd3 n ws), (1, some ⟨26, .agg [.sl 3 1 0 a2], true⟩), (2, none), (3, bL 3 a3)], 4, none⟩ (kont (itX Tryd.prog mode12 T_places fuel 3 28 3 2 (roundK (evC qd1) (evC qd2) (qd4 fuel) #[7] 3876 qd0)) qd5 [1, 1, 0, 0, 1, 0] 268435417 (rdK qd5 (itX Tryd.prog mode12 T_places fuel 3 28 3 2 (roundK (evC qd1) (evC qd2) (qd4 fuel) #[7] 3876 qd0)) 0 qd9 k K))) (fun a4 a5 => K (.exit 0) ⟨[], [(qd3 n ws), (1, some ⟨26, .agg [.sl 3 1 0 a4], true⟩), (2, none), (3, bL 3 a5)], 4, none⟩) := by kernel_rfl
noncomputable def plcAppF_l4 {R : Type} (fuel : Nat) (ws : List Int) (w0 n : Int) (k0 : Nat → List Int → Option R) : Nat → Int → Nat → List Int → Option R
  | 0, _, _, _ => none
  | k + 1, w1, w2, w3 =>
    (plcAppF_s6 w1 w0 ws w2 w3 n (fun a0 a1 a2 a3 e0 => (plcAppF_l5 fuel w1 ws w0 e0 n (fun x0 x1 x2 x3 x4 => (plcAppF_s8 w1 x3 x4 x0 ws w0 x1 e0 x2 n (fun a4 a5 a6 => ( plcAppF_l4 fuel ws w0 n k0 k a4 a5 a6 )))) fuel a0 a1 a2 a3)) (fun a7 a8 => k0 a7 a8))
theorem plcAppF_l4_eq (fuel : Nat) (ws : List Int) (w0 n : Int) (K : Ex → St → Option Out) : ∀ (k : Nat) (w1 : Int) (w2 : Nat) (w3 : List Int), lpN qd5 (itX Tryd.prog mode12 T_places fuel 3 28 3 2 (roundK (evC qd1) (evC qd2) (qd4 fuel) #[7] 3876 qd0)) 0 qd9 k ⟨[(0, .yl 2), (6, vW ws), (7, vI w0), (8, vI w1)], [(qd3 n ws), (1, some ⟨26, .agg [.sl 3 1 0 w2], true⟩), (2, none), (3, bL 3 w3)], 4, none⟩ K = plcAppF_l4 fuel ws w0 n (fun y0 y1 => K (.exit 0) ⟨[], [(qd3 n ws), (1, some ⟨26, .agg [.sl 3 1 0 y0], true⟩), (2, none), (3, bL 3 y1)], 4, none⟩) k w1 w2 w3
  | 0, _, _, _ => rfl
  | k + 1, w1, w2, w3 => by
    unfold plcAppF_l4
    exact (plcAppF_s6_eq fuel k K w1 w0 ws w2 w3 n).trans (congr (congr (Eq.refl (plcAppF_s6 (R := Out) w1 w0 ws w2 w3 n)) (funext fun a0 => funext fun a1 => funext fun a2 => funext fun a3 => funext fun e0 => (plcAppF_l5_eq fuel w1 ws w0 e0 n (kont (itX Tryd.prog mode12 T_places fuel 3 28 3 2 (roundK (evC qd1) (evC qd2) (qd4 fuel) #[7] 3876 qd0)) qd5 [1, 1, 0, 0, 1, 0] 268435417 (rdK qd5 (itX Tryd.prog mode12 T_places fuel 3 28 3 2 (roundK (evC qd1) (evC qd2) (qd4 fuel) #[7] 3876 qd0)) 0 qd9 k K)) fuel a0 a1 a2 a3).trans (congrFun (congrFun (congrFun (congrFun (congrFun (congr (Eq.refl (plcAppF_l5 (R := Out) fuel w1 ws w0 e0 n)) (funext fun x0 => funext fun x1 => funext fun x2 => funext fun x3 => funext fun x4 => (plcAppF_s8_eq fuel k K w1 x3 x4 x0 ws w0 x1 e0 x2 n).trans (congr (Eq.refl (plcAppF_s8 (R := Out) w1 x3 x4 x0 ws w0 x1 e0 x2 n)) (funext fun a4 => funext fun a5 => funext fun a6 => plcAppF_l4_eq fuel ws w0 n K k a4 a5 a6)))) fuel) a0) a1) a2) a3))) (rfl))
noncomputable def plcAppF_s5 {R : Type} (w0 : Int) (x0 : Nat) (x1 : List Int) (x2 : Int) (ws : List Int) (w1 : Int) (x3 : Bool) (e0 : Int) (x4 : Bool) (n : Int) (c0 : Int → Nat → List Int → Option R) : Option R :=
  c0 (IntKind.i64.wrap (w0 + 1)) x0 x1
theorem plcAppF_s5_eq (fuel k : Nat) (K : Ex → St → Option Out) (w0 : Int) (x0 : Nat) (x1 : List Int) (x2 : Int) (ws : List Int) (w1 : Int) (x3 : Bool) (e0 : Int) (x4 : Bool) (n : Int) : (kont (itX Tryd.prog mode12 T_places fuel 3 28 3 2 (roundK (evC qd1) (evC qd2) (qd4 fuel) #[7] 3876 qd0)) qd5 [1, 1, 0, 0, 1, 0] 268435417 (rdK qd5 (itX Tryd.prog mode12 T_places fuel 3 28 3 2 (roundK (evC qd1) (evC qd2) (qd4 fuel) #[7] 3876 qd0)) 0 qd9 k K)) (.exit 2) ⟨[(0, .yl 2), (3, vI w0), (4, vU x2), (6, vW ws), (7, vI w1), (8, vI w0), (9, vB x3), (10, vI w0), (11, .lp [vU e0] 0), (12, vU e0), (13, vU x2), (14, vB x4)], [(qd3 n ws), (1, some ⟨26, .agg [.sl 3 1 0 x0], true⟩), (2, none), (3, bL 3 x1)], 4, none⟩ = plcAppF_s5 w0 x0 x1 x2 ws w1 x3 e0 x4 n (fun a0 a1 a2 => lpN qd5 (itX Tryd.prog mode12 T_places fuel 3 28 3 2 (roundK (evC qd1) (evC qd2) (qd4 fuel) #[7] 3876 qd0)) 0 qd9 k ⟨[(0, .yl 2), (6, vW ws), (7, vI w1), (8, vI a0)], [(qd3 n ws), (1, some ⟨26, .agg [.sl 3 1 0 a1], true⟩), (2, none), (3, bL 3 a2)], 4, none⟩ K) := by kernel_rfl
noncomputable def plcAppF_s9 {R : Type} (w0 w1 e0 : Int) (ws : List Int) (x0 x1 : Bool) (n : Int) (c0 : Int → Int → Option R) : Option R :=
  c0 w0 (IntKind.i64.wrap (w1 + 1))
theorem plcAppF_s9_eq (fuel k : Nat) (K : Ex → St → Option Out) (w0 w1 e0 : Int) (ws : List Int) (x0 x1 : Bool) (n : Int) : (kont (itX Tryd.prog mode12 T_places fuel 3 28 3 2 (roundK (evC qd1) (evC qd2) (qd4 fuel) #[7] 3876 qd0)) qd5 [1, 1, 0, 0, 1, 0] 268435417 (rdK qd5 (itX Tryd.prog mode12 T_places fuel 3 28 3 2 (roundK (evC qd1) (evC qd2) (qd4 fuel) #[7] 3876 qd0)) 0 qd9 k K)) (.exit 2) ⟨[(0, .yl 2), (3, vI w1), (4, vU e0), (6, vW ws), (7, vI w0), (8, vI w1), (9, vB x0), (10, vI w1), (11, .lp [vU e0] 0), (12, vU e0), (13, vU e0), (14, vB x1)], [(qd3 n ws), qd6, (2, none)], 3, none⟩ = plcAppF_s9 w0 w1 e0 ws x0 x1 n (fun a0 a1 => lpN qd5 (itX Tryd.prog mode12 T_places fuel 3 28 3 2 (roundK (evC qd1) (evC qd2) (qd4 fuel) #[7] 3876 qd0)) 0 qd9 k ⟨[(0, .yl 2), (6, vW ws), (7, vI a0), (8, vI a1)], [(qd3 n ws), qd6, (2, none)], 3, none⟩ K) := by kernel_rfl
noncomputable def plcAppF_s2 {R : Type} (w0 w1 : Int) (ws : List Int) (n : Int) (c0 : Bool → Int → Option R) (c1 : Option R) : Option R :=
  br (decide (w0 < w1))
    (bnd (ix ws w0) fun e0 =>
    c0 (decide (w0 < w1)) e0)
    (c1)
theorem plcAppF_s2_eq (fuel k : Nat) (K : Ex → St → Option Out) (w0 w1 : Int) (ws : List Int) (n : Int) : lpN qd5 (itX Tryd.prog mode12 T_places fuel 3 28 3 2 (roundK (evC qd1) (evC qd2) (qd4 fuel) #[7] 3876 qd0)) 0 qd9 (k + 1) ⟨[(0, .yl 2), (6, vW ws), (7, vI w1), (8, vI w0)], [(qd3 n ws), qd6, (2, none)], 3, none⟩ K = plcAppF_s2 w0 w1 ws n (fun a0 e0 => lpN qd8 (itX Tryd.prog mode12 T_places fuel 3 28 3 2 (roundK (evC qd1) (evC qd2) (qd4 fuel) #[7] 3876 qd0)) 268435417 qd7 fuel ⟨[(0, .yl 2), (3, vI w0), (4, vU e0), (6, vW ws), (7, vI w1), (8, vI w0), (9, vB a0), (10, vI w0), (11, .lp [vU e0] 0), (12, vU e0)], [(qd3 n ws), qd6, (2, none)], 3, none⟩ (kont (itX Tryd.prog mode12 T_places fuel 3 28 3 2 (roundK (evC qd1) (evC qd2) (qd4 fuel) #[7] 3876 qd0)) qd5 [1, 1, 0, 0, 1, 0] 268435417 (rdK qd5 (itX Tryd.prog mode12 T_places fuel 3 28 3 2 (roundK (evC qd1) (evC qd2) (qd4 fuel) #[7] 3876 qd0)) 0 qd9 k K))) (K (.exit 0) ⟨[], [(qd3 n ws), qd6, (2, none)], 3, none⟩) := by kernel_rfl
noncomputable def plcAppF_l1 {R : Type} (fuel : Nat) (ws : List Int) (n : Int) (k0 : Nat → List Int → Option R) (k1 : Option R) : Nat → Int → Int → Option R
  | 0, _, _ => none
  | k + 1, w0, w1 =>
    (plcAppF_s2 w1 w0 ws n (fun a0 e0 => (plcAppF_l2 fuel w1 e0 ws w0 n (fun x0 x1 x2 x3 x4 => (plcAppF_s5 w1 x3 x4 x0 ws w0 x1 e0 x2 n (fun a1 a2 a3 => (plcAppF_l4 fuel ws w0 n (fun x5 x6 => k0 x5 x6) k a1 a2 a3)))) (fun x7 x8 => (plcAppF_s9 w0 w1 e0 ws x7 x8 n (fun a4 a5 => ( plcAppF_l1 fuel ws n k0 k1 k a4 a5 )))) fuel a0)) (k1))
theorem plcAppF_l1_eq (fuel : Nat) (ws : List Int) (n : Int) (K : Ex → St → Option Out) : ∀ (k : Nat) (w0 w1 : Int), lpN qd5 (itX Tryd.prog mode12 T_places fuel 3 28 3 2 (roundK (evC qd1) (evC qd2) (qd4 fuel) #[7] 3876 qd0)) 0 qd9 k ⟨[(0, .yl 2), (6, vW ws), (7, vI w0), (8, vI w1)], [(qd3 n ws), qd6, (2, none)], 3, none⟩ K = plcAppF_l1 fuel ws n (fun y0 y1 => K (.exit 0) ⟨[], [(qd3 n ws), (1, some ⟨26, .agg [.sl 3 1 0 y0], true⟩), (2, none), (3, bL 3 y1)], 4, none⟩) (K (.exit 0) ⟨[], [(qd3 n ws), qd6, (2, none)], 3, none⟩) k w0 w1
  | 0, _, _ => rfl
  | k + 1, w0, w1 => by
    unfold plcAppF_l1
    exact (plcAppF_s2_eq fuel k K w1 w0 ws n).trans (congr (congr (Eq.refl (plcAppF_s2 (R := Out) w1 w0 ws n)) (funext fun a0 => funext fun e0 => (plcAppF_l2_eq fuel w1 e0 ws w0 n (kont (itX Tryd.prog mode12 T_places fuel 3 28 3 2 (roundK (evC qd1) (evC qd2) (qd4 fuel) #[7] 3876 qd0)) qd5 [1, 1, 0, 0, 1, 0] 268435417 (rdK qd5 (itX Tryd.prog mode12 T_places fuel 3 28 3 2 (roundK (evC qd1) (evC qd2) (qd4 fuel) #[7] 3876 qd0)) 0 qd9 k K)) fuel a0).trans (congrFun (congrFun (congr (congr (Eq.refl (plcAppF_l2 (R := Out) fuel w1 e0 ws w0 n)) (funext fun x0 => funext fun x1 => funext fun x2 => funext fun x3 => funext fun x4 => (plcAppF_s5_eq fuel k K w1 x3 x4 x0 ws w0 x1 e0 x2 n).trans (congr (Eq.refl (plcAppF_s5 (R := Out) w1 x3 x4 x0 ws w0 x1 e0 x2 n)) (funext fun a1 => funext fun a2 => funext fun a3 => plcAppF_l4_eq fuel ws w0 n K k a1 a2 a3)))) (funext fun x5 => funext fun x6 => (plcAppF_s9_eq fuel k K w0 w1 e0 ws x5 x6 n).trans (congr (Eq.refl (plcAppF_s9 (R := Out) w0 w1 e0 ws x5 x6 n)) (funext fun a4 => funext fun a5 => plcAppF_l1_eq fuel ws n K k a4 a5)))) fuel) a0))) (rfl))
noncomputable def plcAppF_s10 {R : Type} (x0 : Nat) (n : Int) (ws x1 : List Int) (c0 : Nat → Nat → Int → List Int → List Int → Option R) : Option R :=
  c0 0 x0 n ws x1
theorem plcAppF_s10_eq (fuel : Nat)  (x0 : Nat) (n : Int) (ws x1 : List Int) : (kont (itX Tryd.prog mode12 T_places fuel 3 28 3 2 (roundK (evC qd1) (evC qd2) (qd4 fuel) #[7] 3876 qd0)) (bodyOf Tryd.prog 126) [1, 0] 0 (itE (behind ⟨qd0, [(qd3 n ws), qd6], 2, none⟩ (kont (qd4 fuel) (bodyOf Tryd.prog 125) [1, 0, 1, 0] 16 (endK Tryd.prog 2 1 125))))) (.exit 0) ⟨[], [(qd3 n ws), (1, some ⟨26, .agg [.sl 3 1 0 x0], true⟩), (2, none), (3, bL 3 x1)], 4, none⟩ = plcAppF_s10 x0 n ws x1 (fun a0 a1 a2 a3 a4 => some (.sl 1 1 a0 a1, [some ⟨44, .agg [vI a2, vW a3], true⟩, bL 3 a4])) := by kernel_rfl
noncomputable def plcAppF_s11 {R : Type} (n : Int) (ws : List Int) (c0 : Int → List Int → Option R) : Option R :=
  c0 n ws
theorem plcAppF_s11_eq (fuel : Nat)  (n : Int) (ws : List Int) : (kont (itX Tryd.prog mode12 T_places fuel 3 28 3 2 (roundK (evC qd1) (evC qd2) (qd4 fuel) #[7] 3876 qd0)) (bodyOf Tryd.prog 126) [1, 0] 0 (itE (behind ⟨qd0, [(qd3 n ws), qd6], 2, none⟩ (kont (qd4 fuel) (bodyOf Tryd.prog 125) [1, 0, 1, 0] 16 (endK Tryd.prog 2 1 125))))) (.exit 0) ⟨[], [(qd3 n ws), qd6, (2, none)], 3, none⟩ = plcAppF_s11 n ws (fun a0 a1 => some (vN, [some ⟨44, .agg [vI a0, vW a1], true⟩])) := by kernel_rfl
noncomputable def plcAppF_s1 {R : Type} (ws : List Int) (n : Int) (c0 : Int → Int → Option R) : Option R :=
  c0 ((ws.length : Nat) : Int) 0
theorem plcAppF_s1_eq (fuel : Nat)  (ws : List Int) (n : Int) : callN Tryd.prog mode12 T_places fuel 125 [vN, .fn (.func 126) [] [.ptr 0 2 0 0]] [⟨44, .agg [vI n, vW ws], true⟩] = plcAppF_s1 ws n (fun a0 a1 => lpN qd5 (itX Tryd.prog mode12 T_places fuel 3 28 3 2 (roundK (evC qd1) (evC qd2) (qd4 fuel) #[7] 3876 qd0)) 0 qd9 fuel ⟨[(0, .yl 2), (6, vW ws), (7, vI a0), (8, vI a1)], [(qd3 n ws), qd6, (2, none)], 3, none⟩ (kont (itX Tryd.prog mode12 T_places fuel 3 28 3 2 (roundK (evC qd1) (evC qd2) (qd4 fuel) #[7] 3876 qd0)) (bodyOf Tryd.prog 126) [1, 0] 0 (itE (behind ⟨qd0, [(qd3 n ws), qd6], 2, none⟩ (kont (qd4 fuel) (bodyOf Tryd.prog 125) [1, 0, 1, 0] 16 (endK Tryd.prog 2 1 125)))))) := by kernel_rfl
noncomputable def plcAppF {R : Type} (fuel : Nat) (n : Int) (ws : List Int) (r0 : Nat → Nat → Int → List Int → List Int → Option R) (r1 : Int → List Int → Option R) : Option R :=
  (plcAppF_s1 ws n (fun a0 a1 => (plcAppF_l1 fuel ws n (fun x0 x1 => (plcAppF_s10 x0 n ws x1 (fun a2 a3 a4 a5 a6 => r0 a2 a3 a4 a5 a6))) ((plcAppF_s11 n ws (fun a7 a8 => r1 a7 a8))) fuel a0 a1)))
theorem plcAppF_eq (fuel : Nat) (n : Int) (ws : List Int) : callN Tryd.prog mode12 T_places fuel 125 [.s (.slice none 0 0), .fn (.func 126) [] [.ptr 0 2 0 0]] [⟨44, .agg [.s (.int .i64 n), .li .u64 ws], true⟩] = plcAppF fuel n ws (fun z0 z1 z2 z3 z4 => some (.sl 1 1 z0 z1, [some ⟨44, .agg [.s (.int .i64 z2), .li .u64 z3], true⟩, some ⟨3, .li .i64 z4, true⟩])) (fun z0 z1 => some (.s (.slice none 0 0), [some ⟨44, .agg [.s (.int .i64 z0), .li .u64 z1], true⟩])) := by
  unfold plcAppF
  exact (plcAppF_s1_eq fuel  ws n).trans (congr (Eq.refl (plcAppF_s1 (R := Out) ws n)) (funext fun a0 => funext fun a1 => (plcAppF_l1_eq fuel ws n (kont (itX Tryd.prog mode12 T_places fuel 3 28 3 2 (roundK (evC qd1) (evC qd2) (qd4 fuel) #[7] 3876 qd0)) (bodyOf Tryd.prog 126) [1, 0] 0 (itE (behind ⟨qd0, [(qd3 n ws), qd6], 2, none⟩ (kont (qd4 fuel) (bodyOf Tryd.prog 125) [1, 0, 1, 0] 16 (endK Tryd.prog 2 1 125))))) fuel a0 a1).trans (congrFun (congrFun (congrFun (congr (congr (Eq.refl (plcAppF_l1 (R := Out) fuel ws n)) (funext fun x0 => funext fun x1 => (plcAppF_s10_eq fuel  x0 n ws x1))) ((plcAppF_s11_eq fuel  n ws))) fuel) a0) a1)))
theorem tz_at {v k : Nat} (h0 : v ≠ 0) (h : v < 2 ^ 64) (hk : k ≤ 8) : IntKind.i64.wrap (IntKind.i64.wrap ((k : Int) * 64) + tzS (v : Int)) = ((64 * k + Lib.ctz 64 v : Nat) : Int) := by
  obtain ⟨_, _, hc⟩ := parts h0 h
  rw [tzS_eq]
  unfold tzI
  rw [Int.toNat_natCast, wrap_i64 (x := (k : Int) * 64) (by omega) (by omega), wrap_i64 (by omega) (by omega)]
  omega
theorem and_less {v : Nat} (h0 : v ≠ 0) (h : v < 2 ^ 64) : andI .u64 (v : Int) (IntKind.u64.wrap ((v : Int) - 1)) = ((v &&& (v - 1) : Nat) : Int) := by
  have e : (v : Int) - 1 = ((v - 1 : Nat) : Int) := by omega
  rw [e, wrap_u64 (by omega) (by omega), andI_nat (by omega) (by omega) (by omega) (by omega), Int.toNat_natCast, Int.toNat_natCast]
theorem and_lt {v : Nat} (h : v < 2 ^ 64) : v &&& (v - 1) < 2 ^ 64 := Nat.lt_of_le_of_lt Nat.and_le_left h
theorem plcApp_in3 {R : Type} (fuel i : Nat) (hi : i ≤ 8) (ws : List Int) (w73 : Int) (b : Bool) (e n : Int) (k0 : Int → Bool → Nat → List Int → Option R) : ∀ (k v : Nat) (acc : List Int), v < 2 ^ 64 → (bitsAt i v).length < k → acc.length + (bitsAt i v).length ≤ 100000 →
    plcAppF_l3 fuel (i : Int) ws w73 b e n k0 k (v : Int) acc.length acc = k0 0 false (acc ++ bitsAt i v).length (acc ++ bitsAt i v)
  | 0, v, acc, hv, hk, ha => by omega
  | k + 1, v, acc, hv, hk, ha => by
    unfold plcAppF_l3 plcAppF_s4
    rw [br_if]
    by_cases h0 : v = 0
    · subst h0
      rw [if_neg (by decide), bitsAt_zero, List.append_nil]
      rfl
    · have hs := bitsAt_step (k := i) h0 hv
      rw [if_pos (by simp; omega), grd_of (by simp; omega), grd_of (beq_self _), grd_of (okN_of (by omega) (by omega)), tz_at h0 hv hi, and_less h0 hv]
      rw [hs] at hk ha ⊢
      simp only [List.length_cons] at hk ha
      have ih := plcApp_in3 fuel i hi ws w73 b e n k0 k (v &&& (v - 1)) (acc ++ [((64 * i + Lib.ctz 64 v : Nat) : Int)]) (and_lt hv) (by omega) (by simp; omega)
      rw [List.append_assoc] at ih
      exact ih
theorem plcApp_in5 {R : Type} (fuel i : Nat) (hi : i ≤ 8) (ws : List Int) (w73 : Int) (e n : Int) (k0 : Int → Bool → Bool → Nat → List Int → Option R) : ∀ (k v : Nat) (b : Bool) (acc : List Int), v < 2 ^ 64 → (bitsAt i v).length < k → acc.length + (bitsAt i v).length ≤ 100000 →
    plcAppF_l5 fuel (i : Int) ws w73 e n k0 k (v : Int) b acc.length acc = k0 0 b false (acc ++ bitsAt i v).length (acc ++ bitsAt i v)
  | 0, v, b, acc, hv, hk, ha => by omega
  | k + 1, v, b, acc, hv, hk, ha => by
    unfold plcAppF_l5 plcAppF_s7
    rw [br_if]
    by_cases h0 : v = 0
    · subst h0
      rw [if_neg (by decide), bitsAt_zero, List.append_nil]
      rfl
    · have hs := bitsAt_step (k := i) h0 hv
      rw [if_pos (by simp; omega), grd_of (by simp; omega), grd_of (beq_self _), grd_of (okN_of (by omega) (by omega)), tz_at h0 hv hi, and_less h0 hv]
      rw [hs] at hk ha ⊢
      simp only [List.length_cons] at hk ha
      have ih := plcApp_in5 fuel i hi ws w73 e n k0 k (v &&& (v - 1)) b (acc ++ [((64 * i + Lib.ctz 64 v : Nat) : Int)]) (and_lt hv) (by omega) (by simp; omega)
      rw [List.append_assoc] at ih
      exact ih
theorem word_get {ws : List Int} (hok : Ok ws) {i : Nat} (hi : i < ws.length) : ix ws (i : Int) = some (((ws.getD i 0).toNat : Nat) : Int) ∧ (ws.getD i 0).toNat < 2 ^ 64 := by
  have hg := hok.getD i
  refine ⟨?_, by omega⟩
  rw [ix_nat, List.getElem?_eq_getElem hi]
  congr 1
  have : ws.getD i 0 = ws[i] := by rw [List.getD_eq_getElem?_getD, List.getElem?_eq_getElem hi]; rfl
  rw [← this]; omega
theorem plcApp_out4 {R : Type} (fuel : Nat) (hf : 66 ≤ fuel) (ws : List Int) (hok : Ok ws) (hl : ws.length ≤ 8) (n : Int) (k0 : Nat → List Int → Option R) : ∀ (k i : Nat) (acc : List Int), i ≤ ws.length → ws.length < i + k → acc.length ≤ 64 * i →
    plcAppF_l4 fuel ws (ws.length : Int) n k0 k (i : Int) acc.length acc = k0 (acc ++ wordsFrom ws (ws.length - i) i).length (acc ++ wordsFrom ws (ws.length - i) i)
  | 0, i, acc, h1, h2, h3 => by omega
  | k + 1, i, acc, h1, h2, h3 => by
    unfold plcAppF_l4 plcAppF_s6
    rw [br_if]
    by_cases hc : i < ws.length
    · obtain ⟨hg, hlt⟩ := word_get hok hc
      have hb := bitsAt_len i (ws.getD i 0).toNat
      rw [if_pos (by simpa using hc), bnd_of hg]
      dsimp only
      rw [plcApp_in5 fuel i (by omega) ws _ _ n _ fuel _ _ acc hlt (by omega) (by omega)]
      unfold plcAppF_s8
      rw [wrap_i64 (by omega) (by omega), show (i : Int) + 1 = ((i + 1 : Nat) : Int) by omega, show ws.length - i = (ws.length - (i + 1)) + 1 by omega, wordsFrom, ← List.append_assoc]
      exact plcApp_out4 fuel hf ws hok hl n k0 k (i + 1) _ (by omega) (by omega) (by rw [List.length_append]; omega)
    · rw [if_neg (by simpa using hc), show ws.length - i = 0 by omega, wordsFrom, List.append_nil]
theorem plcApp_first {R : Type} (fuel : Nat) (hf : 66 ≤ fuel) (ws : List Int) (hok : Ok ws) (hl : ws.length ≤ 8) (n : Int) (k0 : Nat → List Int → Option R) (k1 : Option R) : ∀ (k i : Nat), i ≤ ws.length → ws.length < i + k →
    plcAppF_l1 fuel ws n k0 k1 k (ws.length : Int) (i : Int) = if wordsFrom ws (ws.length - i) i = [] then k1 else k0 (wordsFrom ws (ws.length - i) i).length (wordsFrom ws (ws.length - i) i)
  | 0, i, h1, h2 => by omega
  | k + 1, i, h1, h2 => by
    unfold plcAppF_l1 plcAppF_s2
    rw [br_if]
    by_cases hc : i < ws.length
    · obtain ⟨hg, hlt⟩ := word_get hok hc
      have hb := bitsAt_len i (ws.getD i 0).toNat
      rw [if_pos (by simpa using hc), bnd_of hg]
      dsimp only
      obtain ⟨f, rfl⟩ : ∃ f, fuel = f + 1 := ⟨fuel - 1, by omega⟩
      unfold plcAppF_l2 plcAppF_s3
      dsimp only
      rw [br_if, show ws.length - i = (ws.length - (i + 1)) + 1 by omega, wordsFrom]
      have hw1 : IntKind.i64.wrap ((i : Int) + 1) = ((i + 1 : Nat) : Int) := by rw [wrap_i64 (by omega) (by omega)]; omega
      clear hg
      generalize (ws.getD i 0).toNat = v at *
      by_cases h0 : v = 0
      · rw [h0, if_neg (by decide), bitsAt_zero, List.nil_append]
        unfold plcAppF_s9
        rw [hw1]
        exact plcApp_first (f + 1) hf ws hok hl n k0 k1 k (i + 1) (by omega) (by omega)
      · have hs := bitsAt_step (k := i) h0 hlt
        rw [if_pos (by simp; omega), grd_of (by simp; omega), tz_at h0 hlt (by omega), and_less h0 hlt]
        rw [hs, List.length_cons] at hb
        have h3 := fun k0 => plcApp_in3 (R := R) (f + 1) i (by omega) ws (ws.length : Int) (decide ((i : Int) < (ws.length : Int))) ((v : Nat) : Int) n k0 f _ [((64 * i + Lib.ctz 64 v : Nat) : Int)] (and_lt hlt) (by omega) (by simp; omega)
        rw [List.singleton_append, ← hs] at h3
        rw [show [((64 * i + Lib.ctz 64 v : Nat) : Int)].length = 1 from rfl] at h3
        rw [h3]
        unfold plcAppF_s5
        rw [hw1, if_neg (by rw [hs]; simp)]
        exact plcApp_out4 (f + 1) hf ws hok hl n k0 k (i + 1) _ (by omega) (by omega) (by rw [hs, List.length_cons]; omega)
    · rw [if_neg (by simpa using hc), show ws.length - i = 0 by omega, wordsFrom]
      simp
theorem plcApp_fact (n : Int) (ws : List Int) (hg : (okW ws && decide (ws.length ≤ 8) && decide (1 ≤ (plS ws).length)) = true) : Fact Tryd.prog gTab 125 [.s (.slice none 0 0), .fn (.func 126) [] [.ptr 0 2 0 0]] [⟨44, .agg [.s (.int .i64 n), .li .u64 ws], true⟩] (.sl 1 1 0 ((plS ws).length), [some ⟨44, .agg [.s (.int .i64 n), .li .u64 ws], true⟩, some ⟨3, .li .i64 (plS ws), true⟩]) := by
  simp only [Bool.and_eq_true, decide_eq_true_eq] at hg
  obtain ⟨⟨h1, h2⟩, h3⟩ := hg
  refine callN_fact hN hM T_places_ok (n := 100) (mode := mode12) ?_
  rw [plcAppF_eq]
  unfold plcAppF plcAppF_s1
  have h := fun k0 k1 => plcApp_first (R := Out) 100 (by omega) ws (okW_iff.1 h1) h2 n k0 k1 100 0 (by omega) (by omega)
  have e : plS ws = wordsFrom ws (ws.length - 0) 0 := by rw [plS_eq]; rfl
  rw [← e, Int.natCast_zero] at h
  dsimp only
  rw [h, if_neg (by intro h; rw [h] at h3; simp at h3)]
  rfl
noncomputable def plcApp_ent : List V → List Blk → Option (Bool × Out)
  | [.s (.slice none 0 0), .fn (.func 126) [] [.ptr 0 2 0 0]], [⟨44, .agg [.s (.int .i64 n), .li .u64 ws], true⟩] => some ((okW ws && decide (ws.length ≤ 8) && decide (1 ≤ (plS ws).length)), (.sl 1 1 0 ((plS ws).length), [some ⟨44, .agg [.s (.int .i64 n), .li .u64 ws], true⟩, some ⟨3, .li .i64 (plS ws), true⟩]))
  | _, _ => none
theorem plcApp_ok : ∀ args bs out, plcApp_ent args bs = some (true, out) → Fact Tryd.prog gTab 125 args bs out := by
  intro args bs out h
  unfold plcApp_ent at h
  split at h
  · rename_i n ws
    simp only [Option.some.injEq, Prod.mk.injEq] at h
    obtain ⟨hg, rfl⟩ := h
    exact plcApp_fact n ws hg
  · cases h
noncomputable def T_plcApp : Tbl := Tbl.cons 125 plcApp_ent T_places
theorem T_plcApp_ok : CallOk Tryd.prog gTab T_plcApp := cons_ok T_places_ok plcApp_ok
/-! slices.Collect[int] -/
noncomputable def plcCollF_s1 {R : Type} (ws : List Int) (n : Int) (c0 : Nat → Nat → Int → List Int → List Int → Option R) : Option R :=
  grd (okW ws && decide (ws.length ≤ 8) && decide (1 ≤ (plS ws).length)) <|
  c0 0 ((plS ws).length) n ws (plS ws)
theorem plcCollF_s1_eq (fuel : Nat)  (ws : List Int) (n : Int) : callN Tryd.prog mode12 T_plcApp fuel 77 [.fn (.func 126) [] [.ptr 0 2 0 0]] [⟨44, .agg [vI n, vW ws], true⟩] = plcCollF_s1 ws n (fun a1 a2 a3 a4 a5 => some (.sl 1 1 a1 a2, [some ⟨44, .agg [vI a3, vW a4], true⟩, bL 3 a5])) := by kernel_rfl
noncomputable def plcCollF {R : Type} (fuel : Nat) (n : Int) (ws : List Int) (r0 : Nat → Nat → Int → List Int → List Int → Option R) : Option R :=
  (plcCollF_s1 ws n (fun a1 a2 a3 a4 a5 => r0 a1 a2 a3 a4 a5))
theorem plcCollF_eq (fuel : Nat) (n : Int) (ws : List Int) : callN Tryd.prog mode12 T_plcApp fuel 77 [.fn (.func 126) [] [.ptr 0 2 0 0]] [⟨44, .agg [.s (.int .i64 n), .li .u64 ws], true⟩] = plcCollF fuel n ws (fun z0 z1 z2 z3 z4 => some (.sl 1 1 z0 z1, [some ⟨44, .agg [.s (.int .i64 z2), .li .u64 z3], true⟩, some ⟨3, .li .i64 z4, true⟩])) := by
  unfold plcCollF
  exact (plcCollF_s1_eq fuel  ws n)
theorem plcColl_fact (n : Int) (ws : List Int) (hg : (okW ws && decide (ws.length ≤ 8) && decide (1 ≤ (plS ws).length)) = true) : Fact Tryd.prog gTab 77 [.fn (.func 126) [] [.ptr 0 2 0 0]] [⟨44, .agg [.s (.int .i64 n), .li .u64 ws], true⟩] (.sl 1 1 0 ((plS ws).length), [some ⟨44, .agg [.s (.int .i64 n), .li .u64 ws], true⟩, some ⟨3, .li .i64 (plS ws), true⟩]) := by
  refine callN_fact hN hM T_plcApp_ok (n := 0) (mode := mode12) ?_
  rw [plcCollF_eq]
  unfold plcCollF plcCollF_s1
  rw [grd_of hg]
noncomputable def plcColl_ent : List V → List Blk → Option (Bool × Out)
  | [.fn (.func 126) [] [.ptr 0 2 0 0]], [⟨44, .agg [.s (.int .i64 n), .li .u64 ws], true⟩] => some ((okW ws && decide (ws.length ≤ 8) && decide (1 ≤ (plS ws).length)), (.sl 1 1 0 ((plS ws).length), [some ⟨44, .agg [.s (.int .i64 n), .li .u64 ws], true⟩, some ⟨3, .li .i64 (plS ws), true⟩]))
  | _, _ => none
theorem plcColl_ok : ∀ args bs out, plcColl_ent args bs = some (true, out) → Fact Tryd.prog gTab 77 args bs out := by
  intro args bs out h
  unfold plcColl_ent at h
  split at h
  · rename_i n ws
    simp only [Option.some.injEq, Prod.mk.injEq] at h
    obtain ⟨hg, rfl⟩ := h
    exact plcColl_fact n ws hg
  · cases h
noncomputable def T_plcColl : Tbl := Tbl.cons 77 plcColl_ent T_plcApp
theorem T_plcColl_ok : CallOk Tryd.prog gTab T_plcColl := cons_ok T_plcApp_ok plcColl_ok
noncomputable def plcAF_s1 {R : Type} (ws : List Int) (n : Int) (c0 : Int → Option R) (c1 : List Int → Int → Option R) : Option R :=
  grd (okW ws) <|
  br (!(rtS n ws))
    (c0 1)
    (grd (okW ws && decide (ws.length ≤ 8) && decide (1 ≤ (plS ws).length)) <|
    c1 (((plS ws).drop 0).take ((plS ws).length)) 0)
theorem plcAF_s1_eq (fuel : Nat)  (ws : List Int) (n : Int) : callN Tryd.prog mode12 T_plcColl fuel 26 [.agg [vI n, vW ws]] [] = plcAF_s1 ws n (fun a1 => some (.tup [vN, vI a1], [])) (fun a2 a3 => some (.tup [vL a2, vI a3], [])) := by kernel_rfl
noncomputable def plcAF {R : Type} (fuel : Nat) (n : Int) (ws : List Int) (r0 : Int → Option R) (r1 : List Int → Int → Option R) : Option R :=
  (plcAF_s1 ws n (fun a1 => r0 a1) (fun a2 a3 => r1 a2 a3))
theorem plcAF_eq (fuel : Nat) (n : Int) (ws : List Int) : callN Tryd.prog mode12 T_plcColl fuel 26 [.agg [.s (.int .i64 n), .li .u64 ws]] [] = plcAF fuel n ws (fun z0 => some (.tup [.s (.slice none 0 0), .s (.int .i64 z0)], [])) (fun z0 z1 => some (.tup [.li .i64 z0, .s (.int .i64 z1)], [])) := by
  unfold plcAF
  exact (plcAF_s1_eq fuel  ws n)
def mode13 : FuncId → Nat := fun f => bif Nat.beq f 77 then 2 else bif Nat.beq f 125 then 2 else bif Nat.beq f 78 then 2 else bif Nat.beq f 26 then 2 else 0
/-! downpour/bitrow.Places -/
noncomputable def PlacesOwnF_s1 {R : Type} (ws : List Int) (n : Int) (c0 : Int → Option R) (c1 : Nat → Nat → Int → List Int → Option R) : Option R :=
  grd (okW ws) <|
  br (!(rtS n ws))
    (c0 1)
    (grd (okW ws && decide (ws.length ≤ 8) && decide (1 ≤ (plS ws).length)) <|
    c1 0 ((plS ws).length) 0 (plS ws))
theorem PlacesOwnF_s1_eq (fuel : Nat)  (ws : List Int) (n : Int) : callN Tryd.prog mode13 T_plcColl fuel 26 [.agg [vI n, vW ws]] [] = PlacesOwnF_s1 ws n (fun a1 => some (.tup [vN, vI a1], [])) (fun a2 a3 a4 a5 => some (.tup [.sl 0 1 a2 a3, vI a4], [bL 3 a5])) := by kernel_rfl
noncomputable def PlacesOwnF {R : Type} (fuel : Nat) (n : Int) (ws : List Int) (r0 : Int → Option R) (r1 : Nat → Nat → Int → List Int → Option R) : Option R :=
  (PlacesOwnF_s1 ws n (fun a1 => r0 a1) (fun a2 a3 a4 a5 => r1 a2 a3 a4 a5))
theorem PlacesOwnF_eq (fuel : Nat) (n : Int) (ws : List Int) : callN Tryd.prog mode13 T_plcColl fuel 26 [.agg [.s (.int .i64 n), .li .u64 ws]] [] = PlacesOwnF fuel n ws (fun z0 => some (.tup [.s (.slice none 0 0), .s (.int .i64 z0)], [])) (fun z0 z1 z2 z3 => some (.tup [.sl 0 1 z0 z1, .s (.int .i64 z2)], [some ⟨3, .li .i64 z3, true⟩])) := by
  unfold PlacesOwnF
  exact (PlacesOwnF_s1_eq fuel  ws n)
theorem rt_len {n : Int} {ws : List Int} (h : rtS n ws = true) : ws.length ≤ 8 := by
  obtain ⟨⟨_, h1⟩, h2, _⟩ := rtS_iff.1 h
  have := nw_le h1
  omega
theorem PlacesOwn_fact (n : Int) (ws : List Int) (hg : (okW ws && rtS n ws && decide (1 ≤ (plS ws).length)) = true) : Fact Tryd.prog gTab 26 [.agg [.s (.int .i64 n), .li .u64 ws]] [] (.tup [.sl 0 1 0 ((plS ws).length), .s (.int .i64 0)], [some ⟨3, .li .i64 (plS ws), true⟩]) := by
  simp only [Bool.and_eq_true, decide_eq_true_eq] at hg
  obtain ⟨⟨h1, h2⟩, h3⟩ := hg
  have hl := rt_len h2
  refine callN_fact hN hM T_plcColl_ok (n := 0) (mode := mode13) ?_
  rw [PlacesOwnF_eq]
  unfold PlacesOwnF PlacesOwnF_s1
  rw [grd_of h1, br_if, if_neg (by simp [h2]), grd_of (by simp [h1]; omega)]
noncomputable def PlacesOwn_ent : List V → List Blk → Option (Bool × Out)
  | [.agg [.s (.int .i64 n), w0]], [] => (asSl (.int .u64) w0).bind fun ws => some ((okW ws && rtS n ws && decide (1 ≤ (plS ws).length)), (.tup [.sl 0 1 0 ((plS ws).length), .s (.int .i64 0)], [some ⟨3, .li .i64 (plS ws), true⟩]))
  | _, _ => none
theorem PlacesOwn_ok : ∀ args bs out, PlacesOwn_ent args bs = some (true, out) → Fact Tryd.prog gTab 26 args bs out := by
  intro args bs out h
  unfold PlacesOwn_ent at h
  split at h
  · rename_i n w0
    obtain ⟨ws, h_ws, h⟩ := Option.bind_eq_some_iff.1 h
    simp only [Option.some.injEq, Prod.mk.injEq] at h
    obtain ⟨hg, rfl⟩ := h
    exact (PlacesOwn_fact n ws hg).args (fun _ _ _ => fun _ h => RVs_two (fun _ h => RV_agg_two (fun _ h => RVs_two (fun _ h => h) (fun _ h => RVs_two (fun _ h => RV_li h_ws h) (fun _ h => h) h) h) h) (fun _ h => h) h)
  · cases h
noncomputable def T_PlacesOwn : Tbl := Tbl.cons 26 PlacesOwn_ent T_plcColl
theorem T_PlacesOwn_ok : CallOk Tryd.prog gTab T_PlacesOwn := cons_ok T_plcColl_ok PlacesOwn_ok
def mode14 : FuncId → Nat := fun f => bif Nat.beq f 77 then 2 else bif Nat.beq f 125 then 2 else bif Nat.beq f 78 then 2 else 0
/-! slices.AppendSeq[[]int,int] -/
noncomputable abbrev qd10 : List (Nat × V) := [(2, .ptr 1 1 0 0), (4, vN), (6, .fn (.func 126) [] [.ptr 0 2 0 0])]
noncomputable abbrev qd11 : Code := (sub (bodyOf Tryd.prog 125) [1, 0, 1, 0, 0])
noncomputable abbrev qd12 : Code := (sub (bodyOf Tryd.prog 125) [1, 0, 1, 0, 1])
noncomputable abbrev qd13 (fuel : Nat) : Ctx Out := (fnX Tryd.prog mode14 T_PlacesOwn fuel 13 1)
noncomputable abbrev qd14 (n : Int) (ws : List Int) : Nat × Option Blk := (0, some ⟨44, .agg [vI n, vW ws], true⟩)
noncomputable abbrev qd15 : Code := (sub (bodyOf Tryd.prog 126) [1, 0, 0])
noncomputable abbrev qd16 : Nat × Option Blk := (1, some ⟨26, .agg [vN], true⟩)
noncomputable abbrev qd17 : List Nat := [0, 3, 4, 6, 7, 8, 9, 10, 11, 12]
noncomputable abbrev qd18 : Code := (sub qd15 [1, 1, 0, 0, 1, 0, 0])
noncomputable def plcApp0F_s4 {R : Type} (w0 : Int) (w1 : List Int) (w2 : Nat) (w3 : Int) (ws : List Int) (w4 : Int) (w5 : Bool) (e0 n : Int) (c0 : Int → Nat → List Int → Option R) (c1 : Int → Bool → Nat → List Int → Option R) : Option R :=
  br (w0 != 0)
    (grd (decide (1 ≤ w0) && decide (w0 < 18446744073709551616)) <|
    grd (Nat.beq w1.length w2) <|
    grd (okN (w2 + 1) 8) <|
    c0 (andI .u64 w0 (IntKind.u64.wrap (w0 - 1))) ((w1 ++ [(IntKind.i64.wrap ((IntKind.i64.wrap (w3 * 64)) + (tzS w0)))]).length) (w1 ++ [(IntKind.i64.wrap ((IntKind.i64.wrap (w3 * 64)) + (tzS w0)))]))
    (c1 w0 (w0 != 0) w2 w1)
theorem plcApp0F_s4_eq (fuel k : Nat) (K : Ex → St → Option Out) (w0 : Int) (w1 : List Int) (w2 : Nat) (w3 : Int) (ws : List Int) (w4 : Int) (w5 : Bool) (e0 n : Int) : lpN qd18 (itX Tryd.prog mode14 T_PlacesOwn fuel 3 28 3 2 (roundK (evC qd11) (evC qd12) (qd13 fuel) #[7] 3876 qd10)) 268435417 qd17 (k + 1) ⟨[(0, .yl 2), (3, vI w3), (4, vU w0), (6, vW ws), (7, vI w4), (8, vI w3), (9, vB w5), (10, vI w3), (11, .lp [vU e0] 0), (12, vU e0)], [(qd14 n ws), (1, some ⟨26, .agg [.sl 3 1 0 w2], true⟩), (2, none), (3, bL 3 w1)], 4, none⟩ K = plcApp0F_s4 w0 w1 w2 w3 ws w4 w5 e0 n (fun a0 a1 a2 => lpN qd18 (itX Tryd.prog mode14 T_PlacesOwn fuel 3 28 3 2 (roundK (evC qd11) (evC qd12) (qd13 fuel) #[7] 3876 qd10)) 268435417 qd17 k ⟨[(0, .yl 2), (3, vI w3), (4, vU a0), (6, vW ws), (7, vI w4), (8, vI w3), (9, vB w5), (10, vI w3), (11, .lp [vU e0] 0), (12, vU e0)], [(qd14 n ws), (1, some ⟨26, .agg [.sl 3 1 0 a1], true⟩), (2, none), (3, bL 3 a2)], 4, none⟩ K) (fun a3 a4 a5 a6 => K (.exit 2) ⟨[(0, .yl 2), (3, vI w3), (4, vU a3), (6, vW ws), (7, vI w4), (8, vI w3), (9, vB w5), (10, vI w3), (11, .lp [vU e0] 0), (12, vU e0), (13, vU a3), (14, vB a4)], [(qd14 n ws), (1, some ⟨26, .agg [.sl 3 1 0 a5], true⟩), (2, none), (3, bL 3 a6)], 4, none⟩) := by kernel_rfl
noncomputable def plcApp0F_l3 {R : Type} (fuel : Nat) (w0 : Int) (ws : List Int) (w1 : Int) (w2 : Bool) (e0 n : Int) (k0 : Int → Bool → Nat → List Int → Option R) : Nat → Int → Nat → List Int → Option R
  | 0, _, _, _ => none
  | k + 1, w3, w4, w5 =>
    (plcApp0F_s4 w3 w5 w4 w0 ws w1 w2 e0 n (fun a0 a1 a2 => ( plcApp0F_l3 fuel w0 ws w1 w2 e0 n k0 k a0 a1 a2 )) (fun a3 a4 a5 a6 => k0 a3 a4 a5 a6))
theorem plcApp0F_l3_eq (fuel : Nat) (w0 : Int) (ws : List Int) (w1 : Int) (w2 : Bool) (e0 n : Int) (K : Ex → St → Option Out) : ∀ (k : Nat) (w3 : Int) (w4 : Nat) (w5 : List Int), lpN qd18 (itX Tryd.prog mode14 T_PlacesOwn fuel 3 28 3 2 (roundK (evC qd11) (evC qd12) (qd13 fuel) #[7] 3876 qd10)) 268435417 qd17 k ⟨[(0, .yl 2), (3, vI w0), (4, vU w3), (6, vW ws), (7, vI w1), (8, vI w0), (9, vB w2), (10, vI w0), (11, .lp [vU e0] 0), (12, vU e0)], [(qd14 n ws), (1, some ⟨26, .agg [.sl 3 1 0 w4], true⟩), (2, none), (3, bL 3 w5)], 4, none⟩ K = plcApp0F_l3 fuel w0 ws w1 w2 e0 n (fun y0 y1 y2 y3 => K (.exit 2) ⟨[(0, .yl 2), (3, vI w0), (4, vU y0), (6, vW ws), (7, vI w1), (8, vI w0), (9, vB w2), (10, vI w0), (11, .lp [vU e0] 0), (12, vU e0), (13, vU y0), (14, vB y1)], [(qd14 n ws), (1, some ⟨26, .agg [.sl 3 1 0 y2], true⟩), (2, none), (3, bL 3 y3)], 4, none⟩) k w3 w4 w5
  | 0, _, _, _ => rfl
  | k + 1, w3, w4, w5 => by
    unfold plcApp0F_l3
    exact (plcApp0F_s4_eq fuel k K w3 w5 w4 w0 ws w1 w2 e0 n).trans (congr (congr (Eq.refl (plcApp0F_s4 (R := Out) w3 w5 w4 w0 ws w1 w2 e0 n)) (funext fun a0 => funext fun a1 => funext fun a2 => plcApp0F_l3_eq fuel w0 ws w1 w2 e0 n K k a0 a1 a2)) (rfl))
noncomputable def plcApp0F_s3 {R : Type} (e0 w0 : Int) (w1 : Bool) (ws : List Int) (w2 n : Int) (c0 : Int → Nat → List Int → Option R) (c1 : Bool → Bool → Option R) : Option R :=
  br (e0 != 0)
    (grd (decide (1 ≤ e0) && decide (e0 < 18446744073709551616)) <|
    c0 (andI .u64 e0 (IntKind.u64.wrap (e0 - 1))) 1 ([(IntKind.i64.wrap ((IntKind.i64.wrap (w0 * 64)) + (tzS e0)))]))
    (c1 w1 (e0 != 0))
theorem plcApp0F_s3_eq (fuel k : Nat) (K : Ex → St → Option Out) (e0 w0 : Int) (w1 : Bool) (ws : List Int) (w2 n : Int) : lpN qd18 (itX Tryd.prog mode14 T_PlacesOwn fuel 3 28 3 2 (roundK (evC qd11) (evC qd12) (qd13 fuel) #[7] 3876 qd10)) 268435417 qd17 (k + 1) ⟨[(0, .yl 2), (3, vI w0), (4, vU e0), (6, vW ws), (7, vI w2), (8, vI w0), (9, vB w1), (10, vI w0), (11, .lp [vU e0] 0), (12, vU e0)], [(qd14 n ws), qd16, (2, none)], 3, none⟩ K = plcApp0F_s3 e0 w0 w1 ws w2 n (fun a0 a1 a2 => lpN qd18 (itX Tryd.prog mode14 T_PlacesOwn fuel 3 28 3 2 (roundK (evC qd11) (evC qd12) (qd13 fuel) #[7] 3876 qd10)) 268435417 qd17 k ⟨[(0, .yl 2), (3, vI w0), (4, vU a0), (6, vW ws), (7, vI w2), (8, vI w0), (9, vB w1), (10, vI w0), (11, .lp [vU e0] 0), (12, vU e0)], [(qd14 n ws), (1, some ⟨26, .agg [.sl 3 1 0 a1], true⟩), (2, none), (3, bL 3 a2)], 4, none⟩ K) (fun a3 a4 => K (.exit 2) ⟨[(0, .yl 2), (3, vI w0), (4, vU e0), (6, vW ws), (7, vI w2), (8, vI w0), (9, vB a3), (10, vI w0), (11, .lp [vU e0] 0), (12, vU e0), (13, vU e0), (14, vB a4)], [(qd14 n ws), qd16, (2, none)], 3, none⟩) := by kernel_rfl
noncomputable def plcApp0F_l2 {R : Type} (fuel : Nat) (w0 e0 : Int) (ws : List Int) (w1 n : Int) (k0 : Int → Bool → Bool → Nat → List Int → Option R) (k1 : Bool → Bool → Option R) : Nat → Bool → Option R
  | 0, _ => none
  | k + 1, w2 =>
    (plcApp0F_s3 e0 w0 w2 ws w1 n (fun a0 a1 a2 => (plcApp0F_l3 fuel w0 ws w1 w2 e0 n (fun x0 x1 x2 x3 => k0 x0 w2 x1 x2 x3) k a0 a1 a2)) (fun a3 a4 => k1 a3 a4))
theorem plcApp0F_l2_eq (fuel : Nat) (w0 e0 : Int) (ws : List Int) (w1 n : Int) (K : Ex → St → Option Out) : ∀ (k : Nat) (w2 : Bool), lpN qd18 (itX Tryd.prog mode14 T_PlacesOwn fuel 3 28 3 2 (roundK (evC qd11) (evC qd12) (qd13 fuel) #[7] 3876 qd10)) 268435417 qd17 k ⟨[(0, .yl 2), (3, vI w0), (4, vU e0), (6, vW ws), (7, vI w1), (8, vI w0), (9, vB w2), (10, vI w0), (11, .lp [vU e0] 0), (12, vU e0)], [(qd14 n ws), qd16, (2, none)], 3, none⟩ K = plcApp0F_l2 fuel w0 e0 ws w1 n (fun y0 y1 y2 y3 y4 => K (.exit 2) ⟨[(0, .yl 2), (3, vI w0), (4, vU y0), (6, vW ws), (7, vI w1), (8, vI w0), (9, vB y1), (10, vI w0), (11, .lp [vU e0] 0), (12, vU e0), (13, vU y0), (14, vB y2)], [(qd14 n ws), (1, some ⟨26, .agg [.sl 3 1 0 y3], true⟩), (2, none), (3, bL 3 y4)], 4, none⟩) (fun y5 y6 => K (.exit 2) ⟨[(0, .yl 2), (3, vI w0), (4, vU e0), (6, vW ws), (7, vI w1), (8, vI w0), (9, vB y5), (10, vI w0), (11, .lp [vU e0] 0), (12, vU e0), (13, vU e0), (14, vB y6)], [(qd14 n ws), qd16, (2, none)], 3, none⟩) k w2
  | 0, _ => rfl
  | k + 1, w2 => by
    unfold plcApp0F_l2
    exact (plcApp0F_s3_eq fuel k K e0 w0 w2 ws w1 n).trans (congr (congr (Eq.refl (plcApp0F_s3 (R := Out) e0 w0 w2 ws w1 n)) (funext fun a0 => funext fun a1 => funext fun a2 => plcApp0F_l3_eq fuel w0 ws w1 w2 e0 n K k a0 a1 a2)) (rfl))
noncomputable def plcApp0F_s7 {R : Type} (w0 : Int) (w1 : List Int) (w2 : Nat) (w3 : Bool) (w4 : Int) (ws : List Int) (w5 e0 n : Int) (c0 : Int → Bool → Nat → List Int → Option R) (c1 : Int → Bool → Bool → Nat → List Int → Option R) : Option R :=
  br (w0 != 0)
    (grd (decide (1 ≤ w0) && decide (w0 < 18446744073709551616)) <|
    grd (Nat.beq w1.length w2) <|
    grd (okN (w2 + 1) 8) <|
    c0 (andI .u64 w0 (IntKind.u64.wrap (w0 - 1))) w3 ((w1 ++ [(IntKind.i64.wrap ((IntKind.i64.wrap (w4 * 64)) + (tzS w0)))]).length) (w1 ++ [(IntKind.i64.wrap ((IntKind.i64.wrap (w4 * 64)) + (tzS w0)))]))
    (c1 w0 w3 (w0 != 0) w2 w1)
theorem plcApp0F_s7_eq (fuel k : Nat) (K : Ex → St → Option Out) (w0 : Int) (w1 : List Int) (w2 : Nat) (w3 : Bool) (w4 : Int) (ws : List Int) (w5 e0 n : Int) : lpN qd18 (itX Tryd.prog mode14 T_PlacesOwn fuel 3 28 3 2 (roundK (evC qd11) (evC qd12) (qd13 fuel) #[7] 3876 qd10)) 268435417 qd17 (k + 1) ⟨[(0, .yl 2), (3, vI w4), (4, vU w0), (6, vW ws), (7, vI w5), (8, vI w4), (9, vB w3), (10, vI w4), (11, .lp [vU e0] 0), (12, vU e0)], [(qd14 n ws), (1, some ⟨26, .agg [.sl 3 1 0 w2], true⟩), (2, none), (3, bL 3 w1)], 4, none⟩ K = plcApp0F_s7 w0 w1 w2 w3 w4 ws w5 e0 n (fun a0 a1 a2 a3 => lpN qd18 (itX Tryd.prog mode14 T_PlacesOwn fuel 3 28 3 2 (roundK (evC qd11) (evC qd12) (qd13 fuel) #[7] 3876 qd10)) 268435417 qd17 k ⟨[(0, .yl 2), (3, vI w4), (4, vU a0), (6, vW ws), (7, vI w5), (8, vI w4), (9, vB a1), (10, vI w4), (11, .lp [vU e0] 0), (12, vU e0)], [(qd14 n ws), (1, some ⟨26, .agg [.sl 3 1 0 a2], true⟩), (2, none), (3, bL 3 a3)], 4, none⟩ K) (fun a4 a5 a6 a7 a8 => K (.exit 2) ⟨[(0, .yl 2), (3, vI w4), (4, vU a4), (6, vW ws), (7, vI w5), (8, vI w4), (9, vB a5), (10, vI w4), (11, .lp [vU e0] 0), (12, vU e0), (13, vU a4), (14, vB a6)], [(qd14 n ws), (1, some ⟨26, .agg [.sl 3 1 0 a7], true⟩), (2, none), (3, bL 3 a8)], 4, none⟩) := by kernel_rfl
noncomputable def plcApp0F_l5 {R : Type} (fuel : Nat) (w0 : Int) (ws : List Int) (w1 e0 n : Int) (k0 : Int → Bool → Bool → Nat → List Int → Option R) : Nat → Int → Bool → Nat → List Int → Option R
  | 0, _, _, _, _ => none
  | k + 1, w2, w3, w4, w5 =>
    (plcApp0F_s7 w2 w5 w4 w3 w0 ws w1 e0 n (fun a0 a1 a2 a3 => ( plcApp0F_l5 fuel w0 ws w1 e0 n k0 k a0 a1 a2 a3 )) (fun a4 a5 a6 a7 a8 => k0 a4 a5 a6 a7 a8))
theorem plcApp0F_l5_eq (fuel : Nat) (w0 : Int) (ws : List Int) (w1 e0 n : Int) (K : Ex → St → Option Out) : ∀ (k : Nat) (w2 : Int) (w3 : Bool) (w4 : Nat) (w5 : List Int), lpN qd18 (itX Tryd.prog mode14 T_PlacesOwn fuel 3 28 3 2 (roundK (evC qd11) (evC qd12) (qd13 fuel) #[7] 3876 qd10)) 268435417 qd17 k ⟨[(0, .yl 2), (3, vI w0), (4, vU w2), (6, vW ws), (7, vI w1), (8, vI w0), (9, vB w3), (10, vI w0), (11, .lp [vU e0] 0), (12, vU e0)], [(qd14 n ws), (1, some ⟨26, .agg [.sl 3 1 0 w4], true⟩), (2, none), (3, bL 3 w5)], 4, none⟩ K = plcApp0F_l5 fuel w0 ws w1 e0 n (fun y0 y1 y2 y3 y4 => K (.exit 2) ⟨[(0, .yl 2), (3, vI w0), (4, vU y0), (6, vW ws), (7, vI w1), (8, vI w0), (9, vB y1), (10, vI w0), (11, .lp [vU e0] 0), (12, vU e0), (13, vU y0), (14, vB y2)], [(qd14 n ws), (1, some ⟨26, .agg [.sl 3 1 0 y3], true⟩), (2, none), (3, bL 3 y4)], 4, none⟩) k w2 w3 w4 w5
  | 0, _, _, _, _ => rfl
  | k + 1, w2, w3, w4, w5 => by
    unfold plcApp0F_l5
    exact (plcApp0F_s7_eq fuel k K w2 w5 w4 w3 w0 ws w1 e0 n).trans (congr (congr (Eq.refl (plcApp0F_s7 (R := Out) w2 w5 w4 w3 w0 ws w1 e0 n)) (funext fun a0 => funext fun a1 => funext fun a2 => funext fun a3 => plcApp0F_l5_eq fuel w0 ws w1 e0 n K k a0 a1 a2 a3)) (rfl))
noncomputable def plcApp0F_s8 {R : Type} (w0 : Int) (x0 : Nat) (x1 : List Int) (x2 : Int) (ws : List Int) (w1 : Int) (x3 : Bool) (e0 : Int) (x4 : Bool) (n : Int) (c0 : Int → Nat → List Int → Option R) : Option R :=
  c0 (IntKind.i64.wrap (w0 + 1)) x0 x1
theorem plcApp0F_s8_eq (fuel k : Nat) (K : Ex → St → Option Out) (w0 : Int) (x0 : Nat) (x1 : List Int) (x2 : Int) (ws : List Int) (w1 : Int) (x3 : Bool) (e0 : Int) (x4 : Bool) (n : Int) : (kont (itX Tryd.prog mode14 T_PlacesOwn fuel 3 28 3 2 (roundK (evC qd11) (evC qd12) (qd13 fuel) #[7] 3876 qd10)) qd15 [1, 1, 0, 0, 1, 0] 268435417 (rdK qd15 (itX Tryd.prog mode14 T_PlacesOwn fuel 3 28 3 2 (roundK (evC qd11) (evC qd12) (qd13 fuel) #[7] 3876 qd10)) 0 [0, 6, 7, 8] k K)) (.exit 2) ⟨[(0, .yl 2), (3, vI w0), (4, vU x2), (6, vW ws), (7, vI w1), (8, vI w0), (9, vB x3), (10, vI w0), (11, .lp [vU e0] 0), (12, vU e0), (13, vU x2), (14, vB x4)], [(qd14 n ws), (1, some ⟨26, .agg [.sl 3 1 0 x0], true⟩), (2, none), (3, bL 3 x1)], 4, none⟩ = plcApp0F_s8 w0 x0 x1 x2 ws w1 x3 e0 x4 n (fun a0 a1 a2 => lpN qd15 (itX Tryd.prog mode14 T_PlacesOwn fuel 3 28 3 2 (roundK (evC qd11) (evC qd12) (qd13 fuel) #[7] 3876 qd10)) 0 [0, 6, 7, 8] k ⟨[(0, .yl 2), (6, vW ws), (7, vI w1), (8, vI a0)], [(qd14 n ws), (1, some ⟨26, .agg [.sl 3 1 0 a1], true⟩), (2, none), (3, bL 3 a2)], 4, none⟩ K) := by kernel_rfl
noncomputable def plcApp0F_s6 {R : Type} (w0 w1 : Int) (ws : List Int) (w2 : Nat) (w3 : List Int) (n : Int) (c0 : Int → Bool → Nat → List Int → Int → Option R) (c1 : Nat → List Int → Option R) : Option R :=
  br (decide (w0 < w1))
    (bnd (ix ws w0) fun e0 =>
    c0 e0 (decide (w0 < w1)) w2 w3 e0)
    (c1 w2 w3)
theorem plcApp0F_s6_eq (fuel k : Nat) (K : Ex → St → Option Out) (w0 w1 : Int) (ws : List Int) (w2 : Nat) (w3 : List Int) (n : Int) : lpN qd15 (itX Tryd.prog mode14 T_PlacesOwn fuel 3 28 3 2 (roundK (evC qd11) (evC qd12) (qd13 fuel) #[7] 3876 qd10)) 0 [0, 6, 7, 8] (k + 1) ⟨[(0, .yl 2), (6, vW ws), (7, vI w1), (8, vI w0)], [(qd14 n ws), (1, some ⟨26, .agg [.sl 3 1 0 w2], true⟩), (2, none), (3, bL 3 w3)], 4, none⟩ K = plcApp0F_s6 w0 w1 ws w2 w3 n (fun a0 a1 a2 a3 e0 => lpN qd18 (itX Tryd.prog mode14 T_PlacesOwn fuel 3 28 3 2 (roundK (evC qd11) (evC qd12) (qd13 fuel) #[7] 3876 qd10)) 268435417 qd17 fuel ⟨[(0, .yl 2), (3, vI w0), (4, vU a0), (6, vW ws), (7, vI w1), (8, vI w0), (9, vB a1), (10, vI w0), (11, .lp [vU e0] 0), (12, vU e0)], [(qd14 n ws), (1, some ⟨26, .agg [.sl 3 1 0 a2], true⟩), (2, none), (3, bL 3 a3)], 4, none⟩ (kont (itX Tryd.prog mode14 T_PlacesOwn fuel 3 28 3 2 (roundK (evC qd11) (evC qd12) (qd13 fuel) #[7] 3876 qd10)) qd15 [1, 1, 0, 0, 1, 0] 268435417 (rdK qd15 (itX Tryd.prog mode14 T_PlacesOwn fuel 3 28 3 2 (roundK (evC qd11) (evC qd12) (qd13 fuel) #[7] 3876 qd10)) 0 [0, 6, 7, 8] k K))) (fun a4 a5 => K (.exit 0) ⟨[], [(qd14 n ws), (1, some ⟨26, .agg [.sl 3 1 0 a4], true⟩), (2, none), (3, bL 3 a5)], 4, none⟩) := by kernel_rfl
noncomputable def plcApp0F_l4 {R : Type} (fuel : Nat) (ws : List Int) (w0 n : Int) (k0 : Nat → List Int → Option R) : Nat → Int → Nat → List Int → Option R
  | 0, _, _, _ => none
  | k + 1, w1, w2, w3 =>
    (plcApp0F_s6 w1 w0 ws w2 w3 n (fun a0 a1 a2 a3 e0 => (plcApp0F_l5 fuel w1 ws w0 e0 n (fun x0 x1 x2 x3 x4 => (plcApp0F_s8 w1 x3 x4 x0 ws w0 x1 e0 x2 n (fun a4 a5 a6 => ( plcApp0F_l4 fuel ws w0 n k0 k a4 a5 a6 )))) fuel a0 a1 a2 a3)) (fun a7 a8 => k0 a7 a8))
theorem plcApp0F_l4_eq (fuel : Nat) (ws : List Int) (w0 n : Int) (K : Ex → St → Option Out) : ∀ (k : Nat) (w1 : Int) (w2 : Nat) (w3 : List Int), lpN qd15 (itX Tryd.prog mode14 T_PlacesOwn fuel 3 28 3 2 (roundK (evC qd11) (evC qd12) (qd13 fuel) #[7] 3876 qd10)) 0 [0, 6, 7, 8] k ⟨[(0, .yl 2), (6, vW ws), (7, vI w0), (8, vI w1)], [(qd14 n ws), (1, some ⟨26, .agg [.sl 3 1 0 w2], true⟩), (2, none), (3, bL 3 w3)], 4, none⟩ K = plcApp0F_l4 fuel ws w0 n (fun y0 y1 => K (.exit 0) ⟨[], [(qd14 n ws), (1, some ⟨26, .agg [.sl 3 1 0 y0], true⟩), (2, none), (3, bL 3 y1)], 4, none⟩) k w1 w2 w3
  | 0, _, _, _ => rfl
  | k + 1, w1, w2, w3 => by
    unfold plcApp0F_l4
    exact (plcApp0F_s6_eq fuel k K w1 w0 ws w2 w3 n).trans (congr (congr (Eq.refl (plcApp0F_s6 (R := Out) w1 w0 ws w2 w3 n)) (funext fun a0 => funext fun a1 => funext fun a2 => funext fun a3 => funext fun e0 => (plcApp0F_l5_eq fuel w1 ws w0 e0 n (kont (itX Tryd.prog mode14 T_PlacesOwn fuel 3 28 3 2 (roundK (evC qd11) (evC qd12) (qd13 fuel) #[7] 3876 qd10)) qd15 [1, 1, 0, 0, 1, 0] 268435417 (rdK qd15 (itX Tryd.prog mode14 T_PlacesOwn fuel 3 28 3 2 (roundK (evC qd11) (evC qd12) (qd13 fuel) #[7] 3876 qd10)) 0 [0, 6, 7, 8] k K)) fuel a0 a1 a2 a3).trans (congrFun (congrFun (congrFun (congrFun (congrFun (congr (Eq.refl (plcApp0F_l5 (R := Out) fuel w1 ws w0 e0 n)) (funext fun x0 => funext fun x1 => funext fun x2 => funext fun x3 => funext fun x4 => (plcApp0F_s8_eq fuel k K w1 x3 x4 x0 ws w0 x1 e0 x2 n).trans (congr (Eq.refl (plcApp0F_s8 (R := Out) w1 x3 x4 x0 ws w0 x1 e0 x2 n)) (funext fun a4 => funext fun a5 => funext fun a6 => plcApp0F_l4_eq fuel ws w0 n K k a4 a5 a6)))) fuel) a0) a1) a2) a3))) (rfl))
noncomputable def plcApp0F_s5 {R : Type} (w0 : Int) (x0 : Nat) (x1 : List Int) (x2 : Int) (ws : List Int) (w1 : Int) (x3 : Bool) (e0 : Int) (x4 : Bool) (n : Int) (c0 : Int → Nat → List Int → Option R) : Option R :=
  c0 (IntKind.i64.wrap (w0 + 1)) x0 x1
theorem plcApp0F_s5_eq (fuel k : Nat) (K : Ex → St → Option Out) (w0 : Int) (x0 : Nat) (x1 : List Int) (x2 : Int) (ws : List Int) (w1 : Int) (x3 : Bool) (e0 : Int) (x4 : Bool) (n : Int) : (kont (itX Tryd.prog mode14 T_PlacesOwn fuel 3 28 3 2 (roundK (evC qd11) (evC qd12) (qd13 fuel) #[7] 3876 qd10)) qd15 [1, 1, 0, 0, 1, 0] 268435417 (rdK qd15 (itX Tryd.prog mode14 T_PlacesOwn fuel 3 28 3 2 (roundK (evC qd11) (evC qd12) (qd13 fuel) #[7] 3876 qd10)) 0 [0, 6, 7, 8] k K)) (.exit 2) ⟨[(0, .yl 2), (3, vI w0), (4, vU x2), (6, vW ws), (7, vI w1), (8, vI w0), (9, vB x3), (10, vI w0), (11, .lp [vU e0] 0), (12, vU e0), (13, vU x2), (14, vB x4)], [(qd14 n ws), (1, some ⟨26, .agg [.sl 3 1 0 x0], true⟩), (2, none), (3, bL 3 x1)], 4, none⟩ = plcApp0F_s5 w0 x0 x1 x2 ws w1 x3 e0 x4 n (fun a0 a1 a2 => lpN qd15 (itX Tryd.prog mode14 T_PlacesOwn fuel 3 28 3 2 (roundK (evC qd11) (evC qd12) (qd13 fuel) #[7] 3876 qd10)) 0 [0, 6, 7, 8] k ⟨[(0, .yl 2), (6, vW ws), (7, vI w1), (8, vI a0)], [(qd14 n ws), (1, some ⟨26, .agg [.sl 3 1 0 a1], true⟩), (2, none), (3, bL 3 a2)], 4, none⟩ K) := by kernel_rfl
noncomputable def plcApp0F_s9 {R : Type} (w0 w1 e0 : Int) (ws : List Int) (x0 x1 : Bool) (n : Int) (c0 : Int → Int → Option R) : Option R :=
  c0 w0 (IntKind.i64.wrap (w1 + 1))
theorem plcApp0F_s9_eq (fuel k : Nat) (K : Ex → St → Option Out) (w0 w1 e0 : Int) (ws : List Int) (x0 x1 : Bool) (n : Int) : (kont (itX Tryd.prog mode14 T_PlacesOwn fuel 3 28 3 2 (roundK (evC qd11) (evC qd12) (qd13 fuel) #[7] 3876 qd10)) qd15 [1, 1, 0, 0, 1, 0] 268435417 (rdK qd15 (itX Tryd.prog mode14 T_PlacesOwn fuel 3 28 3 2 (roundK (evC qd11) (evC qd12) (qd13 fuel) #[7] 3876 qd10)) 0 [0, 6, 7, 8] k K)) (.exit 2) ⟨[(0, .yl 2), (3, vI w1), (4, vU e0), (6, vW ws), (7, vI w0), (8, vI w1), (9, vB x0), (10, vI w1), (11, .lp [vU e0] 0), (12, vU e0), (13, vU e0), (14, vB x1)], [(qd14 n ws), qd16, (2, none)], 3, none⟩ = plcApp0F_s9 w0 w1 e0 ws x0 x1 n (fun a0 a1 => lpN qd15 (itX Tryd.prog mode14 T_PlacesOwn fuel 3 28 3 2 (roundK (evC qd11) (evC qd12) (qd13 fuel) #[7] 3876 qd10)) 0 [0, 6, 7, 8] k ⟨[(0, .yl 2), (6, vW ws), (7, vI a0), (8, vI a1)], [(qd14 n ws), qd16, (2, none)], 3, none⟩ K) := by kernel_rfl
noncomputable def plcApp0F_s2 {R : Type} (w0 w1 : Int) (ws : List Int) (n : Int) (c0 : Bool → Int → Option R) (c1 : Option R) : Option R :=
  br (decide (w0 < w1))
    (bnd (ix ws w0) fun e0 =>
    c0 (decide (w0 < w1)) e0)
    (c1)
theorem plcApp0F_s2_eq (fuel k : Nat) (K : Ex → St → Option Out) (w0 w1 : Int) (ws : List Int) (n : Int) : lpN qd15 (itX Tryd.prog mode14 T_PlacesOwn fuel 3 28 3 2 (roundK (evC qd11) (evC qd12) (qd13 fuel) #[7] 3876 qd10)) 0 [0, 6, 7, 8] (k + 1) ⟨[(0, .yl 2), (6, vW ws), (7, vI w1), (8, vI w0)], [(qd14 n ws), qd16, (2, none)], 3, none⟩ K = plcApp0F_s2 w0 w1 ws n (fun a0 e0 => lpN qd18 (itX Tryd.prog mode14 T_PlacesOwn fuel 3 28 3 2 (roundK (evC qd11) (evC qd12) (qd13 fuel) #[7] 3876 qd10)) 268435417 qd17 fuel ⟨[(0, .yl 2), (3, vI w0), (4, vU e0), (6, vW ws), (7, vI w1), (8, vI w0), (9, vB a0), (10, vI w0), (11, .lp [vU e0] 0), (12, vU e0)], [(qd14 n ws), qd16, (2, none)], 3, none⟩ (kont (itX Tryd.prog mode14 T_PlacesOwn fuel 3 28 3 2 (roundK (evC qd11) (evC qd12) (qd13 fuel) #[7] 3876 qd10)) qd15 [1, 1, 0, 0, 1, 0] 268435417 (rdK qd15 (itX Tryd.prog mode14 T_PlacesOwn fuel 3 28 3 2 (roundK (evC qd11) (evC qd12) (qd13 fuel) #[7] 3876 qd10)) 0 [0, 6, 7, 8] k K))) (K (.exit 0) ⟨[], [(qd14 n ws), qd16, (2, none)], 3, none⟩) := by kernel_rfl
noncomputable def plcApp0F_l1 {R : Type} (fuel : Nat) (ws : List Int) (n : Int) (k0 : Nat → List Int → Option R) (k1 : Option R) : Nat → Int → Int → Option R
  | 0, _, _ => none
  | k + 1, w0, w1 =>
    (plcApp0F_s2 w1 w0 ws n (fun a0 e0 => (plcApp0F_l2 fuel w1 e0 ws w0 n (fun x0 x1 x2 x3 x4 => (plcApp0F_s5 w1 x3 x4 x0 ws w0 x1 e0 x2 n (fun a1 a2 a3 => (plcApp0F_l4 fuel ws w0 n (fun x5 x6 => k0 x5 x6) k a1 a2 a3)))) (fun x7 x8 => (plcApp0F_s9 w0 w1 e0 ws x7 x8 n (fun a4 a5 => ( plcApp0F_l1 fuel ws n k0 k1 k a4 a5 )))) fuel a0)) (k1))
theorem plcApp0F_l1_eq (fuel : Nat) (ws : List Int) (n : Int) (K : Ex → St → Option Out) : ∀ (k : Nat) (w0 w1 : Int), lpN qd15 (itX Tryd.prog mode14 T_PlacesOwn fuel 3 28 3 2 (roundK (evC qd11) (evC qd12) (qd13 fuel) #[7] 3876 qd10)) 0 [0, 6, 7, 8] k ⟨[(0, .yl 2), (6, vW ws), (7, vI w0), (8, vI w1)], [(qd14 n ws), qd16, (2, none)], 3, none⟩ K = plcApp0F_l1 fuel ws n (fun y0 y1 => K (.exit 0) ⟨[], [(qd14 n ws), (1, some ⟨26, .agg [.sl 3 1 0 y0], true⟩), (2, none), (3, bL 3 y1)], 4, none⟩) (K (.exit 0) ⟨[], [(qd14 n ws), qd16, (2, none)], 3, none⟩) k w0 w1
  | 0, _, _ => rfl
  | k + 1, w0, w1 => by
    unfold plcApp0F_l1
    exact (plcApp0F_s2_eq fuel k K w1 w0 ws n).trans (congr (congr (Eq.refl (plcApp0F_s2 (R := Out) w1 w0 ws n)) (funext fun a0 => funext fun e0 => (plcApp0F_l2_eq fuel w1 e0 ws w0 n (kont (itX Tryd.prog mode14 T_PlacesOwn fuel 3 28 3 2 (roundK (evC qd11) (evC qd12) (qd13 fuel) #[7] 3876 qd10)) qd15 [1, 1, 0, 0, 1, 0] 268435417 (rdK qd15 (itX Tryd.prog mode14 T_PlacesOwn fuel 3 28 3 2 (roundK (evC qd11) (evC qd12) (qd13 fuel) #[7] 3876 qd10)) 0 [0, 6, 7, 8] k K)) fuel a0).trans (congrFun (congrFun (congr (congr (Eq.refl (plcApp0F_l2 (R := Out) fuel w1 e0 ws w0 n)) (funext fun x0 => funext fun x1 => funext fun x2 => funext fun x3 => funext fun x4 => (plcApp0F_s5_eq fuel k K w1 x3 x4 x0 ws w0 x1 e0 x2 n).trans (congr (Eq.refl (plcApp0F_s5 (R := Out) w1 x3 x4 x0 ws w0 x1 e0 x2 n)) (funext fun a1 => funext fun a2 => funext fun a3 => plcApp0F_l4_eq fuel ws w0 n K k a1 a2 a3)))) (funext fun x5 => funext fun x6 => (plcApp0F_s9_eq fuel k K w0 w1 e0 ws x5 x6 n).trans (congr (Eq.refl (plcApp0F_s9 (R := Out) w0 w1 e0 ws x5 x6 n)) (funext fun a4 => funext fun a5 => plcApp0F_l1_eq fuel ws n K k a4 a5)))) fuel) a0))) (rfl))
noncomputable def plcApp0F_s10 {R : Type} (x0 : Nat) (n : Int) (ws x1 : List Int) (c0 : Nat → Nat → Int → List Int → List Int → Option R) : Option R :=
  c0 0 x0 n ws x1
theorem plcApp0F_s10_eq (fuel : Nat)  (x0 : Nat) (n : Int) (ws x1 : List Int) : (kont (itX Tryd.prog mode14 T_PlacesOwn fuel 3 28 3 2 (roundK (evC qd11) (evC qd12) (qd13 fuel) #[7] 3876 qd10)) (bodyOf Tryd.prog 126) [1, 0] 0 (itE (behind ⟨qd10, [(qd14 n ws), qd16], 2, none⟩ (kont (qd13 fuel) (bodyOf Tryd.prog 125) [1, 0, 1, 0] 16 (endK Tryd.prog 2 1 125))))) (.exit 0) ⟨[], [(qd14 n ws), (1, some ⟨26, .agg [.sl 3 1 0 x0], true⟩), (2, none), (3, bL 3 x1)], 4, none⟩ = plcApp0F_s10 x0 n ws x1 (fun a0 a1 a2 a3 a4 => some (.sl 1 1 a0 a1, [some ⟨44, .agg [vI a2, vW a3], true⟩, bL 3 a4])) := by kernel_rfl
noncomputable def plcApp0F_s11 {R : Type} (n : Int) (ws : List Int) (c0 : Int → List Int → Option R) : Option R :=
  c0 n ws
theorem plcApp0F_s11_eq (fuel : Nat)  (n : Int) (ws : List Int) : (kont (itX Tryd.prog mode14 T_PlacesOwn fuel 3 28 3 2 (roundK (evC qd11) (evC qd12) (qd13 fuel) #[7] 3876 qd10)) (bodyOf Tryd.prog 126) [1, 0] 0 (itE (behind ⟨qd10, [(qd14 n ws), qd16], 2, none⟩ (kont (qd13 fuel) (bodyOf Tryd.prog 125) [1, 0, 1, 0] 16 (endK Tryd.prog 2 1 125))))) (.exit 0) ⟨[], [(qd14 n ws), qd16, (2, none)], 3, none⟩ = plcApp0F_s11 n ws (fun a0 a1 => some (vN, [some ⟨44, .agg [vI a0, vW a1], true⟩])) := by kernel_rfl
noncomputable def plcApp0F_s1 {R : Type} (ws : List Int) (n : Int) (c0 : Int → Int → Option R) : Option R :=
  c0 ((ws.length : Nat) : Int) 0
theorem plcApp0F_s1_eq (fuel : Nat)  (ws : List Int) (n : Int) : callN Tryd.prog mode14 T_PlacesOwn fuel 125 [vN, .fn (.func 126) [] [.ptr 0 2 0 0]] [⟨44, .agg [vI n, vW ws], true⟩] = plcApp0F_s1 ws n (fun a0 a1 => lpN qd15 (itX Tryd.prog mode14 T_PlacesOwn fuel 3 28 3 2 (roundK (evC qd11) (evC qd12) (qd13 fuel) #[7] 3876 qd10)) 0 [0, 6, 7, 8] fuel ⟨[(0, .yl 2), (6, vW ws), (7, vI a0), (8, vI a1)], [(qd14 n ws), qd16, (2, none)], 3, none⟩ (kont (itX Tryd.prog mode14 T_PlacesOwn fuel 3 28 3 2 (roundK (evC qd11) (evC qd12) (qd13 fuel) #[7] 3876 qd10)) (bodyOf Tryd.prog 126) [1, 0] 0 (itE (behind ⟨qd10, [(qd14 n ws), qd16], 2, none⟩ (kont (qd13 fuel) (bodyOf Tryd.prog 125) [1, 0, 1, 0] 16 (endK Tryd.prog 2 1 125)))))) := by kernel_rfl
noncomputable def plcApp0F {R : Type} (fuel : Nat) (n : Int) (ws : List Int) (r0 : Nat → Nat → Int → List Int → List Int → Option R) (r1 : Int → List Int → Option R) : Option R :=
  (plcApp0F_s1 ws n (fun a0 a1 => (plcApp0F_l1 fuel ws n (fun x0 x1 => (plcApp0F_s10 x0 n ws x1 (fun a2 a3 a4 a5 a6 => r0 a2 a3 a4 a5 a6))) ((plcApp0F_s11 n ws (fun a7 a8 => r1 a7 a8))) fuel a0 a1)))
theorem plcApp0F_eq (fuel : Nat) (n : Int) (ws : List Int) : callN Tryd.prog mode14 T_PlacesOwn fuel 125 [.s (.slice none 0 0), .fn (.func 126) [] [.ptr 0 2 0 0]] [⟨44, .agg [.s (.int .i64 n), .li .u64 ws], true⟩] = plcApp0F fuel n ws (fun z0 z1 z2 z3 z4 => some (.sl 1 1 z0 z1, [some ⟨44, .agg [.s (.int .i64 z2), .li .u64 z3], true⟩, some ⟨3, .li .i64 z4, true⟩])) (fun z0 z1 => some (.s (.slice none 0 0), [some ⟨44, .agg [.s (.int .i64 z0), .li .u64 z1], true⟩])) := by
  unfold plcApp0F
  exact (plcApp0F_s1_eq fuel  ws n).trans (congr (Eq.refl (plcApp0F_s1 (R := Out) ws n)) (funext fun a0 => funext fun a1 => (plcApp0F_l1_eq fuel ws n (kont (itX Tryd.prog mode14 T_PlacesOwn fuel 3 28 3 2 (roundK (evC qd11) (evC qd12) (qd13 fuel) #[7] 3876 qd10)) (bodyOf Tryd.prog 126) [1, 0] 0 (itE (behind ⟨qd10, [(qd14 n ws), qd16], 2, none⟩ (kont (qd13 fuel) (bodyOf Tryd.prog 125) [1, 0, 1, 0] 16 (endK Tryd.prog 2 1 125))))) fuel a0 a1).trans (congrFun (congrFun (congrFun (congr (congr (Eq.refl (plcApp0F_l1 (R := Out) fuel ws n)) (funext fun x0 => funext fun x1 => (plcApp0F_s10_eq fuel  x0 n ws x1))) ((plcApp0F_s11_eq fuel  n ws))) fuel) a0) a1)))
theorem plcApp0_first {R : Type} (fuel : Nat) (hf : 66 ≤ fuel) (ws : List Int) (hok : Ok ws) (hl : ws.length ≤ 8) (n : Int) (k0 : Nat → List Int → Option R) (k1 : Option R) : ∀ (k i : Nat), i ≤ ws.length → ws.length < i + k → wordsFrom ws (ws.length - i) i = [] →
    plcApp0F_l1 fuel ws n k0 k1 k (ws.length : Int) (i : Int) = k1
  | 0, i, h1, h2, h3 => by omega
  | k + 1, i, h1, h2, h3 => by
    unfold plcApp0F_l1 plcApp0F_s2
    rw [br_if]
    by_cases hc : i < ws.length
    · obtain ⟨hg, hlt⟩ := word_get hok hc
      rw [if_pos (by simpa using hc), bnd_of hg]
      dsimp only
      obtain ⟨f, rfl⟩ : ∃ f, fuel = f + 1 := ⟨fuel - 1, by omega⟩
      unfold plcApp0F_l2 plcApp0F_s3
      dsimp only
      rw [show ws.length - i = (ws.length - (i + 1)) + 1 by omega, wordsFrom, List.append_eq_nil_iff] at h3
      rw [br_if]
      have hw1 : IntKind.i64.wrap ((i : Int) + 1) = ((i + 1 : Nat) : Int) := by rw [wrap_i64 (by omega) (by omega)]; omega
      by_cases h0 : (ws.getD i 0).toNat = 0
      · rw [h0, if_neg (by decide)]
        unfold plcApp0F_s9
        rw [hw1]
        exact plcApp0_first (f + 1) hf ws hok hl n k0 k1 k (i + 1) (by omega) (by omega) h3.2
      · have hs := bitsAt_step (k := i) h0 hlt
        rw [hs] at h3
        exact absurd h3.1 (by simp)
    · rw [if_neg (by simpa using hc)]
theorem plcApp0_fact (n : Int) (ws : List Int) (hg : (okW ws && decide (ws.length ≤ 8) && decide ((plS ws).length = 0)) = true) : Fact Tryd.prog gTab 125 [.s (.slice none 0 0), .fn (.func 126) [] [.ptr 0 2 0 0]] [⟨44, .agg [.s (.int .i64 n), .li .u64 ws], true⟩] (.s (.slice none 0 0), [some ⟨44, .agg [.s (.int .i64 n), .li .u64 ws], true⟩]) := by
  simp only [Bool.and_eq_true, decide_eq_true_eq] at hg
  obtain ⟨⟨h1, h2⟩, h3⟩ := hg
  refine callN_fact hN hM T_PlacesOwn_ok (n := 100) (mode := mode14) ?_
  rw [plcApp0F_eq]
  unfold plcApp0F plcApp0F_s1
  have e : wordsFrom ws (ws.length - 0) 0 = [] := by rw [plS_eq] at h3; exact List.eq_nil_of_length_eq_zero h3
  have h := fun k0 k1 => plcApp0_first (R := Out) 100 (by omega) ws (okW_iff.1 h1) h2 n k0 k1 100 0 (by omega) (by omega) e
  rw [Int.natCast_zero] at h
  dsimp only
  rw [h]
  rfl
noncomputable def plcApp0_ent : List V → List Blk → Option (Bool × Out)
  | [.s (.slice none 0 0), .fn (.func 126) [] [.ptr 0 2 0 0]], [⟨44, .agg [.s (.int .i64 n), .li .u64 ws], true⟩] => some ((okW ws && decide (ws.length ≤ 8) && decide ((plS ws).length = 0)), (.s (.slice none 0 0), [some ⟨44, .agg [.s (.int .i64 n), .li .u64 ws], true⟩]))
  | _, _ => none
theorem plcApp0_ok : ∀ args bs out, plcApp0_ent args bs = some (true, out) → Fact Tryd.prog gTab 125 args bs out := by
  intro args bs out h
  unfold plcApp0_ent at h
  split at h
  · rename_i n ws
    simp only [Option.some.injEq, Prod.mk.injEq] at h
    obtain ⟨hg, rfl⟩ := h
    exact plcApp0_fact n ws hg
  · cases h
noncomputable def T_plcApp0 : Tbl := Tbl.cons 125 plcApp0_ent T_PlacesOwn
theorem T_plcApp0_ok : CallOk Tryd.prog gTab T_plcApp0 := cons_ok T_PlacesOwn_ok plcApp0_ok
/-! slices.Collect[int] -/
noncomputable def plcColl0F_s1 {R : Type} (ws : List Int) (n : Int) (c0 : Int → List Int → Option R) : Option R :=
  grd (okW ws && decide (ws.length ≤ 8) && decide ((plS ws).length = 0)) <|
  c0 n ws
theorem plcColl0F_s1_eq (fuel : Nat)  (ws : List Int) (n : Int) : callN Tryd.prog mode14 T_plcApp0 fuel 77 [.fn (.func 126) [] [.ptr 0 2 0 0]] [⟨44, .agg [vI n, vW ws], true⟩] = plcColl0F_s1 ws n (fun a1 a2 => some (vN, [some ⟨44, .agg [vI a1, vW a2], true⟩])) := by kernel_rfl
noncomputable def plcColl0F {R : Type} (fuel : Nat) (n : Int) (ws : List Int) (r0 : Int → List Int → Option R) : Option R :=
  (plcColl0F_s1 ws n (fun a1 a2 => r0 a1 a2))
theorem plcColl0F_eq (fuel : Nat) (n : Int) (ws : List Int) : callN Tryd.prog mode14 T_plcApp0 fuel 77 [.fn (.func 126) [] [.ptr 0 2 0 0]] [⟨44, .agg [.s (.int .i64 n), .li .u64 ws], true⟩] = plcColl0F fuel n ws (fun z0 z1 => some (.s (.slice none 0 0), [some ⟨44, .agg [.s (.int .i64 z0), .li .u64 z1], true⟩])) := by
  unfold plcColl0F
  exact (plcColl0F_s1_eq fuel  ws n)
theorem plcColl0_fact (n : Int) (ws : List Int) (hg : (okW ws && decide (ws.length ≤ 8) && decide ((plS ws).length = 0)) = true) : Fact Tryd.prog gTab 77 [.fn (.func 126) [] [.ptr 0 2 0 0]] [⟨44, .agg [.s (.int .i64 n), .li .u64 ws], true⟩] (.s (.slice none 0 0), [some ⟨44, .agg [.s (.int .i64 n), .li .u64 ws], true⟩]) := by
  refine callN_fact hN hM T_plcApp0_ok (n := 0) (mode := mode14) ?_
  rw [plcColl0F_eq]
  unfold plcColl0F plcColl0F_s1
  rw [grd_of hg]
noncomputable def plcColl0_ent : List V → List Blk → Option (Bool × Out)
  | [.fn (.func 126) [] [.ptr 0 2 0 0]], [⟨44, .agg [.s (.int .i64 n), .li .u64 ws], true⟩] => some ((okW ws && decide (ws.length ≤ 8) && decide ((plS ws).length = 0)), (.s (.slice none 0 0), [some ⟨44, .agg [.s (.int .i64 n), .li .u64 ws], true⟩]))
  | _, _ => none
theorem plcColl0_ok : ∀ args bs out, plcColl0_ent args bs = some (true, out) → Fact Tryd.prog gTab 77 args bs out := by
  intro args bs out h
  unfold plcColl0_ent at h
  split at h
  · rename_i n ws
    simp only [Option.some.injEq, Prod.mk.injEq] at h
    obtain ⟨hg, rfl⟩ := h
    exact plcColl0_fact n ws hg
  · cases h
noncomputable def T_plcColl0 : Tbl := Tbl.cons 77 plcColl0_ent T_plcApp0
theorem T_plcColl0_ok : CallOk Tryd.prog gTab T_plcColl0 := cons_ok T_plcApp0_ok plcColl0_ok
/-! downpour/bitrow.Places -/
noncomputable def PlacesF_s1 {R : Type} (ws : List Int) (n : Int) (c0 : Int → Option R) : Option R :=
  grd (okW ws) <|
  br (!(rtS n ws))
    (c0 1)
    (grd (okW ws && decide (ws.length ≤ 8) && decide ((plS ws).length = 0)) <|
    c0 0)
theorem PlacesF_s1_eq (fuel : Nat)  (ws : List Int) (n : Int) : callN Tryd.prog mode14 T_plcColl0 fuel 26 [.agg [vI n, vW ws]] [] = PlacesF_s1 ws n (fun a1 => some (.tup [vN, vI a1], [])) := by kernel_rfl
noncomputable def PlacesF {R : Type} (fuel : Nat) (n : Int) (ws : List Int) (r0 : Int → Option R) : Option R :=
  (PlacesF_s1 ws n (fun a1 => r0 a1))
theorem PlacesF_eq (fuel : Nat) (n : Int) (ws : List Int) : callN Tryd.prog mode14 T_plcColl0 fuel 26 [.agg [.s (.int .i64 n), .li .u64 ws]] [] = PlacesF fuel n ws (fun z0 => some (.tup [.s (.slice none 0 0), .s (.int .i64 z0)], [])) := by
  unfold PlacesF
  exact (PlacesF_s1_eq fuel  ws n)
theorem Places_fact (n : Int) (ws : List Int) (hg : (okW ws) = true) : Fact Tryd.prog gTab 26 [.agg [.s (.int .i64 n), .li .u64 ws]] [] (.tup [.li .i64 (plcS n ws), .s (.int .i64 (if rtS n ws = true then 0 else 1))], []) := by
  rw [plcS_eq]
  unfold plcI
  have hnil : ∀ e : Int, Fact Tryd.prog gTab 26 [.agg [.s (.int .i64 n), .li .u64 ws]] [] (.tup [.s (.slice none 0 0), .s (.int .i64 e)], []) → Fact Tryd.prog gTab 26 [.agg [.s (.int .i64 n), .li .u64 ws]] [] (.tup [.li .i64 [], .s (.int .i64 e)], []) := fun e h =>
    h.out fun _ _ _ x h => RV_tup_two (fun _ h => RVs_two (fun _ h => RV_nil_li h) (fun _ h => h) h) h
  by_cases hr : rtS n ws = true
  · have hl := rt_len hr
    rw [if_pos hr, if_pos hr]
    by_cases h0 : (plS ws).length = 0
    · rw [List.eq_nil_of_length_eq_zero h0]
      refine hnil 0 ?_
      refine callN_fact hN hM T_plcColl0_ok (n := 0) (mode := mode14) ?_
      rw [PlacesF_eq]
      unfold PlacesF PlacesF_s1
      rw [grd_of hg, br_if, if_neg (by simp [hr]), grd_of (by simp [hg, h0]; omega)]
    · refine callN_fact hN hM T_plcColl_ok (n := 0) (mode := mode12) ?_
      rw [plcAF_eq]
      unfold plcAF plcAF_s1
      rw [grd_of hg, br_if, if_neg (by simp [hr]), grd_of (by simp [hg]; omega)]
      dsimp only
      rw [List.drop_zero, List.take_length]
  · rw [if_neg hr, if_neg hr]
    refine hnil 1 ?_
    refine callN_fact hN hM T_plcColl0_ok (n := 0) (mode := mode14) ?_
    rw [PlacesF_eq]
    unfold PlacesF PlacesF_s1
    rw [grd_of hg, br_if, if_pos (by simp [hr])]
noncomputable def Places_ent : List V → List Blk → Option (Bool × Out)
  | [.agg [.s (.int .i64 n), w0]], [] => (asSl (.int .u64) w0).bind fun ws => some ((okW ws), (.tup [.li .i64 (plcS n ws), .s (.int .i64 (if rtS n ws = true then 0 else 1))], []))
  | _, _ => none
theorem Places_ok : ∀ args bs out, Places_ent args bs = some (true, out) → Fact Tryd.prog gTab 26 args bs out := by
  intro args bs out h
  unfold Places_ent at h
  split at h
  · rename_i n w0
    obtain ⟨ws, h_ws, h⟩ := Option.bind_eq_some_iff.1 h
    simp only [Option.some.injEq, Prod.mk.injEq] at h
    obtain ⟨hg, rfl⟩ := h
    exact (Places_fact n ws hg).args (fun _ _ _ => fun _ h => RVs_two (fun _ h => RV_agg_two (fun _ h => RVs_two (fun _ h => h) (fun _ h => RVs_two (fun _ h => RV_li h_ws h) (fun _ h => h) h) h) h) (fun _ h => h) h)
  · cases h
noncomputable def T_Places : Tbl := Tbl.cons 26 Places_ent T_plcColl0
theorem T_Places_ok : CallOk Tryd.prog gTab T_Places := cons_ok T_plcColl0_ok Places_ok
/-! Blocks: what the functions tell. -/
theorem ba_eq {a : ByteArray} {l : List UInt8} (h : a.data.toList = l) : a = ⟨⟨l⟩⟩ := by
  obtain ⟨⟨d⟩⟩ := a
  subst h; rfl
def sz64 (n : Int) : Bool := decide (0 ≤ n) && decide (n ≤ 64)
theorem sz64_iff {n : Int} : sz64 n = true ↔ 0 ≤ n ∧ n ≤ 64 := by unfold sz64; simp
noncomputable def xorTI (a b : ByteArray) : ByteArray := if bok a.size [a, b] = true then txt (xb (bytesL a) (bytesL b)) else ByteArray.empty
noncomputable def xorT : ByteArray → ByteArray → ByteArray := Classical.choose (⟨xorTI, rfl⟩ : ∃ f, f = xorTI)
theorem xorT_eq : xorT = xorTI := Classical.choose_spec (⟨xorTI, rfl⟩ : ∃ f, f = xorTI)
noncomputable def sumTI (n : Int) (l : List ByteArray) : ByteArray := if bok n l = true then txt (sumS n l) else ByteArray.empty
noncomputable def sumT : Int → List ByteArray → ByteArray := Classical.choose (⟨sumTI, rfl⟩ : ∃ f, f = sumTI)
theorem sumT_eq : sumT = sumTI := Classical.choose_spec (⟨sumTI, rfl⟩ : ∃ f, f = sumTI)
noncomputable def zeroTI (n : Int) : ByteArray := if sz64 n = true then txt (zb n.toNat) else ByteArray.empty
noncomputable def zeroT : Int → ByteArray := Classical.choose (⟨zeroTI, rfl⟩ : ∃ f, f = zeroTI)
theorem zeroT_eq : zeroT = zeroTI := Classical.choose_spec (⟨zeroTI, rfl⟩ : ∃ f, f = zeroTI)
noncomputable def trimLI (s : ByteArray) : ByteArray := txt ((bytesL s).dropWhile fun x => decide (x = 0))
noncomputable def trimLS : ByteArray → ByteArray := Classical.choose (⟨trimLI, rfl⟩ : ∃ f, f = trimLI)
theorem trimLS_eq : trimLS = trimLI := Classical.choose_spec (⟨trimLI, rfl⟩ : ∃ f, f = trimLI)
noncomputable def trimRI (s : ByteArray) : ByteArray := txt (((bytesL s).reverse.dropWhile fun x => decide (x = 0)).reverse)
noncomputable def trimRS : ByteArray → ByteArray := Classical.choose (⟨trimRI, rfl⟩ : ∃ f, f = trimRI)
theorem trimRS_eq : trimRS = trimRI := Classical.choose_spec (⟨trimRI, rfl⟩ : ∃ f, f = trimRI)
noncomputable def sumBI (n : Int) (l : List ByteArray) (b : List Int) : List Int := (l.zip b).foldl (fun a p => if p.2 = 1 then xb a (bytesL p.1) else a) (zb n.toNat)
noncomputable def sumBS : Int → List ByteArray → List Int → List Int := Classical.choose (⟨sumBI, rfl⟩ : ∃ f, f = sumBI)
theorem sumBS_eq : sumBS = sumBI := Classical.choose_spec (⟨sumBI, rfl⟩ : ∃ f, f = sumBI)
def ones (k : Nat) : List Int := List.replicate k 1
theorem ones_len (k : Nat) : (ones k).length = k := by unfold ones; simp
def eqTI (a b : List ByteArray) : Bool := decide (a = b)
noncomputable def eqTS : List ByteArray → List ByteArray → Bool := Classical.choose (⟨eqTI, rfl⟩ : ∃ f, f = eqTI)
theorem eqTS_eq : eqTS = eqTI := Classical.choose_spec (⟨eqTI, rfl⟩ : ∃ f, f = eqTI)
theorem empty_bytes : bytesL ByteArray.empty = [] := rfl
theorem eq_empty {s : ByteArray} : s = ByteArray.empty ↔ bytesL s = [] := ⟨fun h => by rw [h]; rfl, fun h => bytes_inj (h.trans empty_bytes.symm)⟩
theorem set_step {a t : List Int} {j : Nat} (hl : t.length = a.length) (hj : j < a.length) : (t.take j ++ a.drop j).set j (t[j]'(by omega)) = t.take (j + 1) ++ a.drop (j + 1) := by
  have h1 : (t.take j).length = j := by rw [List.length_take]; omega
  rw [List.drop_eq_getElem_cons hj, List.set_append_right _ _ (by omega), h1, Nat.sub_self, List.set_cons_zero, List.take_succ_eq_append_getElem (by omega), List.append_assoc]
  rfl
theorem get_step {a t : List Int} {j : Nat} (hl : t.length = a.length) (hj : j < a.length) : (t.take j ++ a.drop j)[0 + j]? = some a[j] := by
  have h1 : (t.take j).length = j := by rw [List.length_take]; omega
  rw [Nat.zero_add, List.getElem?_append_right (by omega), h1, Nat.sub_self, List.drop_eq_getElem_cons hj]
  rfl
theorem getD_get {a : List Int} {j : Nat} (hj : j < a.length) : a.getD j 0 = a[j] := by rw [List.getD_eq_getElem?_getD, List.getElem?_eq_getElem hj]; rfl
theorem fill_eq (a : List Int) (n : Nat) (h : a.length = n) : (List.replicate n (0 : Int)).take 0 ++ (a.take n) ++ (List.replicate n (0 : Int)).drop (0 + (a.take n).length) = a := by
  subst h
  rw [List.take_length, List.take_zero, List.nil_append, List.drop_eq_nil_of_le (by simp), List.append_nil]
def mode15 : FuncId → Nat := fun f => bif Nat.beq f 93 then 2 else 0
/-! downpour/block.sized -/
noncomputable def bsizedF_s1 {R : Type} (n : Int) (c0 : Bool → Option R) : Option R :=
  br (decide (n ≥ 0))
    (c0 (decide (n ≤ 64)))
    (c0 false)
theorem bsizedF_s1_eq (fuel : Nat)  (n : Int) : callN Tryd.prog mode15 T_Places fuel 138 [vI n] [] = bsizedF_s1 n (fun a1 => some (vB a1, [])) := by kernel_rfl
noncomputable def bsizedF {R : Type} (fuel : Nat) (n : Int) (r0 : Bool → Option R) : Option R :=
  (bsizedF_s1 n (fun a1 => r0 a1))
theorem bsizedF_eq (fuel : Nat) (n : Int) : callN Tryd.prog mode15 T_Places fuel 138 [.s (.int .i64 n)] [] = bsizedF fuel n (fun z0 => some (.s (.bool z0), [])) := by
  unfold bsizedF
  exact (bsizedF_s1_eq fuel  n)
theorem bsized_fact (n : Int) : Fact Tryd.prog gTab 138 [.s (.int .i64 n)] [] (.s (.bool (sz64 n)), []) := by
  refine callN_fact hN hM T_Places_ok (n := 0) (mode := mode15) ?_
  rw [bsizedF_eq]
  unfold bsizedF bsizedF_s1 sz64
  rw [br_if]
  by_cases h : n ≥ 0
  · rw [if_pos (by simpa using h), decide_eq_true h, Bool.true_and]
  · rw [if_neg (by simpa using h), decide_eq_false h, Bool.false_and]
noncomputable def bsized_ent : List V → List Blk → Option (Bool × Out)
  | [.s (.int .i64 n)], [] => some (true, (.s (.bool (sz64 n)), []))
  | _, _ => none
theorem bsized_ok : ∀ args bs out, bsized_ent args bs = some (true, out) → Fact Tryd.prog gTab 138 args bs out := by
  intro args bs out h
  unfold bsized_ent at h
  split at h
  · rename_i n
    simp only [Option.some.injEq, Prod.mk.injEq] at h
    obtain ⟨_, rfl⟩ := h
    exact bsized_fact n
  · cases h
noncomputable def T_bsized : Tbl := Tbl.cons 138 bsized_ent T_Places
theorem T_bsized_ok : CallOk Tryd.prog gTab T_bsized := cons_ok T_Places_ok bsized_ok
/-! downpour/block.into -/
noncomputable def intoF_s2 {R : Type} (w8 w7 : Int) (m : Nat) (w9 : List Int) (s : ByteArray) (c0 : Int → Int → List Int → Option R) (c1 : List Int → Option R) : Option R :=
  br (decide (w8 < w7))
    (bnd (below w8 m) fun j0 =>
    bnd (w9[(0 + j0)]?) fun e0 =>
    bnd (ix s.data.toList w8) fun ub18 =>
    bnd (below w8 m) fun j1 =>
    bnd (w9[(0 + j1)]?) fun e1 =>
    c0 w7 (IntKind.i64.wrap (w8 + 1)) (w9.set (0 + j1) (xorI .u8 e0 ((ub18.toNat : Nat) : Int))))
    (c1 w9)
theorem intoF_s2_eq (fuel k : Nat) (K : Ex → St → Option Out) (w8 w7 : Int) (m : Nat) (w9 : List Int) (s : ByteArray) : lpN (sub (bodyOf Tryd.prog 93) [1, 0, 0]) (fnX Tryd.prog mode15 T_bsized fuel 20 1) 0 [0, 1, 6, 7] (k + 1) ⟨[(0, .sl 0 1 0 m), (1, vS s), (6, vI w7), (7, vI w8)], [(0, some ⟨5, .li .u8 w9, true⟩)], 1, none⟩ K = intoF_s2 w8 w7 m w9 s (fun a0 a1 a2 => lpN (sub (bodyOf Tryd.prog 93) [1, 0, 0]) (fnX Tryd.prog mode15 T_bsized fuel 20 1) 0 [0, 1, 6, 7] k ⟨[(0, .sl 0 1 0 m), (1, vS s), (6, vI a0), (7, vI a1)], [(0, some ⟨5, .li .u8 a2, true⟩)], 1, none⟩ K) (fun a3 => K (.exit 0) ⟨[], [(0, some ⟨5, .li .u8 a3, true⟩)], 1, none⟩) := by kernel_rfl
noncomputable def intoF_l1 {R : Type} (fuel m : Nat) (s : ByteArray) (k0 : List Int → Option R) : Nat → Int → Int → List Int → Option R
  | 0, _, _, _ => none
  | k + 1, w7, w8, w9 =>
    (intoF_s2 w8 w7 m w9 s (fun a0 a1 a2 => ( intoF_l1 fuel m s k0 k a0 a1 a2 )) (fun a3 => k0 a3))
theorem intoF_l1_eq (fuel m : Nat) (s : ByteArray) (K : Ex → St → Option Out) : ∀ (k : Nat) (w7 w8 : Int) (w9 : List Int), lpN (sub (bodyOf Tryd.prog 93) [1, 0, 0]) (fnX Tryd.prog mode15 T_bsized fuel 20 1) 0 [0, 1, 6, 7] k ⟨[(0, .sl 0 1 0 m), (1, vS s), (6, vI w7), (7, vI w8)], [(0, some ⟨5, .li .u8 w9, true⟩)], 1, none⟩ K = intoF_l1 fuel m s (fun y0 => K (.exit 0) ⟨[], [(0, some ⟨5, .li .u8 y0, true⟩)], 1, none⟩) k w7 w8 w9
  | 0, _, _, _ => rfl
  | k + 1, w7, w8, w9 => by
    unfold intoF_l1
    exact (intoF_s2_eq fuel k K w8 w7 m w9 s).trans (congr (congr (Eq.refl (intoF_s2 (R := Out) w8 w7 m w9 s)) (funext fun a0 => funext fun a1 => funext fun a2 => intoF_l1_eq fuel m s K k a0 a1 a2)) (rfl))
noncomputable def intoF_s3 {R : Type} (x0 : List Int) (c0 : List Int → Option R) : Option R :=
  c0 x0
theorem intoF_s3_eq (fuel : Nat)  (x0 : List Int) : (kont (fnX Tryd.prog mode15 T_bsized fuel 20 1) (bodyOf Tryd.prog 93) [1, 0] 0 (endK Tryd.prog 2 1 93)) (.exit 0) ⟨[], [(0, some ⟨5, .li .u8 x0, true⟩)], 1, none⟩ = intoF_s3 x0 (fun a0 => some (.tup [], [some ⟨5, .li .u8 a0, true⟩])) := by kernel_rfl
noncomputable def intoF_s1 {R : Type} (m : Nat) (a : List Int) (s : ByteArray) (c0 : Int → Int → List Int → Option R) : Option R :=
  c0 ((m : Nat) : Int) 0 a
theorem intoF_s1_eq (fuel : Nat)  (m : Nat) (a : List Int) (s : ByteArray) : callN Tryd.prog mode15 T_bsized fuel 93 [.sl 0 1 0 m, vS s] [⟨5, .li .u8 a, true⟩] = intoF_s1 m a s (fun a0 a1 a2 => lpN (sub (bodyOf Tryd.prog 93) [1, 0, 0]) (fnX Tryd.prog mode15 T_bsized fuel 20 1) 0 [0, 1, 6, 7] fuel ⟨[(0, .sl 0 1 0 m), (1, vS s), (6, vI a0), (7, vI a1)], [(0, some ⟨5, .li .u8 a2, true⟩)], 1, none⟩ (kont (fnX Tryd.prog mode15 T_bsized fuel 20 1) (bodyOf Tryd.prog 93) [1, 0] 0 (endK Tryd.prog 2 1 93))) := by kernel_rfl
noncomputable def intoF {R : Type} (fuel m : Nat) (s : ByteArray) (a : List Int) (r0 : List Int → Option R) : Option R :=
  (intoF_s1 m a s (fun a0 a1 a2 => (intoF_l1 fuel m s (fun x0 => (intoF_s3 x0 (fun a3 => r0 a3))) fuel a0 a1 a2)))
theorem intoF_eq (fuel m : Nat) (s : ByteArray) (a : List Int) : callN Tryd.prog mode15 T_bsized fuel 93 [.sl 0 1 0 m, .s (.string s)] [⟨5, .li .u8 a, true⟩] = intoF fuel m s a (fun z0 => some (.tup [], [some ⟨5, .li .u8 z0, true⟩])) := by
  unfold intoF
  exact (intoF_s1_eq fuel  m a s).trans (congr (Eq.refl (intoF_s1 (R := Out) m a s)) (funext fun a0 => funext fun a1 => funext fun a2 => (intoF_l1_eq fuel m s (kont (fnX Tryd.prog mode15 T_bsized fuel 20 1) (bodyOf Tryd.prog 93) [1, 0] 0 (endK Tryd.prog 2 1 93)) fuel a0 a1 a2).trans (congrFun (congrFun (congrFun (congrFun (congr (Eq.refl (intoF_l1 (R := Out) fuel m s)) (funext fun x0 => (intoF_s3_eq fuel  x0))) fuel) a0) a1) a2)))
theorem into_loop {R : Type} (fuel : Nat) (s : ByteArray) (a : List Int) (hs : a.length ≤ s.size) (hx : a.length ≤ 1000000) (k0 : List Int → Option R) : ∀ (k j : Nat), j ≤ a.length → a.length < j + k → intoF_l1 fuel a.length s k0 k (a.length : Int) (j : Int) ((xb a (bytesL s)).take j ++ a.drop j) = k0 (xb a (bytesL s))
  | 0, j, h1, h2 => by omega
  | k + 1, j, h1, h2 => by
    have hl : (xb a (bytesL s)).length = a.length := by rw [xb_len, bytes_len]; omega
    unfold intoF_l1 intoF_s2
    rw [br_if]
    by_cases hc : j < a.length
    · obtain ⟨c, e1, e2⟩ := ix_byte s j (by omega)
      have hx8 : xorI .u8 a[j] ((c.toNat : Nat) : Int) = (xb a (bytesL s))[j]'(by omega) := by
        rw [← getD_get (a := xb a (bytesL s)) (by omega), xb_getD hc (by rw [bytes_len]; omega), e2, getD_get hc]
      have eb : below (j : Int) a.length = some j := by rw [below_of (by omega) (by omega)]; rfl
      rw [if_pos (by simpa using hc), bnd_of eb, bnd_of (get_step hl hc), bnd_of e1, bnd_of eb, bnd_of (get_step hl hc), hx8, Nat.zero_add, set_step hl hc, wrap_i64 (by omega) (by omega), show (j : Int) + 1 = ((j + 1 : Nat) : Int) by omega]
      exact into_loop fuel s a hs hx k0 k (j + 1) (by omega) (by omega)
    · have e : j = a.length := by omega
      subst e
      rw [if_neg (by simp), List.drop_length, List.append_nil, List.take_of_length_le (by omega)]
theorem into_fact (m : Nat) (s : ByteArray) (a : List Int) (hg : (decide (m = a.length) && decide (a.length ≤ s.size) && decide (a.length ≤ 1000000)) = true) : Fact Tryd.prog gTab 93 [.sl 0 1 0 m, .s (.string s)] [⟨5, .li .u8 a, true⟩] (.tup [], [some ⟨5, .li .u8 (xb a (bytesL s)), true⟩]) := by
  simp only [Bool.and_eq_true, decide_eq_true_eq] at hg
  obtain ⟨⟨rfl, hs⟩, hx⟩ := hg
  refine callN_fact hN hM T_bsized_ok (n := a.length + 1) (mode := mode15) ?_
  rw [intoF_eq]
  unfold intoF intoF_s1
  exact into_loop (a.length + 1) s a hs hx _ (a.length + 1) 0 (by omega) (by omega)
noncomputable def into_ent : List V → List Blk → Option (Bool × Out)
  | [.sl 0 1 0 m, .s (.string s)], [⟨5, .li .u8 a, true⟩] => some ((decide (m = a.length) && decide (a.length ≤ s.size) && decide (a.length ≤ 1000000)), (.tup [], [some ⟨5, .li .u8 (xb a (bytesL s)), true⟩]))
  | _, _ => none
theorem into_ok : ∀ args bs out, into_ent args bs = some (true, out) → Fact Tryd.prog gTab 93 args bs out := by
  intro args bs out h
  unfold into_ent at h
  split at h
  · rename_i m s a
    simp only [Option.some.injEq, Prod.mk.injEq] at h
    obtain ⟨hg, rfl⟩ := h
    exact into_fact m s a hg
  · cases h
noncomputable def T_into : Tbl := Tbl.cons 93 into_ent T_bsized
theorem T_into_ok : CallOk Tryd.prog gTab T_into := cons_ok T_bsized_ok into_ok
/-! downpour/block.may -/
noncomputable def bmayF_s2 {R : Type} (w5 w6 : Int) (l : List ByteArray) (n : Int) (c0 : Option R) (c1 : Int → Int → Option R) (c2 : Option R) : Option R :=
  br (decide (w5 < w6))
    (bnd (ix l w5) fun e8 =>
    br (((e8.size : Nat) : Int) != n)
      (c0)
      (c1 w6 (IntKind.i64.wrap (w5 + 1))))
    (c2)
theorem bmayF_s2_eq (fuel k : Nat) (K : Ex → St → Option Out) (w5 w6 : Int) (l : List ByteArray) (n : Int) : lpN (sub (bodyOf Tryd.prog 92) [1, 1, 0, 1, 0, 0]) (fnX Tryd.prog mode15 T_into fuel 26 0) 16 [0, 4, 15, 16, 17] (k + 1) ⟨[(0, vI n), (4, vI 0), (15, .ls l), (16, vI w6), (17, vI w5)], [], 0, none⟩ K = bmayF_s2 w5 w6 l n (K .ret ⟨[(4, vI 2)], [], 0, none⟩) (fun a9 a0 => lpN (sub (bodyOf Tryd.prog 92) [1, 1, 0, 1, 0, 0]) (fnX Tryd.prog mode15 T_into fuel 26 0) 16 [0, 4, 15, 16, 17] k ⟨[(0, vI n), (4, vI 0), (15, .ls l), (16, vI a9), (17, vI a0)], [], 0, none⟩ K) (K (.exit 0) ⟨[(4, vI 0)], [], 0, none⟩) := by kernel_rfl
noncomputable def bmayF_l1 {R : Type} (fuel : Nat) (n : Int) (l : List ByteArray) (k0 k1 : Option R) : Nat → Int → Int → Option R
  | 0, _, _ => none
  | k + 1, w6, w5 =>
    (bmayF_s2 w5 w6 l n (k0) (fun a9 a0 => ( bmayF_l1 fuel n l k0 k1 k a9 a0 )) (k1))
theorem bmayF_l1_eq (fuel : Nat) (n : Int) (l : List ByteArray) (K : Ex → St → Option Out) : ∀ (k : Nat) (w6 w5 : Int), lpN (sub (bodyOf Tryd.prog 92) [1, 1, 0, 1, 0, 0]) (fnX Tryd.prog mode15 T_into fuel 26 0) 16 [0, 4, 15, 16, 17] k ⟨[(0, vI n), (4, vI 0), (15, .ls l), (16, vI w6), (17, vI w5)], [], 0, none⟩ K = bmayF_l1 fuel n l (K .ret ⟨[(4, vI 2)], [], 0, none⟩) (K (.exit 0) ⟨[(4, vI 0)], [], 0, none⟩) k w6 w5
  | 0, _, _ => rfl
  | k + 1, w6, w5 => by
    unfold bmayF_l1
    exact (bmayF_s2_eq fuel k K w5 w6 l n).trans (congr (congr (congr (Eq.refl (bmayF_s2 (R := Out) w5 w6 l n)) (rfl)) (funext fun a9 => funext fun a0 => bmayF_l1_eq fuel n l K k a9 a0)) (rfl))
noncomputable def bmayF_s3 {R : Type}  (c0 : Int → Option R) : Option R :=
  c0 2
theorem bmayF_s3_eq (fuel : Nat)   : (kont (fnX Tryd.prog mode15 T_into fuel 26 0) (bodyOf Tryd.prog 92) [1, 1, 0, 1, 0] 16 (endK Tryd.prog 0 0 92)) .ret ⟨[(4, vI 2)], [], 0, none⟩ = bmayF_s3  (fun a0 => some (vI a0, [])) := by kernel_rfl
noncomputable def bmayF_s4 {R : Type}  (c0 : Int → Option R) : Option R :=
  c0 0
theorem bmayF_s4_eq (fuel : Nat)   : (kont (fnX Tryd.prog mode15 T_into fuel 26 0) (bodyOf Tryd.prog 92) [1, 1, 0, 1, 0] 16 (endK Tryd.prog 0 0 92)) (.exit 0) ⟨[(4, vI 0)], [], 0, none⟩ = bmayF_s4  (fun a0 => some (vI a0, [])) := by kernel_rfl
noncomputable def bmayF_s1 {R : Type} (n : Int) (l : List ByteArray) (c0 : Int → Option R) (c1 : Int → Int → Option R) : Option R :=
  br (!(sz64 n))
    (c0 2)
    (br (decide ((((l.length : Nat) : Int) : Int) > 64))
      (c0 2)
      (c1 ((l.length : Nat) : Int) 0))
theorem bmayF_s1_eq (fuel : Nat)  (n : Int) (l : List ByteArray) : callN Tryd.prog mode15 T_into fuel 92 [vI n, .ls l] [] = bmayF_s1 n l (fun a1 => some (vI a1, [])) (fun a0 a2 => lpN (sub (bodyOf Tryd.prog 92) [1, 1, 0, 1, 0, 0]) (fnX Tryd.prog mode15 T_into fuel 26 0) 16 [0, 4, 15, 16, 17] fuel ⟨[(0, vI n), (4, vI 0), (15, .ls l), (16, vI a0), (17, vI a2)], [], 0, none⟩ (kont (fnX Tryd.prog mode15 T_into fuel 26 0) (bodyOf Tryd.prog 92) [1, 1, 0, 1, 0] 16 (endK Tryd.prog 0 0 92))) := by kernel_rfl
noncomputable def bmayF {R : Type} (fuel : Nat) (n : Int) (l : List ByteArray) (r0 : Int → Option R) : Option R :=
  (bmayF_s1 n l (fun a1 => r0 a1) (fun a0 a2 => (bmayF_l1 fuel n l ((bmayF_s3 (fun a3 => r0 a3))) ((bmayF_s4 (fun a4 => r0 a4))) fuel a0 a2)))
theorem bmayF_eq (fuel : Nat) (n : Int) (l : List ByteArray) : callN Tryd.prog mode15 T_into fuel 92 [.s (.int .i64 n), .ls l] [] = bmayF fuel n l (fun z0 => some (.s (.int .i64 z0), [])) := by
  unfold bmayF
  exact (bmayF_s1_eq fuel  n l).trans (congr (congr (Eq.refl (bmayF_s1 (R := Out) n l)) (rfl)) (funext fun a0 => funext fun a1 => (bmayF_l1_eq fuel n l (kont (fnX Tryd.prog mode15 T_into fuel 26 0) (bodyOf Tryd.prog 92) [1, 1, 0, 1, 0] 16 (endK Tryd.prog 0 0 92)) fuel a0 a1).trans (congrFun (congrFun (congrFun (congr (congr (Eq.refl (bmayF_l1 (R := Out) fuel n l)) ((bmayF_s3_eq fuel  ))) ((bmayF_s4_eq fuel  ))) fuel) a0) a1)))
theorem bmay_loop {R : Type} (fuel : Nat) (n : Int) (l : List ByteArray) (hx : l.length ≤ 1000000) (k0 k1 : Option R) : ∀ (k j : Nat), j ≤ l.length → l.length < j + k → bmayF_l1 fuel n l k0 k1 k (l.length : Int) (j : Int) = if (∀ s ∈ l.drop j, (s.size : Int) = n) then k1 else k0
  | 0, j, h1, h2 => by omega
  | k + 1, j, h1, h2 => by
    unfold bmayF_l1 bmayF_s2
    rw [br_if]
    by_cases hc : j < l.length
    · rw [if_pos (by simpa using hc), bnd_of ((ix_nat l j).trans (List.getElem?_eq_getElem hc)), br_if, List.drop_eq_getElem_cons hc, wrap_i64 (by omega) (by omega), show (j : Int) + 1 = ((j + 1 : Nat) : Int) by omega]
      dsimp only
      rw [bmay_loop fuel n l hx k0 k1 k (j + 1) (by omega) (by omega)]
      generalize l[j] = x
      generalize l.drop (j + 1) = t
      by_cases he : ((x.size : Nat) : Int) = n <;> simp [he]
    · rw [if_neg (by simpa using hc), List.drop_eq_nil_of_le (by omega)]
      simp
theorem bmay_fact (n : Int) (l : List ByteArray) : Fact Tryd.prog gTab 92 [.s (.int .i64 n), .ls l] [] (.s (.int .i64 (errB n l)), []) := by
  refine callN_fact hN hM T_into_ok (n := 66) (mode := mode15) ?_
  rw [bmayF_eq]
  unfold bmayF bmayF_s1 errB
  have hno : ∀ h : ¬ bok n l = true, bok n l = false := fun h => by rw [Bool.eq_false_iff]; exact h
  rw [br_if]
  by_cases hs : sz64 n = true
  · obtain ⟨h0, h1⟩ := sz64_iff.1 hs
    rw [if_neg (by simp [hs]), br_if]
    by_cases hx : l.length ≤ 64
    · rw [if_neg (by simp; omega)]
      have := bmay_loop (R := Out) 66 n l (by omega)
      dsimp only
      rw [show (0 : Int) = ((0 : Nat) : Int) from rfl, this _ _ 66 0 (by omega) (by omega), List.drop_zero]
      by_cases ha : ∀ s ∈ l, (s.size : Int) = n
      · rw [if_pos ha, if_pos (bok_iff.2 ⟨⟨h0, h1⟩, hx, ha⟩)]; rfl
      · rw [if_neg ha, hno fun h => ha (bok_iff.1 h).2.2]; rfl
    · rw [if_pos (by simp; omega), hno fun h => hx (bok_iff.1 h).2.1]; rfl
  · rw [if_pos (by simp [hs]), hno fun h => hs (sz64_iff.2 (bok_iff.1 h).1)]; rfl
noncomputable def bmay_ent : List V → List Blk → Option (Bool × Out)
  | [.s (.int .i64 n), w0], [] => (asSl .str w0).bind fun l => some (true, (.s (.int .i64 (errB n l)), []))
  | _, _ => none
theorem bmay_ok : ∀ args bs out, bmay_ent args bs = some (true, out) → Fact Tryd.prog gTab 92 args bs out := by
  intro args bs out h
  unfold bmay_ent at h
  split at h
  · rename_i n w0
    obtain ⟨l, h_l, h⟩ := Option.bind_eq_some_iff.1 h
    simp only [Option.some.injEq, Prod.mk.injEq] at h
    obtain ⟨_, rfl⟩ := h
    exact (bmay_fact n l).args (fun _ _ _ => fun _ h => RVs_two (fun _ h => h) (fun _ h => RVs_two (fun _ h => RV_ls h_l h) (fun _ h => h) h) h)
  · cases h
noncomputable def T_bmay : Tbl := Tbl.cons 92 bmay_ent T_into
theorem T_bmay_ok : CallOk Tryd.prog gTab T_bmay := cons_ok T_into_ok bmay_ok
/-! downpour/block.Sum -/
noncomputable abbrev qd19 (fuel : Nat) : Ctx Out := (fnX Tryd.prog mode15 T_bmay fuel 30 0)
noncomputable abbrev qd20 : Code := (sub (bodyOf Tryd.prog 89) [1, 1, 1, 0, 1, 0, 0])
noncomputable def BsumF_s2 {R : Type} (w7 w8 : Int) (l : List ByteArray) (n3 : Nat) (w9 : List Int) (c0 : Int → Int → List Int → Option R) (c1 : List Int → Option R) : Option R :=
  br (decide (w7 < w8))
    (bnd (ix l w7) fun e0 =>
    grd (decide (n3 = w9.length) && decide (w9.length ≤ e0.size) && decide (w9.length ≤ 1000000)) <|
    c0 w8 (IntKind.i64.wrap (w7 + 1)) (xb w9 (bytesL e0)))
    (c1 w9)
theorem BsumF_s2_eq (fuel k : Nat) (K : Ex → St → Option Out) (w7 w8 : Int) (l : List ByteArray) (n3 : Nat) (w9 : List Int) : lpN qd20 (qd19 fuel) 805306544 [4, 5, 7, 18, 19, 20] (k + 1) ⟨[(4, vS ByteArray.empty), (5, vI 0), (7, .sl 0 1 0 n3), (18, .ls l), (19, vI w8), (20, vI w7)], [(0, some ⟨5, .li .u8 w9, true⟩)], 1, none⟩ K = BsumF_s2 w7 w8 l n3 w9 (fun a0 a1 a2 => lpN qd20 (qd19 fuel) 805306544 [4, 5, 7, 18, 19, 20] k ⟨[(4, vS ByteArray.empty), (5, vI 0), (7, .sl 0 1 0 n3), (18, .ls l), (19, vI a0), (20, vI a1)], [(0, some ⟨5, .li .u8 a2, true⟩)], 1, none⟩ K) (fun a3 => K (.exit 0) ⟨[(4, vS ByteArray.empty), (5, vI 0), (7, .sl 0 1 0 n3)], [(0, some ⟨5, .li .u8 a3, true⟩)], 1, none⟩) := by kernel_rfl
noncomputable def BsumF_l1 {R : Type} (fuel n3 : Nat) (l : List ByteArray) (k0 : List Int → Option R) : Nat → Int → Int → List Int → Option R
  | 0, _, _, _ => none
  | k + 1, w8, w7, w9 =>
    (BsumF_s2 w7 w8 l n3 w9 (fun a0 a1 a2 => ( BsumF_l1 fuel n3 l k0 k a0 a1 a2 )) (fun a3 => k0 a3))
theorem BsumF_l1_eq (fuel n3 : Nat) (l : List ByteArray) (K : Ex → St → Option Out) : ∀ (k : Nat) (w8 w7 : Int) (w9 : List Int), lpN qd20 (qd19 fuel) 805306544 [4, 5, 7, 18, 19, 20] k ⟨[(4, vS ByteArray.empty), (5, vI 0), (7, .sl 0 1 0 n3), (18, .ls l), (19, vI w8), (20, vI w7)], [(0, some ⟨5, .li .u8 w9, true⟩)], 1, none⟩ K = BsumF_l1 fuel n3 l (fun y0 => K (.exit 0) ⟨[(4, vS ByteArray.empty), (5, vI 0), (7, .sl 0 1 0 n3)], [(0, some ⟨5, .li .u8 y0, true⟩)], 1, none⟩) k w8 w7 w9
  | 0, _, _, _ => rfl
  | k + 1, w8, w7, w9 => by
    unfold BsumF_l1
    exact (BsumF_s2_eq fuel k K w7 w8 l n3 w9).trans (congr (congr (Eq.refl (BsumF_s2 (R := Out) w7 w8 l n3 w9)) (funext fun a0 => funext fun a1 => funext fun a2 => BsumF_l1_eq fuel n3 l K k a0 a1 a2)) (rfl))
noncomputable def BsumF_s3 {R : Type} (n3 : Nat) (x0 : List Int) (c0 : ByteArray → Int → Option R) : Option R :=
  grd (Nat.ble (0 + n3) x0.length) <|
  c0 (txt (((x0).drop 0).take n3)) 0
theorem BsumF_s3_eq (fuel : Nat)  (n3 : Nat) (x0 : List Int) : (kont (qd19 fuel) (bodyOf Tryd.prog 89) [1, 1, 1, 0, 1, 0] 48 (endK Tryd.prog 0 0 89)) (.exit 0) ⟨[(4, vS ByteArray.empty), (5, vI 0), (7, .sl 0 1 0 n3)], [(0, some ⟨5, .li .u8 x0, true⟩)], 1, none⟩ = BsumF_s3 n3 x0 (fun a0 a1 => some (.tup [vS a0, vI a1], [])) := by kernel_rfl
noncomputable def BsumF_s1 {R : Type} (n : Int) (l : List ByteArray) (c0 : ByteArray → Int → Option R) (c1 : Int → Int → List Int → Nat → Option R) : Option R :=
  br (((errB n l) : Int) != 0)
    (c0 ByteArray.empty (errB n l))
    (bnd (mkN n n 1) fun n3 =>
    c1 ((l.length : Nat) : Int) 0 (List.replicate n3 (0 : Int)) n3)
theorem BsumF_s1_eq (fuel : Nat)  (n : Int) (l : List ByteArray) : callN Tryd.prog mode15 T_bmay fuel 89 [vI n, .ls l] [] = BsumF_s1 n l (fun a1 a2 => some (.tup [vS a1, vI a2], [])) (fun a0 a3 a4 n3 => lpN qd20 (qd19 fuel) 805306544 [4, 5, 7, 18, 19, 20] fuel ⟨[(4, vS ByteArray.empty), (5, vI 0), (7, .sl 0 1 0 n3), (18, .ls l), (19, vI a0), (20, vI a3)], [(0, some ⟨5, .li .u8 a4, true⟩)], 1, none⟩ (kont (qd19 fuel) (bodyOf Tryd.prog 89) [1, 1, 1, 0, 1, 0] 48 (endK Tryd.prog 0 0 89))) := by kernel_rfl
noncomputable def BsumF {R : Type} (fuel : Nat) (n : Int) (l : List ByteArray) (r0 : ByteArray → Int → Option R) : Option R :=
  (BsumF_s1 n l (fun a1 a2 => r0 a1 a2) (fun a0 a3 a4 n3 => (BsumF_l1 fuel n3 l (fun x0 => (BsumF_s3 n3 x0 (fun a5 a6 => r0 a5 a6))) fuel a0 a3 a4)))
theorem BsumF_eq (fuel : Nat) (n : Int) (l : List ByteArray) : callN Tryd.prog mode15 T_bmay fuel 89 [.s (.int .i64 n), .ls l] [] = BsumF fuel n l (fun z0 z1 => some (.tup [.s (.string z0), .s (.int .i64 z1)], [])) := by
  unfold BsumF
  exact (BsumF_s1_eq fuel  n l).trans (congr (congr (Eq.refl (BsumF_s1 (R := Out) n l)) (rfl)) (funext fun a0 => funext fun a1 => funext fun a2 => funext fun n3 => (BsumF_l1_eq fuel n3 l (kont (qd19 fuel) (bodyOf Tryd.prog 89) [1, 1, 1, 0, 1, 0] 48 (endK Tryd.prog 0 0 89)) fuel a0 a1 a2).trans (congrFun (congrFun (congrFun (congrFun (congr (Eq.refl (BsumF_l1 (R := Out) fuel n3 l)) (funext fun x0 => (BsumF_s3_eq fuel  n3 x0))) fuel) a0) a1) a2)))
theorem Bsum_loop {R : Type} (fuel m : Nat) (l : List ByteArray) (hm : m ≤ 64) (hx : l.length ≤ 64) (hs : ∀ s ∈ l, s.size = m) (k0 : List Int → Option R) : ∀ (k j : Nat), j ≤ l.length → l.length < j + k → BsumF_l1 fuel m l k0 k (l.length : Int) (j : Int) (sumL (zb m) (l.take j)) = k0 (sumL (zb m) l)
  | 0, j, h1, h2 => by omega
  | k + 1, j, h1, h2 => by
    have hz : (zb m).length = m := by unfold zb; simp
    have hl : (sumL (zb m) (l.take j)).length = m := by rw [sumL_len fun s h => by rw [hz]; exact hs s (List.mem_of_mem_take h), hz]
    unfold BsumF_l1 BsumF_s2
    rw [br_if]
    by_cases hc : j < l.length
    · have h3 := hs _ (List.getElem_mem hc)
      rw [if_pos (by simpa using hc), bnd_of ((ix_nat l j).trans (List.getElem?_eq_getElem hc)), grd_of (by simp [hl]; omega), wrap_i64 (by omega) (by omega), show (j : Int) + 1 = ((j + 1 : Nat) : Int) by omega]
      have e : xb (sumL (zb m) (l.take j)) (bytesL l[j]) = sumL (zb m) (l.take (j + 1)) := by
        rw [List.take_succ_eq_append_getElem hc]; unfold sumL; rw [List.foldl_append]; rfl
      rw [e]
      exact Bsum_loop fuel m l hm hx hs k0 k (j + 1) (by omega) (by omega)
    · have e : j = l.length := by omega
      subst e
      rw [if_neg (by simp), List.take_length]
theorem Bsum_fact (n : Int) (l : List ByteArray) : Fact Tryd.prog gTab 89 [.s (.int .i64 n), .ls l] [] (.tup [.s (.string (sumT n l)), .s (.int .i64 (errB n l))], []) := by
  refine callN_fact hN hM T_bmay_ok (n := 66) (mode := mode15) ?_
  rw [BsumF_eq]
  unfold BsumF BsumF_s1
  rw [br_if, sumT_eq]
  unfold sumTI errB
  by_cases hb : bok n l = true
  · obtain ⟨⟨h0, h1⟩, h2, h3⟩ := bok_iff.1 hb
    have hl := sum_len hb
    rw [if_pos hb, if_pos hb, if_neg (by decide), bnd_of (mkN_of (by omega) (by omega) (by omega))]
    have := Bsum_loop (R := Out) 66 n.toNat l (by omega) h2 (fun s h => by have := h3 s h; omega)
    have e : List.replicate n.toNat (0 : Int) = sumL (zb n.toNat) (l.take 0) := rfl
    dsimp only
    rw [e, show (0 : Int) = ((0 : Nat) : Int) from rfl, this _ 66 0 (by omega) (by omega), sumS_eq]
    unfold BsumF_s3
    rw [sumS_eq] at hl
    unfold sumI at hl ⊢
    rw [grd_of (by rw [Nat.ble_eq]; omega), List.drop_zero, List.take_of_length_le (by omega)]
    rfl
  · rw [if_neg hb, if_neg hb, if_pos (by decide)]
noncomputable def Bsum_ent : List V → List Blk → Option (Bool × Out)
  | [.s (.int .i64 n), w0], [] => (asSl .str w0).bind fun l => some (true, (.tup [.s (.string (sumT n l)), .s (.int .i64 (errB n l))], []))
  | _, _ => none
theorem Bsum_ok : ∀ args bs out, Bsum_ent args bs = some (true, out) → Fact Tryd.prog gTab 89 args bs out := by
  intro args bs out h
  unfold Bsum_ent at h
  split at h
  · rename_i n w0
    obtain ⟨l, h_l, h⟩ := Option.bind_eq_some_iff.1 h
    simp only [Option.some.injEq, Prod.mk.injEq] at h
    obtain ⟨_, rfl⟩ := h
    exact (Bsum_fact n l).args (fun _ _ _ => fun _ h => RVs_two (fun _ h => h) (fun _ h => RVs_two (fun _ h => RV_ls h_l h) (fun _ h => h) h) h)
  · cases h
noncomputable def T_Bsum : Tbl := Tbl.cons 89 Bsum_ent T_bmay
theorem T_Bsum_ok : CallOk Tryd.prog gTab T_Bsum := cons_ok T_bmay_ok Bsum_ok
def mode16 : FuncId → Nat := fun f => 0
/-! downpour/downpourref02.Why -/
noncomputable def refWhyF_s2 {R : Type} (w6 w7 : Int) (l : List ByteArray) (n : Int) (c0 : Option R) (c1 : Int → Int → Option R) (c2 : Option R) : Option R :=
  br (decide (w6 < w7))
    (bnd (ix l w6) fun e9 =>
    br (((e9.size : Nat) : Int) != n)
      (c0)
      (c1 w7 (IntKind.i64.wrap (w6 + 1))))
    (c2)
theorem refWhyF_s2_eq (fuel k : Nat) (K : Ex → St → Option Out) (w6 w7 : Int) (l : List ByteArray) (n : Int) : lpN (sub (bodyOf Tryd.prog 83) [1, 1, 0, 1, 0, 0]) (fnX Tryd.prog mode16 T_Bsum fuel 29 0) 16 [0, 4, 18, 19, 20] (k + 1) ⟨[(0, vI n), (4, vI 0), (18, .ls l), (19, vI w7), (20, vI w6)], [], 0, none⟩ K = refWhyF_s2 w6 w7 l n (K .ret ⟨[(4, vI 2)], [], 0, none⟩) (fun a0 a1 => lpN (sub (bodyOf Tryd.prog 83) [1, 1, 0, 1, 0, 0]) (fnX Tryd.prog mode16 T_Bsum fuel 29 0) 16 [0, 4, 18, 19, 20] k ⟨[(0, vI n), (4, vI 0), (18, .ls l), (19, vI a0), (20, vI a1)], [], 0, none⟩ K) (K (.exit 0) ⟨[(4, vI 0)], [], 0, none⟩) := by kernel_rfl
noncomputable def refWhyF_l1 {R : Type} (fuel : Nat) (n : Int) (l : List ByteArray) (k0 k1 : Option R) : Nat → Int → Int → Option R
  | 0, _, _ => none
  | k + 1, w7, w6 =>
    (refWhyF_s2 w6 w7 l n (k0) (fun a0 a1 => ( refWhyF_l1 fuel n l k0 k1 k a0 a1 )) (k1))
theorem refWhyF_l1_eq (fuel : Nat) (n : Int) (l : List ByteArray) (K : Ex → St → Option Out) : ∀ (k : Nat) (w7 w6 : Int), lpN (sub (bodyOf Tryd.prog 83) [1, 1, 0, 1, 0, 0]) (fnX Tryd.prog mode16 T_Bsum fuel 29 0) 16 [0, 4, 18, 19, 20] k ⟨[(0, vI n), (4, vI 0), (18, .ls l), (19, vI w7), (20, vI w6)], [], 0, none⟩ K = refWhyF_l1 fuel n l (K .ret ⟨[(4, vI 2)], [], 0, none⟩) (K (.exit 0) ⟨[(4, vI 0)], [], 0, none⟩) k w7 w6
  | 0, _, _ => rfl
  | k + 1, w7, w6 => by
    unfold refWhyF_l1
    exact (refWhyF_s2_eq fuel k K w6 w7 l n).trans (congr (congr (congr (Eq.refl (refWhyF_s2 (R := Out) w6 w7 l n)) (rfl)) (funext fun a0 => funext fun a1 => refWhyF_l1_eq fuel n l K k a0 a1)) (rfl))
noncomputable def refWhyF_s3 {R : Type}  (c0 : Int → Option R) : Option R :=
  c0 2
theorem refWhyF_s3_eq (fuel : Nat)   : (kont (fnX Tryd.prog mode16 T_Bsum fuel 29 0) (bodyOf Tryd.prog 83) [1, 1, 0, 1, 0] 16 (endK Tryd.prog 0 0 83)) .ret ⟨[(4, vI 2)], [], 0, none⟩ = refWhyF_s3  (fun a0 => some (vI a0, [])) := by kernel_rfl
noncomputable def refWhyF_s4 {R : Type}  (c0 : Int → Option R) : Option R :=
  c0 0
theorem refWhyF_s4_eq (fuel : Nat)   : (kont (fnX Tryd.prog mode16 T_Bsum fuel 29 0) (bodyOf Tryd.prog 83) [1, 1, 0, 1, 0] 16 (endK Tryd.prog 0 0 83)) (.exit 0) ⟨[(4, vI 0)], [], 0, none⟩ = refWhyF_s4  (fun a0 => some (vI a0, [])) := by kernel_rfl
noncomputable def refWhyF_s1 {R : Type} (n : Int) (l : List ByteArray) (c0 : Int → Option R) (c1 : Int → Int → Option R) : Option R :=
  br (decide (n < 0))
    (c0 2)
    (br (decide (n > 64))
      (c0 2)
      (br (decide ((((l.length : Nat) : Int) : Int) > 64))
        (c0 2)
        (c1 ((l.length : Nat) : Int) 0)))
theorem refWhyF_s1_eq (fuel : Nat)  (n : Int) (l : List ByteArray) : callN Tryd.prog mode16 T_Bsum fuel 83 [vI n, .ls l] [] = refWhyF_s1 n l (fun a1 => some (vI a1, [])) (fun a0 a2 => lpN (sub (bodyOf Tryd.prog 83) [1, 1, 0, 1, 0, 0]) (fnX Tryd.prog mode16 T_Bsum fuel 29 0) 16 [0, 4, 18, 19, 20] fuel ⟨[(0, vI n), (4, vI 0), (18, .ls l), (19, vI a0), (20, vI a2)], [], 0, none⟩ (kont (fnX Tryd.prog mode16 T_Bsum fuel 29 0) (bodyOf Tryd.prog 83) [1, 1, 0, 1, 0] 16 (endK Tryd.prog 0 0 83))) := by kernel_rfl
noncomputable def refWhyF {R : Type} (fuel : Nat) (n : Int) (l : List ByteArray) (r0 : Int → Option R) : Option R :=
  (refWhyF_s1 n l (fun a1 => r0 a1) (fun a0 a2 => (refWhyF_l1 fuel n l ((refWhyF_s3 (fun a3 => r0 a3))) ((refWhyF_s4 (fun a4 => r0 a4))) fuel a0 a2)))
theorem refWhyF_eq (fuel : Nat) (n : Int) (l : List ByteArray) : callN Tryd.prog mode16 T_Bsum fuel 83 [.s (.int .i64 n), .ls l] [] = refWhyF fuel n l (fun z0 => some (.s (.int .i64 z0), [])) := by
  unfold refWhyF
  exact (refWhyF_s1_eq fuel  n l).trans (congr (congr (Eq.refl (refWhyF_s1 (R := Out) n l)) (rfl)) (funext fun a0 => funext fun a1 => (refWhyF_l1_eq fuel n l (kont (fnX Tryd.prog mode16 T_Bsum fuel 29 0) (bodyOf Tryd.prog 83) [1, 1, 0, 1, 0] 16 (endK Tryd.prog 0 0 83)) fuel a0 a1).trans (congrFun (congrFun (congrFun (congr (congr (Eq.refl (refWhyF_l1 (R := Out) fuel n l)) ((refWhyF_s3_eq fuel  ))) ((refWhyF_s4_eq fuel  ))) fuel) a0) a1)))
theorem refWhy_loop {R : Type} (fuel : Nat) (n : Int) (l : List ByteArray) (hx : l.length ≤ 1000000) (k0 k1 : Option R) : ∀ (k j : Nat), j ≤ l.length → l.length < j + k → refWhyF_l1 fuel n l k0 k1 k (l.length : Int) (j : Int) = if (∀ s ∈ l.drop j, (s.size : Int) = n) then k1 else k0
  | 0, j, h1, h2 => by omega
  | k + 1, j, h1, h2 => by
    unfold refWhyF_l1 refWhyF_s2
    rw [br_if]
    by_cases hc : j < l.length
    · rw [if_pos (by simpa using hc), bnd_of ((ix_nat l j).trans (List.getElem?_eq_getElem hc)), br_if, List.drop_eq_getElem_cons hc, wrap_i64 (by omega) (by omega), show (j : Int) + 1 = ((j + 1 : Nat) : Int) by omega]
      dsimp only
      rw [refWhy_loop fuel n l hx k0 k1 k (j + 1) (by omega) (by omega)]
      generalize l[j] = x
      generalize l.drop (j + 1) = t
      by_cases he : ((x.size : Nat) : Int) = n <;> simp [he]
    · rw [if_neg (by simpa using hc), List.drop_eq_nil_of_le (by omega)]
      simp
theorem refWhy_fact (n : Int) (l : List ByteArray) : Fact Tryd.prog gTab 83 [.s (.int .i64 n), .ls l] [] (.s (.int .i64 (errB n l)), []) := by
  refine callN_fact hN hM T_Bsum_ok (n := 66) (mode := mode16) ?_
  rw [refWhyF_eq]
  unfold refWhyF refWhyF_s1 errB
  have hno : ∀ h : ¬ bok n l = true, bok n l = false := fun h => by rw [Bool.eq_false_iff]; exact h
  rw [br_if]
  by_cases h0 : n < 0
  · rw [if_pos (by simpa using h0), hno fun h => by have := (bok_iff.1 h).1; omega]; rfl
  · rw [if_neg (by simpa using h0), br_if]
    by_cases h1 : n > 64
    · rw [if_pos (by simpa using h1), hno fun h => by have := (bok_iff.1 h).1; omega]; rfl
    · rw [if_neg (by simpa using h1), br_if]
      by_cases hx : l.length ≤ 64
      · rw [if_neg (by simp; omega)]
        have := refWhy_loop (R := Out) 66 n l (by omega)
        dsimp only
        rw [show (0 : Int) = ((0 : Nat) : Int) from rfl, this _ _ 66 0 (by omega) (by omega), List.drop_zero]
        by_cases ha : ∀ s ∈ l, (s.size : Int) = n
        · rw [if_pos ha, if_pos (bok_iff.2 ⟨⟨by omega, by omega⟩, hx, ha⟩)]; rfl
        · rw [if_neg ha, hno fun h => ha (bok_iff.1 h).2.2]; rfl
      · rw [if_pos (by simp; omega), hno fun h => hx (bok_iff.1 h).2.1]; rfl
noncomputable def refWhy_ent : List V → List Blk → Option (Bool × Out)
  | [.s (.int .i64 n), w0], [] => (asSl .str w0).bind fun l => some (true, (.s (.int .i64 (errB n l)), []))
  | _, _ => none
theorem refWhy_ok : ∀ args bs out, refWhy_ent args bs = some (true, out) → Fact Tryd.prog gTab 83 args bs out := by
  intro args bs out h
  unfold refWhy_ent at h
  split at h
  · rename_i n w0
    obtain ⟨l, h_l, h⟩ := Option.bind_eq_some_iff.1 h
    simp only [Option.some.injEq, Prod.mk.injEq] at h
    obtain ⟨_, rfl⟩ := h
    exact (refWhy_fact n l).args (fun _ _ _ => fun _ h => RVs_two (fun _ h => h) (fun _ h => RVs_two (fun _ h => RV_ls h_l h) (fun _ h => h) h) h)
  · cases h
noncomputable def T_refWhy : Tbl := Tbl.cons 83 refWhy_ent T_Bsum
theorem T_refWhy_ok : CallOk Tryd.prog gTab T_refWhy := cons_ok T_Bsum_ok refWhy_ok
/-! downpour/downpourref02.Sum -/
noncomputable abbrev qd21 : Code := (sub (bodyOf Tryd.prog 104) [1, 1, 0, 1, 0, 0])
noncomputable abbrev qd22 (fuel : Nat) : Ctx Out := (fnX Tryd.prog mode16 T_refWhy fuel 42 0)
noncomputable abbrev qd23 : Nat × V := (6, vS ByteArray.empty)
noncomputable abbrev qd24 : List Nat := [0, 1, 2, 6, 7, 8, 9, 13, 14, 15, 18, 19, 20]
noncomputable abbrev qd25 : Code := (sub qd21 [1, 0, 0, 1, 0, 1, 0, 0])
noncomputable def refSumF_s3 {R : Type} (w0 w1 : Int) (l : List ByteArray) (b : List Int) (w2 w3 : Int) (w4 : Bool) (n : Int) (w5 : Nat) (w6 : List Int) (c0 c1 : Int → Bool → Int → Int → Option R) (c2 : Int → Bool → Int → Int → Bool → Option R) : Option R :=
  br (decide (w0 < w1))
    (bnd (ix l w0) fun e0 =>
    bnd (ix b w0) fun e1 =>
    br (e1 == 1)
      (bnd (ix e0.data.toList w2) fun ub77 =>
      c0 (xorI .u8 w3 ((ub77.toNat : Nat) : Int)) w4 w1 (IntKind.i64.wrap (w0 + 1)))
      (c1 w3 w4 w1 (IntKind.i64.wrap (w0 + 1))))
    (c2 w3 w4 w1 w0 (decide (w0 < w1)))
theorem refSumF_s3_eq (fuel k : Nat) (K : Ex → St → Option Out) (w0 w1 : Int) (l : List ByteArray) (b : List Int) (w2 w3 : Int) (w4 : Bool) (n : Int) (w5 : Nat) (w6 : List Int) : lpN qd25 (qd22 fuel) 4398046506951 qd24 (k + 1) ⟨[(0, vI n), (1, .ls l), (2, vL b), qd23, (7, .sl 0 1 0 w5), (8, vI w2), (9, .s (.int .u8 w3)), (13, vI w2), (14, vI n), (15, vB w4), (18, .ls l), (19, vI w1), (20, vI w0)], [(0, some ⟨5, .li .u8 w6, true⟩)], 1, none⟩ K = refSumF_s3 w0 w1 l b w2 w3 w4 n w5 w6 (fun a0 a1 a2 a3 => lpN qd25 (qd22 fuel) 4398046506951 qd24 k ⟨[(0, vI n), (1, .ls l), (2, vL b), qd23, (7, .sl 0 1 0 w5), (8, vI w2), (9, .s (.int .u8 a0)), (13, vI w2), (14, vI n), (15, vB a1), (18, .ls l), (19, vI a2), (20, vI a3)], [(0, some ⟨5, .li .u8 w6, true⟩)], 1, none⟩ K) (fun a4 a5 a6 a7 => lpN qd25 (qd22 fuel) 4398046506951 qd24 k ⟨[(0, vI n), (1, .ls l), (2, vL b), qd23, (7, .sl 0 1 0 w5), (8, vI w2), (9, .s (.int .u8 a4)), (13, vI w2), (14, vI n), (15, vB a5), (18, .ls l), (19, vI a6), (20, vI a7)], [(0, some ⟨5, .li .u8 w6, true⟩)], 1, none⟩ K) (fun a8 a9 a88 a89 a90 => K (.exit 2) ⟨[(0, vI n), (1, .ls l), (2, vL b), qd23, (7, .sl 0 1 0 w5), (8, vI w2), (9, .s (.int .u8 a8)), (13, vI w2), (14, vI n), (15, vB a9), (18, .ls l), (19, vI a88), (20, vI a89), (21, vB a90)], [(0, some ⟨5, .li .u8 w6, true⟩)], 1, none⟩) := by kernel_rfl
noncomputable def refSumF_l2 {R : Type} (fuel : Nat) (n : Int) (l : List ByteArray) (b : List Int) (w0 : Nat) (w1 : Int) (w2 : List Int) (k0 : Int → Bool → Int → Int → Bool → Option R) : Nat → Int → Bool → Int → Int → Option R
  | 0, _, _, _, _ => none
  | k + 1, w3, w4, w5, w6 =>
    (refSumF_s3 w6 w5 l b w1 w3 w4 n w0 w2 (fun a0 a1 a2 a3 => ( refSumF_l2 fuel n l b w0 w1 w2 k0 k a0 a1 a2 a3 )) (fun a4 a5 a6 a7 => ( refSumF_l2 fuel n l b w0 w1 w2 k0 k a4 a5 a6 a7 )) (fun a8 a9 a88 a89 a90 => k0 a8 a9 a88 a89 a90))
theorem refSumF_l2_eq (fuel : Nat) (n : Int) (l : List ByteArray) (b : List Int) (w0 : Nat) (w1 : Int) (w2 : List Int) (K : Ex → St → Option Out) : ∀ (k : Nat) (w3 : Int) (w4 : Bool) (w5 w6 : Int), lpN qd25 (qd22 fuel) 4398046506951 qd24 k ⟨[(0, vI n), (1, .ls l), (2, vL b), qd23, (7, .sl 0 1 0 w0), (8, vI w1), (9, .s (.int .u8 w3)), (13, vI w1), (14, vI n), (15, vB w4), (18, .ls l), (19, vI w5), (20, vI w6)], [(0, some ⟨5, .li .u8 w2, true⟩)], 1, none⟩ K = refSumF_l2 fuel n l b w0 w1 w2 (fun y0 y1 y2 y3 y4 => K (.exit 2) ⟨[(0, vI n), (1, .ls l), (2, vL b), qd23, (7, .sl 0 1 0 w0), (8, vI w1), (9, .s (.int .u8 y0)), (13, vI w1), (14, vI n), (15, vB y1), (18, .ls l), (19, vI y2), (20, vI y3), (21, vB y4)], [(0, some ⟨5, .li .u8 w2, true⟩)], 1, none⟩) k w3 w4 w5 w6
  | 0, _, _, _, _ => rfl
  | k + 1, w3, w4, w5, w6 => by
    unfold refSumF_l2
    exact (refSumF_s3_eq fuel k K w6 w5 l b w1 w3 w4 n w0 w2).trans (congr (congr (congr (Eq.refl (refSumF_s3 (R := Out) w6 w5 l b w1 w3 w4 n w0 w2)) (funext fun a0 => funext fun a1 => funext fun a2 => funext fun a3 => refSumF_l2_eq fuel n l b w0 w1 w2 K k a0 a1 a2 a3)) (funext fun a4 => funext fun a5 => funext fun a6 => funext fun a7 => refSumF_l2_eq fuel n l b w0 w1 w2 K k a4 a5 a6 a7)) (rfl))
noncomputable def refSumF_s4 {R : Type} (w0 : List Int) (w1 : Nat) (x0 w2 n : Int) (l : List ByteArray) (b : List Int) (x1 : Bool) (x2 x3 : Int) (x4 : Bool) (c0 : Nat → Int → List Int → Option R) : Option R :=
  grd (Nat.beq w0.length w1) <|
  grd (okN (w1 + 1) 1) <|
  c0 ((w0 ++ [x0]).length) (IntKind.i64.wrap (w2 + 1)) (w0 ++ [x0])
theorem refSumF_s4_eq (fuel k : Nat) (K : Ex → St → Option Out) (w0 : List Int) (w1 : Nat) (x0 w2 n : Int) (l : List ByteArray) (b : List Int) (x1 : Bool) (x2 x3 : Int) (x4 : Bool) : (kont (qd22 fuel) qd21 [1, 0, 0, 1, 0, 1, 0] 4398046506951 (rdK qd21 (qd22 fuel) 3298534883520 [0, 1, 2, 6, 7, 8] k K)) (.exit 2) ⟨[(0, vI n), (1, .ls l), (2, vL b), qd23, (7, .sl 0 1 0 w1), (8, vI w2), (9, .s (.int .u8 x0)), (13, vI w2), (14, vI n), (15, vB x1), (18, .ls l), (19, vI x2), (20, vI x3), (21, vB x4)], [(0, some ⟨5, .li .u8 w0, true⟩)], 1, none⟩ = refSumF_s4 w0 w1 x0 w2 n l b x1 x2 x3 x4 (fun a0 a1 a2 => lpN qd21 (qd22 fuel) 3298534883520 [0, 1, 2, 6, 7, 8] k ⟨[(0, vI n), (1, .ls l), (2, vL b), qd23, (7, .sl 0 1 0 a0), (8, vI a1)], [(0, some ⟨5, .li .u8 a2, true⟩)], 1, none⟩ K) := by kernel_rfl
noncomputable def refSumF_s2 {R : Type} (w0 n : Int) (l : List ByteArray) (w1 : Nat) (w2 b : List Int) (c0 : Int → Bool → Int → Int → Option R) (c1 : Nat → List Int → Option R) : Option R :=
  br (decide (w0 < n))
    (c0 0 (decide (w0 < n)) ((l.length : Nat) : Int) 0)
    (c1 w1 w2)
theorem refSumF_s2_eq (fuel k : Nat) (K : Ex → St → Option Out) (w0 n : Int) (l : List ByteArray) (w1 : Nat) (w2 b : List Int) : lpN qd21 (qd22 fuel) 3298534883520 [0, 1, 2, 6, 7, 8] (k + 1) ⟨[(0, vI n), (1, .ls l), (2, vL b), qd23, (7, .sl 0 1 0 w1), (8, vI w0)], [(0, some ⟨5, .li .u8 w2, true⟩)], 1, none⟩ K = refSumF_s2 w0 n l w1 w2 b (fun a0 a1 a2 a3 => lpN qd25 (qd22 fuel) 4398046506951 qd24 fuel ⟨[(0, vI n), (1, .ls l), (2, vL b), qd23, (7, .sl 0 1 0 w1), (8, vI w0), (9, .s (.int .u8 a0)), (13, vI w0), (14, vI n), (15, vB a1), (18, .ls l), (19, vI a2), (20, vI a3)], [(0, some ⟨5, .li .u8 w2, true⟩)], 1, none⟩ (kont (qd22 fuel) qd21 [1, 0, 0, 1, 0, 1, 0] 4398046506951 (rdK qd21 (qd22 fuel) 3298534883520 [0, 1, 2, 6, 7, 8] k K))) (fun a4 a5 => K (.exit 0) ⟨[qd23, (7, .sl 0 1 0 a4)], [(0, some ⟨5, .li .u8 a5, true⟩)], 1, none⟩) := by kernel_rfl
noncomputable def refSumF_l1 {R : Type} (fuel : Nat) (n : Int) (l : List ByteArray) (b : List Int) (k0 : Nat → List Int → Option R) : Nat → Nat → Int → List Int → Option R
  | 0, _, _, _ => none
  | k + 1, w0, w1, w2 =>
    (refSumF_s2 w1 n l w0 w2 b (fun a0 a1 a2 a3 => (refSumF_l2 fuel n l b w0 w1 w2 (fun x0 x1 x2 x3 x4 => (refSumF_s4 w2 w0 x0 w1 n l b x1 x2 x3 x4 (fun a4 a5 a6 => ( refSumF_l1 fuel n l b k0 k a4 a5 a6 )))) fuel a0 a1 a2 a3)) (fun a7 a8 => k0 a7 a8))
theorem refSumF_l1_eq (fuel : Nat) (n : Int) (l : List ByteArray) (b : List Int) (K : Ex → St → Option Out) : ∀ (k w0 : Nat) (w1 : Int) (w2 : List Int), lpN qd21 (qd22 fuel) 3298534883520 [0, 1, 2, 6, 7, 8] k ⟨[(0, vI n), (1, .ls l), (2, vL b), qd23, (7, .sl 0 1 0 w0), (8, vI w1)], [(0, some ⟨5, .li .u8 w2, true⟩)], 1, none⟩ K = refSumF_l1 fuel n l b (fun y0 y1 => K (.exit 0) ⟨[qd23, (7, .sl 0 1 0 y0)], [(0, some ⟨5, .li .u8 y1, true⟩)], 1, none⟩) k w0 w1 w2
  | 0, _, _, _ => rfl
  | k + 1, w0, w1, w2 => by
    unfold refSumF_l1
    exact (refSumF_s2_eq fuel k K w1 n l w0 w2 b).trans (congr (congr (Eq.refl (refSumF_s2 (R := Out) w1 n l w0 w2 b)) (funext fun a0 => funext fun a1 => funext fun a2 => funext fun a3 => (refSumF_l2_eq fuel n l b w0 w1 w2 (kont (qd22 fuel) qd21 [1, 0, 0, 1, 0, 1, 0] 4398046506951 (rdK qd21 (qd22 fuel) 3298534883520 [0, 1, 2, 6, 7, 8] k K)) fuel a0 a1 a2 a3).trans (congrFun (congrFun (congrFun (congrFun (congrFun (congr (Eq.refl (refSumF_l2 (R := Out) fuel n l b w0 w1 w2)) (funext fun x0 => funext fun x1 => funext fun x2 => funext fun x3 => funext fun x4 => (refSumF_s4_eq fuel k K w2 w0 x0 w1 n l b x1 x2 x3 x4).trans (congr (Eq.refl (refSumF_s4 (R := Out) w2 w0 x0 w1 n l b x1 x2 x3 x4)) (funext fun a4 => funext fun a5 => funext fun a6 => refSumF_l1_eq fuel n l b K k a4 a5 a6)))) fuel) a0) a1) a2) a3))) (rfl))
noncomputable def refSumF_s5 {R : Type} (x0 : Nat) (x1 : List Int) (c0 : ByteArray → Option R) : Option R :=
  grd (Nat.ble (0 + x0) x1.length) <|
  c0 (txt (((x1).drop 0).take x0))
theorem refSumF_s5_eq (fuel : Nat)  (x0 : Nat) (x1 : List Int) : (kont (qd22 fuel) (bodyOf Tryd.prog 104) [1, 1, 0, 1, 0] 64 (endK Tryd.prog 0 0 104)) (.exit 0) ⟨[qd23, (7, .sl 0 1 0 x0)], [(0, some ⟨5, .li .u8 x1, true⟩)], 1, none⟩ = refSumF_s5 x0 x1 (fun a0 => some (vS a0, [])) := by kernel_rfl
noncomputable def refSumF_s1 {R : Type} (n : Int) (l : List ByteArray) (b : List Int) (c0 : Nat → Int → List Int → Option R) : Option R :=
  c0 0 0 ([])
theorem refSumF_s1_eq (fuel : Nat)  (n : Int) (l : List ByteArray) (b : List Int) : callN Tryd.prog mode16 T_refWhy fuel 104 [vI n, .ls l, vL b] [] = refSumF_s1 n l b (fun a0 a1 a2 => lpN qd21 (qd22 fuel) 3298534883520 [0, 1, 2, 6, 7, 8] fuel ⟨[(0, vI n), (1, .ls l), (2, vL b), qd23, (7, .sl 0 1 0 a0), (8, vI a1)], [(0, some ⟨5, .li .u8 a2, true⟩)], 1, none⟩ (kont (qd22 fuel) (bodyOf Tryd.prog 104) [1, 1, 0, 1, 0] 64 (endK Tryd.prog 0 0 104))) := by kernel_rfl
noncomputable def refSumF {R : Type} (fuel : Nat) (n : Int) (l : List ByteArray) (b : List Int) (r0 : ByteArray → Option R) : Option R :=
  (refSumF_s1 n l b (fun a0 a1 a2 => (refSumF_l1 fuel n l b (fun x0 x1 => (refSumF_s5 x0 x1 (fun a3 => r0 a3))) fuel a0 a1 a2)))
theorem refSumF_eq (fuel : Nat) (n : Int) (l : List ByteArray) (b : List Int) : callN Tryd.prog mode16 T_refWhy fuel 104 [.s (.int .i64 n), .ls l, .li .i64 b] [] = refSumF fuel n l b (fun z0 => some (.s (.string z0), [])) := by
  unfold refSumF
  exact (refSumF_s1_eq fuel  n l b).trans (congr (Eq.refl (refSumF_s1 (R := Out) n l b)) (funext fun a0 => funext fun a1 => funext fun a2 => (refSumF_l1_eq fuel n l b (kont (qd22 fuel) (bodyOf Tryd.prog 104) [1, 1, 0, 1, 0] 64 (endK Tryd.prog 0 0 104)) fuel a0 a1 a2).trans (congrFun (congrFun (congrFun (congrFun (congr (Eq.refl (refSumF_l1 (R := Out) fuel n l b)) (funext fun x0 => funext fun x1 => (refSumF_s5_eq fuel  x0 x1))) fuel) a0) a1) a2)))
/-- A byte of a sum of those blocks whose bits are 1. -/
def byteL (i : Nat) : Int → List (ByteArray × Int) → Int
  | a, [] => a
  | a, p :: t => byteL i (if p.2 = 1 then xorI .u8 a ((bytesL p.1).getD i 0) else a) t
noncomputable def sumBL (a : List Int) (l : List (ByteArray × Int)) : List Int := l.foldl (fun a p => if p.2 = 1 then xb a (bytesL p.1) else a) a
theorem sumBL_len : ∀ (l : List (ByteArray × Int)) (a : List Int), (∀ p, p ∈ l → p.1.size = a.length) → (sumBL a l).length = a.length
  | [], a, h => rfl
  | p :: t, a, h => by
    have h1 := h p List.mem_cons_self
    have e : (if p.2 = 1 then xb a (bytesL p.1) else a).length = a.length := by
      split
      · rw [xb_len, bytes_len]; omega
      · rfl
    show (sumBL _ t).length = _
    rw [sumBL_len t _ fun q hq => by rw [e]; exact h q (List.mem_cons_of_mem _ hq), e]
theorem byteL_eq (i : Nat) : ∀ (l : List (ByteArray × Int)) (a : List Int), i < a.length → (∀ p, p ∈ l → p.1.size = a.length) → (sumBL a l).getD i 0 = byteL i (a.getD i 0) l
  | [], a, hi, h => rfl
  | p :: t, a, hi, h => by
    have h1 := h p List.mem_cons_self
    have e : (if p.2 = 1 then xb a (bytesL p.1) else a).length = a.length := by
      split
      · rw [xb_len, bytes_len]; omega
      · rfl
    show (sumBL (if p.2 = 1 then xb a (bytesL p.1) else a) t).getD i 0 = _
    rw [byteL_eq i t _ (by omega) fun q hq => by rw [e]; exact h q (List.mem_cons_of_mem _ hq), byteL]
    congr 1
    split
    · rw [xb_getD hi (by rw [bytes_len]; omega)]
    · rfl
theorem byteL_snoc (i : Nat) : ∀ (l : List (ByteArray × Int)) (a : Int) (p : ByteArray × Int), byteL i a (l ++ [p]) = if p.2 = 1 then xorI .u8 (byteL i a l) ((bytesL p.1).getD i 0) else byteL i a l
  | [], a, p => rfl
  | q :: t, a, p => by
    show byteL i _ (t ++ [p]) = _
    rw [byteL_snoc i t _ p]
    rfl
theorem zip_take {l : List ByteArray} {b : List Int} {j : Nat} (h : j < l.length) (h2 : j < b.length) : (l.take (j + 1)).zip (b.take (j + 1)) = (l.take j).zip (b.take j) ++ [(l[j], b[j])] := by
  rw [List.take_succ_eq_append_getElem h, List.take_succ_eq_append_getElem h2, List.zip_append (by rw [List.length_take, List.length_take]; omega)]
  rfl
theorem refSum_in {R : Type} (fuel n : Nat) (l : List ByteArray) (b : List Int) (hb : b.length = l.length) (hx : l.length ≤ 64) (hs : ∀ s, s ∈ l → s.size = n) (w27 i : Nat) (hi : i < n) (w29 : List Int) (k0 : Int → Bool → Int → Int → Bool → Option R) (v : Bool) : ∀ (k j : Nat), j ≤ l.length → l.length < j + k →
    refSumF_l2 fuel (n : Int) l b w27 (i : Int) w29 k0 k (byteL i 0 ((l.take j).zip (b.take j))) v (l.length : Int) (j : Int) = k0 (byteL i 0 (l.zip b)) v (l.length : Int) (l.length : Int) false
  | 0, j, h1, h2 => by omega
  | k + 1, j, h1, h2 => by
    unfold refSumF_l2 refSumF_s3
    rw [br_if]
    by_cases hc : j < l.length
    · have hcb : j < b.length := by omega
      have h3 := hs _ (List.getElem_mem hc)
      have ih := refSum_in fuel n l b hb hx hs w27 i hi w29 k0 v k (j + 1) (by omega) (by omega)
      rw [zip_take hc hcb, byteL_snoc] at ih
      rw [if_pos (by simpa using hc), bnd_of ((ix_nat l j).trans (List.getElem?_eq_getElem hc)), bnd_of ((ix_nat b j).trans (List.getElem?_eq_getElem hcb)), br_if, wrap_i64 (by omega) (by omega), show (j : Int) + 1 = ((j + 1 : Nat) : Int) by omega]
      by_cases hz : b[j] = 1
      · obtain ⟨c, e1, e2⟩ := ix_byte l[j] i (by omega)
        rw [if_pos (by simpa using hz), bnd_of e1, e2]
        rw [if_pos hz] at ih
        exact ih
      · rw [if_neg (by simpa using hz)]
        rw [if_neg hz] at ih
        exact ih
    · have e : j = l.length := by omega
      subst e
      rw [if_neg (by simp), List.take_length, ← hb, List.take_length, hb, decide_eq_false (by omega)]
theorem take_getD {t : List Int} {i : Nat} (h : i < t.length) : t.take i ++ [t.getD i 0] = t.take (i + 1) := by
  rw [List.take_succ_eq_append_getElem h, List.getD_eq_getElem?_getD, List.getElem?_eq_getElem h]; rfl
theorem refSum_out {R : Type} (fuel n : Nat) (l : List ByteArray) (b : List Int) (hb : b.length = l.length) (hx : l.length ≤ 64) (hf : 64 < fuel) (hn : n ≤ 64) (hs : ∀ s, s ∈ l → s.size = n) (k0 : Nat → List Int → Option R) : ∀ (k i : Nat), i ≤ n → n < i + k →
    refSumF_l1 fuel (n : Int) l b k0 k i (i : Int) ((sumBL (zb n) (l.zip b)).take i) = k0 n (sumBL (zb n) (l.zip b))
  | 0, i, h1, h2 => by omega
  | k + 1, i, h1, h2 => by
    have hz : (zb n).length = n := by unfold zb; simp
    have hs' : ∀ p, p ∈ l.zip b → p.1.size = (zb n).length := fun p hp => by rw [hz]; exact hs _ (List.of_mem_zip hp).1
    have hl : (sumBL (zb n) (l.zip b)).length = n := by rw [sumBL_len _ _ hs', hz]
    have ht : ((sumBL (zb n) (l.zip b)).take i).length = i := by rw [List.length_take]; omega
    unfold refSumF_l1 refSumF_s2
    rw [br_if]
    by_cases hc : i < n
    · rw [if_pos (by simpa using hc)]
      dsimp only
      have := refSum_in (R := R) fuel n l b hb hx hs i i hc ((sumBL (zb n) (l.zip b)).take i)
      refine (this _ _ fuel 0 (by omega) (by omega)).trans ?_
      unfold refSumF_s4
      have e := byteL_eq i (l.zip b) (zb n) (by omega) hs'
      rw [zb_getD] at e
      rw [grd_of (by rw [ht]; exact beq_self i), grd_of (okN_of (by omega) (by omega)), ← e, take_getD (by omega), wrap_i64 (by omega) (by omega), show (i : Int) + 1 = ((i + 1 : Nat) : Int) by omega]
      have ht1 : ((sumBL (zb n) (l.zip b)).take (i + 1)).length = i + 1 := by rw [List.length_take]; omega
      rw [ht1]
      exact refSum_out fuel n l b hb hx hf hn hs k0 k (i + 1) (by omega) (by omega)
    · have e : i = n := by omega
      subst e
      rw [if_neg (by simp), List.take_of_length_le (by omega)]
theorem refSum_fact (n : Int) (l : List ByteArray) (b : List Int) (hg : (bok n l && decide (b.length = l.length)) = true) : Fact Tryd.prog gTab 104 [.s (.int .i64 n), .ls l, .li .i64 b] [] (.s (.string (txt (sumBS n l b))), []) := by
  rw [Bool.and_eq_true] at hg
  obtain ⟨hg, hb⟩ := hg
  have hb := of_decide_eq_true hb
  obtain ⟨⟨h0, h1⟩, h2, h3⟩ := bok_iff.1 hg
  obtain ⟨m, rfl⟩ : ∃ m : Nat, n = (m : Int) := ⟨n.toNat, by omega⟩
  have hs : ∀ s, s ∈ l → s.size = m := fun s h => by have := h3 s h; omega
  have hz : (zb m).length = m := by unfold zb; simp
  have hl : (sumBL (zb m) (l.zip b)).length = m := by rw [sumBL_len _ _ fun p hp => by rw [hz]; exact hs _ (List.of_mem_zip hp).1, hz]
  refine callN_fact hN hM T_refWhy_ok (n := 66) (mode := mode16) ?_
  rw [refSumF_eq]
  unfold refSumF refSumF_s1
  dsimp only
  have := refSum_out (R := Out) 66 m l b hb h2 (by omega) (by omega) hs
  rw [show ([] : List Int) = (sumBL (zb m) (l.zip b)).take 0 from rfl, show (0 : Int) = ((0 : Nat) : Int) from rfl, this _ 66 0 (by omega) (by omega)]
  unfold refSumF_s5
  rw [grd_of (by rw [hl]; simp), List.drop_zero, List.take_of_length_le (by omega), sumBS_eq]
  unfold sumBI
  rw [Int.toNat_natCast]
  rfl
noncomputable def refSum_ent : List V → List Blk → Option (Bool × Out)
  | [.s (.int .i64 n), w0, w1], [] => (asSl .str w0).bind fun l => (asSl (.int .i64) w1).bind fun b => some ((bok n l && decide (b.length = l.length)), (.s (.string (txt (sumBS n l b))), []))
  | _, _ => none
theorem refSum_ok : ∀ args bs out, refSum_ent args bs = some (true, out) → Fact Tryd.prog gTab 104 args bs out := by
  intro args bs out h
  unfold refSum_ent at h
  split at h
  · rename_i n w0 w1
    obtain ⟨l, h_l, h⟩ := Option.bind_eq_some_iff.1 h
    obtain ⟨b, h_b, h⟩ := Option.bind_eq_some_iff.1 h
    simp only [Option.some.injEq, Prod.mk.injEq] at h
    obtain ⟨hg, rfl⟩ := h
    exact (refSum_fact n l b hg).args (fun _ _ _ => fun _ h => RVs_two (fun _ h => h) (fun _ h => RVs_two (fun _ h => RV_ls h_l h) (fun _ h => RVs_two (fun _ h => RV_li h_b h) (fun _ h => h) h) h) h)
  · cases h
noncomputable def T_refSum : Tbl := Tbl.cons 104 refSum_ent T_refWhy
theorem T_refSum_ok : CallOk Tryd.prog gTab T_refSum := cons_ok T_refWhy_ok refSum_ok
/-! Blocks that a row names. -/
noncomputable def pickLI (l : List ByteArray) (ws : List Int) : List ByteArray := (plS ws).map fun i => l.getD i.toNat ByteArray.empty
noncomputable def pickL : List ByteArray → List Int → List ByteArray := Classical.choose (⟨pickLI, rfl⟩ : ∃ f, f = pickLI)
theorem pickL_eq : pickL = pickLI := Classical.choose_spec (⟨pickLI, rfl⟩ : ∃ f, f = pickLI)
noncomputable def pickEI (n : Int) (l : List ByteArray) (m : Int) (ws : List Int) : Int := if bok n l = true then (if rtS m ws = true ∧ m = (l.length : Int) then 0 else 1) else 2
noncomputable def pickE : Int → List ByteArray → Int → List Int → Int := Classical.choose (⟨pickEI, rfl⟩ : ∃ f, f = pickEI)
theorem pickE_eq : pickE = pickEI := Classical.choose_spec (⟨pickEI, rfl⟩ : ∃ f, f = pickEI)
noncomputable def pickTI (n : Int) (l : List ByteArray) (m : Int) (ws : List Int) : ByteArray := if pickE n l m ws = 0 then txt (sumS n (pickL l ws)) else ByteArray.empty
noncomputable def pickT : Int → List ByteArray → Int → List Int → ByteArray := Classical.choose (⟨pickTI, rfl⟩ : ∃ f, f = pickTI)
theorem pickT_eq : pickT = pickTI := Classical.choose_spec (⟨pickTI, rfl⟩ : ∃ f, f = pickTI)
def bitsRI (m : Int) (ws : List Int) : List Int := (List.range m.toNat).map fun (i : Nat) => bitI ws (i : Int)
noncomputable def bitsR : Int → List Int → List Int := Classical.choose (⟨bitsRI, rfl⟩ : ∃ f, f = bitsRI)
theorem bitsR_eq : bitsR = bitsRI := Classical.choose_spec (⟨bitsRI, rfl⟩ : ∃ f, f = bitsRI)
theorem bitsR_len (m : Int) (ws : List Int) : (bitsR m ws).length = m.toNat := by rw [bitsR_eq]; unfold bitsRI; simp
theorem pick_range {m : Int} {ws : List Int} {l : List ByteArray} (hok : okW ws = true) (h : rtS m ws = true) (hm : m = (l.length : Int)) {i : Int} (hi : i ∈ plS ws) : 0 ≤ i ∧ i < (l.length : Int) := by
  rw [pl_plc hok h] at hi
  obtain ⟨j, h1, h2, rfl⟩ := (mem_plc _ _ _).1 hi
  omega
theorem sumB_filter (a : List Int) : ∀ (z : List (ByteArray × Int)), z.foldl (fun a p => if p.2 = 1 then xb a (bytesL p.1) else a) a = sumL a ((z.filter fun p => decide (p.2 = 1)).map (·.1)) := by
  intro z
  induction z generalizing a with
  | nil => rfl
  | cons p t ih =>
    rw [List.foldl_cons, ih]
    by_cases h : p.2 = 1
    · rw [if_pos h, List.filter_cons_of_pos (by simpa using h)]; rfl
    · rw [if_neg h, List.filter_cons_of_neg (by simpa using h)]
theorem zip_filter (v : Nat) : ∀ (k : Nat) (l : List ByteArray), k ≤ l.length → (((l.take k).zip ((List.range k).map fun (i : Nat) => if v.testBit i = true then (1 : Int) else 0)).filter fun p => decide (p.2 = 1)).map (·.1) = (plc v k).map fun i => l.getD i.toNat ByteArray.empty
  | 0, l, h => by simp [plc]
  | k + 1, l, h => by
    have hk : k < l.length := by omega
    rw [List.take_succ_eq_append_getElem hk, List.range_succ, List.map_append, List.zip_append (by rw [List.length_take, List.length_map, List.length_range]; omega), List.filter_append, List.map_append, zip_filter v k l (by omega), plc_succ, List.map_append]
    congr 1
    have e : l.getD ((k : Nat) : Int).toNat ByteArray.empty = l[k] := by rw [Int.toNat_natCast, List.getD_eq_getElem?_getD, List.getElem?_eq_getElem hk]; rfl
    by_cases hb : v.testBit k = true
    · rw [← e]; simp [hb]
    · simp [hb]
/-- The document's sum by bits is that of the blocks that are named. -/
theorem sumB_pick {n m : Int} {l : List ByteArray} {ws : List Int} (hok : okW ws = true) (h : rtS m ws = true) (hm : m = (l.length : Int)) : sumBS n l (bitsR m ws) = sumS n (pickL l ws) := by
  rw [sumBS_eq, sumS_eq, bitsR_eq, pickL_eq]
  unfold sumBI sumI bitsRI pickLI
  rw [sumB_filter, pl_plc hok h, hm, Int.toNat_natCast]
  have := zip_filter (val ws) l.length l (Nat.le_refl _)
  rw [List.take_length] at this
  rw [← this]
  congr 5
def mode17 : FuncId → Nat := fun f => bif Nat.beq f 93 then 2 else 0
/-! downpour/block.Pick -/
noncomputable abbrev qd26 (fuel : Nat) : Ctx Out := (fnX Tryd.prog mode17 T_refSum fuel 51 0)
noncomputable abbrev qd27 : Code := (sub (bodyOf Tryd.prog 40) [1, 1, 1, 1, 1, 0, 1, 0, 0])
noncomputable def PickF_s2 {R : Type} (w0 w1 : Int) (w2 : List Int) (l : List ByteArray) (n7 : Nat) (w3 : List Int) (c0 : List Int → Int → Int → List Int → Option R) (c1 : List Int → Option R) : Option R :=
  br (decide (w0 < w1))
    (bnd (ix w2 w0) fun e0 =>
    bnd (ix l e0) fun e1 =>
    grd (decide (n7 = w3.length) && decide (w3.length ≤ e1.size) && decide (w3.length ≤ 1000000)) <|
    c0 w2 w1 (IntKind.i64.wrap (w0 + 1)) (xb w3 (bytesL e1)))
    (c1 w3)
theorem PickF_s2_eq (fuel k : Nat) (K : Ex → St → Option Out) (w0 w1 : Int) (w2 : List Int) (l : List ByteArray) (n7 : Nat) (w3 : List Int) : lpN qd27 (qd26 fuel) 1688849860266176 [1, 6, 7, 11, 36, 37, 38] (k + 1) ⟨[(1, .ls l), (6, vS ByteArray.empty), (7, vI 0), (11, .sl 0 1 0 n7), (36, vL w2), (37, vI w1), (38, vI w0)], [(0, some ⟨5, .li .u8 w3, true⟩)], 1, none⟩ K = PickF_s2 w0 w1 w2 l n7 w3 (fun a0 a1 a2 a3 => lpN qd27 (qd26 fuel) 1688849860266176 [1, 6, 7, 11, 36, 37, 38] k ⟨[(1, .ls l), (6, vS ByteArray.empty), (7, vI 0), (11, .sl 0 1 0 n7), (36, vL a0), (37, vI a1), (38, vI a2)], [(0, some ⟨5, .li .u8 a3, true⟩)], 1, none⟩ K) (fun a4 => K (.exit 0) ⟨[(6, vS ByteArray.empty), (7, vI 0), (11, .sl 0 1 0 n7)], [(0, some ⟨5, .li .u8 a4, true⟩)], 1, none⟩) := by kernel_rfl
noncomputable def PickF_l1 {R : Type} (fuel : Nat) (l : List ByteArray) (n7 : Nat) (k0 : List Int → Option R) : Nat → List Int → Int → Int → List Int → Option R
  | 0, _, _, _, _ => none
  | k + 1, w0, w1, w2, w3 =>
    (PickF_s2 w2 w1 w0 l n7 w3 (fun a0 a1 a2 a3 => ( PickF_l1 fuel l n7 k0 k a0 a1 a2 a3 )) (fun a4 => k0 a4))
theorem PickF_l1_eq (fuel : Nat) (l : List ByteArray) (n7 : Nat) (K : Ex → St → Option Out) : ∀ (k : Nat) (w0 : List Int) (w1 w2 : Int) (w3 : List Int), lpN qd27 (qd26 fuel) 1688849860266176 [1, 6, 7, 11, 36, 37, 38] k ⟨[(1, .ls l), (6, vS ByteArray.empty), (7, vI 0), (11, .sl 0 1 0 n7), (36, vL w0), (37, vI w1), (38, vI w2)], [(0, some ⟨5, .li .u8 w3, true⟩)], 1, none⟩ K = PickF_l1 fuel l n7 (fun y0 => K (.exit 0) ⟨[(6, vS ByteArray.empty), (7, vI 0), (11, .sl 0 1 0 n7)], [(0, some ⟨5, .li .u8 y0, true⟩)], 1, none⟩) k w0 w1 w2 w3
  | 0, _, _, _, _ => rfl
  | k + 1, w0, w1, w2, w3 => by
    unfold PickF_l1
    exact (PickF_s2_eq fuel k K w2 w1 w0 l n7 w3).trans (congr (congr (Eq.refl (PickF_s2 (R := Out) w2 w1 w0 l n7 w3)) (funext fun a0 => funext fun a1 => funext fun a2 => funext fun a3 => PickF_l1_eq fuel l n7 K k a0 a1 a2 a3)) (rfl))
noncomputable def PickF_s3 {R : Type} (n7 : Nat) (x0 : List Int) (c0 : ByteArray → Int → Option R) : Option R :=
  grd (Nat.ble (0 + n7) x0.length) <|
  c0 (txt (((x0).drop 0).take n7)) 0
theorem PickF_s3_eq (fuel : Nat)  (n7 : Nat) (x0 : List Int) : (kont (qd26 fuel) (bodyOf Tryd.prog 40) [1, 1, 1, 1, 1, 0, 1, 0] 192 (endK Tryd.prog 0 0 40)) (.exit 0) ⟨[(6, vS ByteArray.empty), (7, vI 0), (11, .sl 0 1 0 n7)], [(0, some ⟨5, .li .u8 x0, true⟩)], 1, none⟩ = PickF_s3 n7 x0 (fun a0 a1 => some (.tup [vS a0, vI a1], [])) := by kernel_rfl
noncomputable def PickF_s1 {R : Type} (n : Int) (l : List ByteArray) (ws : List Int) (m : Int) (c0 : ByteArray → Int → Option R) (c1 : List Int → Int → Int → List Int → Nat → Option R) : Option R :=
  br (((errB n l) : Int) != 0)
    (c0 ByteArray.empty (errB n l))
    (grd (okW ws) <|
    br (((if rtS m ws = true then 0 else 1) : Int) != 0)
      (c0 ByteArray.empty 1)
      (br (m != ((l.length : Nat) : Int))
        (c0 ByteArray.empty 1)
        (bnd (mkN n n 1) fun n7 =>
        c1 (plcS m ws) (((plcS m ws).length : Nat) : Int) 0 (List.replicate n7 (0 : Int)) n7)))
theorem PickF_s1_eq (fuel : Nat)  (n : Int) (l : List ByteArray) (ws : List Int) (m : Int) : callN Tryd.prog mode17 T_refSum fuel 40 [vI n, .ls l, .agg [vI m, vW ws]] [] = PickF_s1 n l ws m (fun a1 a2 => some (.tup [vS a1, vI a2], [])) (fun a0 a3 a4 a5 n7 => lpN qd27 (qd26 fuel) 1688849860266176 [1, 6, 7, 11, 36, 37, 38] fuel ⟨[(1, .ls l), (6, vS ByteArray.empty), (7, vI 0), (11, .sl 0 1 0 n7), (36, vL a0), (37, vI a3), (38, vI a4)], [(0, some ⟨5, .li .u8 a5, true⟩)], 1, none⟩ (kont (qd26 fuel) (bodyOf Tryd.prog 40) [1, 1, 1, 1, 1, 0, 1, 0] 192 (endK Tryd.prog 0 0 40))) := by kernel_rfl
noncomputable def PickF {R : Type} (fuel : Nat) (n : Int) (l : List ByteArray) (m : Int) (ws : List Int) (r0 : ByteArray → Int → Option R) : Option R :=
  (PickF_s1 n l ws m (fun a1 a2 => r0 a1 a2) (fun a0 a3 a4 a5 n7 => (PickF_l1 fuel l n7 (fun x0 => (PickF_s3 n7 x0 (fun a6 a7 => r0 a6 a7))) fuel a0 a3 a4 a5)))
theorem PickF_eq (fuel : Nat) (n : Int) (l : List ByteArray) (m : Int) (ws : List Int) : callN Tryd.prog mode17 T_refSum fuel 40 [.s (.int .i64 n), .ls l, .agg [.s (.int .i64 m), .li .u64 ws]] [] = PickF fuel n l m ws (fun z0 z1 => some (.tup [.s (.string z0), .s (.int .i64 z1)], [])) := by
  unfold PickF
  exact (PickF_s1_eq fuel  n l ws m).trans (congr (congr (Eq.refl (PickF_s1 (R := Out) n l ws m)) (rfl)) (funext fun a0 => funext fun a1 => funext fun a2 => funext fun a3 => funext fun n7 => (PickF_l1_eq fuel l n7 (kont (qd26 fuel) (bodyOf Tryd.prog 40) [1, 1, 1, 1, 1, 0, 1, 0] 192 (endK Tryd.prog 0 0 40)) fuel a0 a1 a2 a3).trans (congrFun (congrFun (congrFun (congrFun (congrFun (congr (Eq.refl (PickF_l1 (R := Out) fuel l n7)) (funext fun x0 => (PickF_s3_eq fuel  n7 x0))) fuel) a0) a1) a2) a3)))
theorem getD_at {l : List ByteArray} {i : Int} (h : 0 ≤ i ∧ i < (l.length : Int)) : ix l i = some (l.getD i.toNat ByteArray.empty) := by
  obtain ⟨j, rfl⟩ : ∃ j : Nat, i = (j : Int) := ⟨i.toNat, by omega⟩
  have hj : j < l.length := by omega
  rw [ix_nat, Int.toNat_natCast, List.getD_eq_getElem?_getD, List.getElem?_eq_getElem hj]; rfl
theorem Pick_loop {R : Type} (fuel m : Nat) (l : List ByteArray) (ps : List Int) (hm : m ≤ 64) (hx : ps.length ≤ 1000000) (hs : ∀ s ∈ l, s.size = m) (hr : ∀ i ∈ ps, 0 ≤ i ∧ i < (l.length : Int)) (k0 : List Int → Option R) : ∀ (k j : Nat), j ≤ ps.length → ps.length < j + k → PickF_l1 fuel l m k0 k ps (ps.length : Int) (j : Int) (sumL (zb m) ((ps.take j).map fun i => l.getD i.toNat ByteArray.empty)) = k0 (sumL (zb m) (ps.map fun i => l.getD i.toNat ByteArray.empty))
  | 0, j, h1, h2 => by omega
  | k + 1, j, h1, h2 => by
    have hz : (zb m).length = m := by unfold zb; simp
    have hmem : ∀ i ∈ ps, ix l i = some (l.getD i.toNat ByteArray.empty) ∧ (l.getD i.toNat ByteArray.empty).size = m := fun i hi => by
      have := hr i hi
      refine ⟨getD_at this, ?_⟩
      have hj : i.toNat < l.length := by omega
      rw [List.getD_eq_getElem?_getD, List.getElem?_eq_getElem hj]
      exact hs _ (List.getElem_mem hj)
    have hl : (sumL (zb m) ((ps.take j).map fun i => l.getD i.toNat ByteArray.empty)).length = m := by
      rw [sumL_len fun s h => ?_, hz]
      rw [hz]
      obtain ⟨i, hi, rfl⟩ := List.mem_map.1 h
      exact (hmem i (List.mem_of_mem_take hi)).2
    unfold PickF_l1 PickF_s2
    rw [br_if]
    by_cases hc : j < ps.length
    · obtain ⟨e1, e2⟩ := hmem _ (List.getElem_mem hc)
      rw [if_pos (by simpa using hc), bnd_of ((ix_nat ps j).trans (List.getElem?_eq_getElem hc)), bnd_of e1, grd_of (by simp only [hl, e2]; simp; omega), wrap_i64 (by omega) (by omega), show (j : Int) + 1 = ((j + 1 : Nat) : Int) by omega]
      have e : xb (sumL (zb m) ((ps.take j).map fun i => l.getD i.toNat ByteArray.empty)) (bytesL (l.getD (ps[j]).toNat ByteArray.empty)) = sumL (zb m) ((ps.take (j + 1)).map fun i => l.getD i.toNat ByteArray.empty) := by
        rw [List.take_succ_eq_append_getElem hc, List.map_append]; unfold sumL; rw [List.foldl_append]; rfl
      rw [e]
      exact Pick_loop fuel m l ps hm hx hs hr k0 k (j + 1) (by omega) (by omega)
    · have e : j = ps.length := by omega
      subst e
      rw [if_neg (by simp), List.take_length]
theorem plc_len (v n : Nat) : (plc v n).length ≤ n := by
  unfold plc
  rw [List.length_map]
  exact Nat.le_trans (List.length_filter_le _ _) (by rw [List.length_range]; omega)
theorem Pick_fact (n : Int) (l : List ByteArray) (m : Int) (ws : List Int) (hg : (okW ws) = true) : Fact Tryd.prog gTab 40 [.s (.int .i64 n), .ls l, .agg [.s (.int .i64 m), .li .u64 ws]] [] (.tup [.s (.string (pickT n l m ws)), .s (.int .i64 (pickE n l m ws))], []) := by
  refine callN_fact hN hM T_refSum_ok (n := 1000) (mode := mode17) ?_
  rw [PickF_eq]
  unfold PickF PickF_s1
  rw [br_if, pickT_eq]
  unfold pickTI
  rw [pickE_eq]
  unfold pickEI errB
  by_cases hb : bok n l = true
  · rw [if_pos hb, if_pos hb, if_neg (by decide), grd_of hg, br_if]
    by_cases hr : rtS m ws = true
    · rw [if_pos hr, if_neg (by decide), br_if]
      by_cases hm : m = (l.length : Int)
      · obtain ⟨⟨h0, h1⟩, h2, h3⟩ := bok_iff.1 hb
        have hp : plcS m ws = plS ws := by rw [plcS_eq]; unfold plcI; rw [if_pos hr]
        have hs : ∀ s ∈ l, s.size = n.toNat := fun s h => by have := h3 s h; omega
        have hmem : ∀ i ∈ plS ws, 0 ≤ i ∧ i < (l.length : Int) := fun i hi => pick_range hg hr hm hi
        have hpl : (plS ws).length ≤ 64 := by
          have := plc_len (val ws) m.toNat
          rw [← pl_plc hg hr] at this
          omega
        rw [if_neg (by simp [hm]), bnd_of (mkN_of (by omega) (by omega) (by omega)), hp]
        have e00 : (if rtS m ws = true ∧ m = ((l.length : Nat) : Int) then (0 : Int) else 1) = 0 := if_pos ⟨hr, hm⟩
        rw [e00, if_pos rfl]
        dsimp only
        have := Pick_loop (R := Out) 1000 n.toNat l (plS ws) (by omega) (by omega) hs hmem
        have e : List.replicate n.toNat (0 : Int) = sumL (zb n.toNat) (((plS ws).take 0).map fun i => l.getD i.toNat ByteArray.empty) := rfl
        rw [e, show (0 : Int) = ((0 : Nat) : Int) from rfl, this _ 1000 0 (by omega) (by omega)]
        unfold PickF_s3
        have hlen : (sumL (zb n.toNat) ((plS ws).map fun i => l.getD i.toNat ByteArray.empty)).length = n.toNat := by
          have hz : (zb n.toNat).length = n.toNat := by unfold zb; simp
          rw [sumL_len fun s h => ?_, hz]
          rw [hz]
          obtain ⟨i, hi, rfl⟩ := List.mem_map.1 h
          have hi := hmem i hi
          have hj : i.toNat < l.length := by omega
          rw [List.getD_eq_getElem?_getD, List.getElem?_eq_getElem hj]
          exact hs _ (List.getElem_mem hj)
        rw [grd_of (by rw [Nat.ble_eq]; omega), List.drop_zero, List.take_of_length_le (by omega), sumS_eq, pickL_eq]
        rfl
      · have e00 : (if rtS m ws = true ∧ m = ((l.length : Nat) : Int) then (0 : Int) else 1) = 1 := if_neg fun h => hm h.2
        rw [if_pos (by simp [hm]), e00]; rfl
    · have e00 : (if rtS m ws = true ∧ m = ((l.length : Nat) : Int) then (0 : Int) else 1) = 1 := if_neg fun h => hr h.1
      rw [if_neg hr, if_pos (by decide), e00]; rfl
  · rw [if_neg hb, if_neg hb, if_pos (by decide)]; rfl
noncomputable def Pick_ent : List V → List Blk → Option (Bool × Out)
  | [.s (.int .i64 n), w0, .agg [.s (.int .i64 m), w1]], [] => (asSl .str w0).bind fun l => (asSl (.int .u64) w1).bind fun ws => some ((okW ws), (.tup [.s (.string (pickT n l m ws)), .s (.int .i64 (pickE n l m ws))], []))
  | _, _ => none
theorem Pick_ok : ∀ args bs out, Pick_ent args bs = some (true, out) → Fact Tryd.prog gTab 40 args bs out := by
  intro args bs out h
  unfold Pick_ent at h
  split at h
  · rename_i n w0 m w1
    obtain ⟨l, h_l, h⟩ := Option.bind_eq_some_iff.1 h
    obtain ⟨ws, h_ws, h⟩ := Option.bind_eq_some_iff.1 h
    simp only [Option.some.injEq, Prod.mk.injEq] at h
    obtain ⟨hg, rfl⟩ := h
    exact (Pick_fact n l m ws hg).args (fun _ _ _ => fun _ h => RVs_two (fun _ h => h) (fun _ h => RVs_two (fun _ h => RV_ls h_l h) (fun _ h => RVs_two (fun _ h => RV_agg_two (fun _ h => RVs_two (fun _ h => h) (fun _ h => RVs_two (fun _ h => RV_li h_ws h) (fun _ h => h) h) h) h) (fun _ h => h) h) h) h)
  · cases h
noncomputable def T_Pick : Tbl := Tbl.cons 40 Pick_ent T_refSum
theorem T_Pick_ok : CallOk Tryd.prog gTab T_Pick := cons_ok T_refSum_ok Pick_ok
def mode18 : FuncId → Nat := fun f => 0
/-! downpour/downpourref02.Bits -/
noncomputable abbrev qd28 (fuel : Nat) : Ctx Out := (fnX Tryd.prog mode18 T_Pick fuel 19 0)
noncomputable def refBitsF_s2 {R : Type} (w2 m : Int) (ws w3 : List Int) (w1 : Nat) (c0 : Nat → Int → List Int → Option R) (c1 : Nat → List Int → Option R) : Option R :=
  br (decide (w2 < m))
    (grd (okW ws && decide (0 ≤ w2) && decide (w2 < 64 * (ws.length : Int)) && decide (ws.length ≤ 1000000)) <|
    grd (Nat.beq w3.length w1) <|
    grd (okN (w1 + 1) 8) <|
    c0 ((w3 ++ [(bitS ws w2)]).length) (IntKind.i64.wrap (w2 + 1)) (w3 ++ [(bitS ws w2)]))
    (c1 w1 w3)
theorem refBitsF_s2_eq (fuel k : Nat) (K : Ex → St → Option Out) (w2 m : Int) (ws w3 : List Int) (w1 : Nat) : lpN (sub (bodyOf Tryd.prog 102) [1, 1, 0, 1, 0, 0]) (qd28 fuel) 262156 [1, 2, 3, 4] (k + 1) ⟨[(1, .ptr 0 2 0 0), (2, vN), (3, .sl 1 1 0 w1), (4, vI w2)], [(0, some ⟨44, .agg [vI m, vW ws], true⟩), (1, bL 3 w3)], 2, none⟩ K = refBitsF_s2 w2 m ws w3 w1 (fun a6 a7 a8 => lpN (sub (bodyOf Tryd.prog 102) [1, 1, 0, 1, 0, 0]) (qd28 fuel) 262156 [1, 2, 3, 4] k ⟨[(1, .ptr 0 2 0 0), (2, vN), (3, .sl 1 1 0 a6), (4, vI a7)], [(0, some ⟨44, .agg [vI m, vW ws], true⟩), (1, bL 3 a8)], 2, none⟩ K) (fun a9 a0 => K (.exit 0) ⟨[(2, vN), (3, .sl 0 1 0 a9)], [(0, bL 3 a0)], 1, none⟩) := by kernel_rfl
noncomputable def refBitsF_l1 {R : Type} (fuel : Nat) (m : Int) (ws : List Int) (k0 : Nat → List Int → Option R) : Nat → Nat → Int → List Int → Option R
  | 0, _, _, _ => none
  | k + 1, w1, w2, w3 =>
    (refBitsF_s2 w2 m ws w3 w1 (fun a6 a7 a8 => ( refBitsF_l1 fuel m ws k0 k a6 a7 a8 )) (fun a9 a0 => k0 a9 a0))
theorem refBitsF_l1_eq (fuel : Nat) (m : Int) (ws : List Int) (K : Ex → St → Option Out) : ∀ (k w1 : Nat) (w2 : Int) (w3 : List Int), lpN (sub (bodyOf Tryd.prog 102) [1, 1, 0, 1, 0, 0]) (qd28 fuel) 262156 [1, 2, 3, 4] k ⟨[(1, .ptr 0 2 0 0), (2, vN), (3, .sl 1 1 0 w1), (4, vI w2)], [(0, some ⟨44, .agg [vI m, vW ws], true⟩), (1, bL 3 w3)], 2, none⟩ K = refBitsF_l1 fuel m ws (fun y4 y5 => K (.exit 0) ⟨[(2, vN), (3, .sl 0 1 0 y4)], [(0, bL 3 y5)], 1, none⟩) k w1 w2 w3
  | 0, _, _, _ => rfl
  | k + 1, w1, w2, w3 => by
    unfold refBitsF_l1
    exact (refBitsF_s2_eq fuel k K w2 m ws w3 w1).trans (congr (congr (Eq.refl (refBitsF_s2 (R := Out) w2 m ws w3 w1)) (funext fun a6 => funext fun a7 => funext fun a8 => refBitsF_l1_eq fuel m ws K k a6 a7 a8)) (rfl))
noncomputable def refBitsF_s3 {R : Type} (x0 : List Int) (x1 : Nat) (c0 : List Int → Option R) : Option R :=
  c0 ((x0.drop 0).take x1)
theorem refBitsF_s3_eq (fuel : Nat)  (x0 : List Int) (x1 : Nat) : (kont (qd28 fuel) (bodyOf Tryd.prog 102) [1, 1, 0, 1, 0] 4 (endK Tryd.prog 0 0 102)) (.exit 0) ⟨[(2, vN), (3, .sl 0 1 0 x1)], [(0, bL 3 x0)], 1, none⟩ = refBitsF_s3 x0 x1 (fun a0 => some (vL a0, [])) := by kernel_rfl
noncomputable def refBitsF_s1 {R : Type} (m : Int) (ws : List Int) (c0 : Nat → Int → List Int → Option R) : Option R :=
  c0 0 0 ([])
theorem refBitsF_s1_eq (fuel : Nat)  (m : Int) (ws : List Int) : callN Tryd.prog mode18 T_Pick fuel 102 [.agg [vI m, vW ws]] [] = refBitsF_s1 m ws (fun a0 a1 a2 => lpN (sub (bodyOf Tryd.prog 102) [1, 1, 0, 1, 0, 0]) (qd28 fuel) 262156 [1, 2, 3, 4] fuel ⟨[(1, .ptr 0 2 0 0), (2, vN), (3, .sl 1 1 0 a0), (4, vI a1)], [(0, some ⟨44, .agg [vI m, vW ws], true⟩), (1, bL 3 a2)], 2, none⟩ (kont (qd28 fuel) (bodyOf Tryd.prog 102) [1, 1, 0, 1, 0] 4 (endK Tryd.prog 0 0 102))) := by kernel_rfl
noncomputable def refBitsF {R : Type} (fuel : Nat) (m : Int) (ws : List Int) (r0 : List Int → Option R) : Option R :=
  (refBitsF_s1 m ws (fun a0 a1 a2 => (refBitsF_l1 fuel m ws (fun x0 x1 => (refBitsF_s3 x1 x0 (fun a3 => r0 a3))) fuel a0 a1 a2)))
theorem refBitsF_eq (fuel : Nat) (m : Int) (ws : List Int) : callN Tryd.prog mode18 T_Pick fuel 102 [.agg [.s (.int .i64 m), .li .u64 ws]] [] = refBitsF fuel m ws (fun z0 => some (.li .i64 z0, [])) := by
  unfold refBitsF
  exact (refBitsF_s1_eq fuel  m ws).trans (congr (Eq.refl (refBitsF_s1 (R := Out) m ws)) (funext fun a0 => funext fun a1 => funext fun a2 => (refBitsF_l1_eq fuel m ws (kont (qd28 fuel) (bodyOf Tryd.prog 102) [1, 1, 0, 1, 0] 4 (endK Tryd.prog 0 0 102)) fuel a0 a1 a2).trans (congrFun (congrFun (congrFun (congrFun (congr (Eq.refl (refBitsF_l1 (R := Out) fuel m ws)) (funext fun x0 => funext fun x1 => (refBitsF_s3_eq fuel  x1 x0))) fuel) a0) a1) a2)))
theorem refBits_loop {R : Type} (fuel : Nat) (m : Nat) (ws : List Int) (hok : okW ws = true) (hm : m ≤ 64 * ws.length) (hx : ws.length ≤ 1000) (k0 : Nat → List Int → Option R) : ∀ (k j : Nat), j ≤ m → m < j + k → refBitsF_l1 fuel (m : Int) ws k0 k j (j : Int) (bitsR (j : Int) ws) = k0 m (bitsR (m : Int) ws)
  | 0, j, h1, h2 => by omega
  | k + 1, j, h1, h2 => by
    unfold refBitsF_l1 refBitsF_s2
    rw [br_if]
    by_cases hc : j < m
    · have e : bitsR (j : Int) ws ++ [bitS ws (j : Int)] = bitsR ((j + 1 : Nat) : Int) ws := by
        rw [bitsR_eq, bitS_eq]; unfold bitsRI
        rw [Int.toNat_natCast, Int.toNat_natCast, List.range_succ, List.map_append]; rfl
      rw [if_pos (by simpa using hc), grd_of (by rw [hok]; simp; omega), grd_of (by rw [bitsR_len, Int.toNat_natCast]; exact beq_self j), grd_of (okN_of (by omega) (by omega)), e, bitsR_len, Int.toNat_natCast, wrap_i64 (by omega) (by omega), show (j : Int) + 1 = ((j + 1 : Nat) : Int) by omega]
      exact refBits_loop fuel m ws hok hm hx k0 k (j + 1) (by omega) (by omega)
    · have e : j = m := by omega
      subst e
      rw [if_neg (by simp)]
theorem refBits_fact (m : Int) (ws : List Int) (hg : (okW ws && decide (m ≤ 64 * (ws.length : Int)) && decide (ws.length ≤ 1000)) = true) : Fact Tryd.prog gTab 102 [.agg [.s (.int .i64 m), .li .u64 ws]] [] (.li .i64 (bitsR m ws), []) := by
  simp only [Bool.and_eq_true, decide_eq_true_eq] at hg
  obtain ⟨⟨hok, hm⟩, hx⟩ := hg
  by_cases h0 : 0 ≤ m
  · obtain ⟨j, rfl⟩ : ∃ j : Nat, m = (j : Int) := ⟨m.toNat, by omega⟩
    refine callN_fact hN hM T_Pick_ok (n := j + 1) (mode := mode18) ?_
    rw [refBitsF_eq]
    unfold refBitsF refBitsF_s1
    have e0 : ([] : List Int) = bitsR ((0 : Nat) : Int) ws := by rw [bitsR_eq]; rfl
    dsimp only
    rw [e0, show (0 : Int) = ((0 : Nat) : Int) from rfl, refBits_loop (j + 1) j ws hok (by omega) hx _ (j + 1) 0 (by omega) (by omega)]
    unfold refBitsF_s3
    rw [List.drop_zero, List.take_of_length_le (by rw [bitsR_len, Int.toNat_natCast]; exact Nat.le_refl _)]
  · have e0 : bitsR m ws = [] := by rw [bitsR_eq]; unfold bitsRI; rw [show m.toNat = 0 by omega]; rfl
    rw [e0]
    refine callN_fact hN hM T_Pick_ok (n := 1) (mode := mode18) ?_
    rw [refBitsF_eq]
    unfold refBitsF refBitsF_s1 refBitsF_l1 refBitsF_s2
    dsimp only
    rw [br_if, if_neg (by simp; omega)]
    rfl
noncomputable def refBits_ent : List V → List Blk → Option (Bool × Out)
  | [.agg [.s (.int .i64 m), w0]], [] => (asSl (.int .u64) w0).bind fun ws => some ((okW ws && decide (m ≤ 64 * (ws.length : Int)) && decide (ws.length ≤ 1000)), (.li .i64 (bitsR m ws), []))
  | _, _ => none
theorem refBits_ok : ∀ args bs out, refBits_ent args bs = some (true, out) → Fact Tryd.prog gTab 102 args bs out := by
  intro args bs out h
  unfold refBits_ent at h
  split at h
  · rename_i m w0
    obtain ⟨ws, h_ws, h⟩ := Option.bind_eq_some_iff.1 h
    simp only [Option.some.injEq, Prod.mk.injEq] at h
    obtain ⟨hg, rfl⟩ := h
    exact (refBits_fact m ws hg).args (fun _ _ _ => fun _ h => RVs_two (fun _ h => RV_agg_two (fun _ h => RVs_two (fun _ h => h) (fun _ h => RVs_two (fun _ h => RV_li h_ws h) (fun _ h => h) h) h) h) (fun _ h => h) h)
  · cases h
noncomputable def T_refBits : Tbl := Tbl.cons 102 refBits_ent T_Pick
theorem T_refBits_ok : CallOk Tryd.prog gTab T_refBits := cons_ok T_Pick_ok refBits_ok
end Go.Proofs.YtfpdcfgjhkiklaaDoor
