/- Places of rows, and the law: what each function tells. -/
import Derived.Test.YtleagoeimkcekaaDoorPmTab
import Derived.KernelRfl
import Derived.Test.YtleagoeimkcekaaDoorProg
import Derived.Test.YtleagoeimkcekaaDoorNb
import Derived.Shelf.Spec.TrailingZeros
set_option autoImplicit false
set_option maxRecDepth 100000
set_option maxHeartbeats 4000000
set_option linter.unusedVariables false
set_option linter.unusedSimpArgs false
namespace Go.Proofs.YtleagoeimkcekaaDoor
open Go Go.PM Go.Proofs Go.Shelf Go.PM.Row Go.PM.Bits Go.PM.Bit
/-! math/bits.TrailingZeros64 -/
def lays29_ren : Go.Shelf.Ren := ⟨fun | 29 => 127 | n => n, fun | 22 => 22 | 3 => 3 | 4 => 4 | 25 => 191 | 54 => 219 | 0 => 0 | 5 => 5 | n => n, fun | 1 => 0 | n => n⟩
theorem lays29 : Go.Proofs.Lays7.n29 Tryd.prog lays29_ren where
  mixed := by kernel_rfl
  f29 := Tryd.func127.trans (congrArg some (by kernel_rfl))
  t0 := Tryd.underlying0
  a0 := Tryd.isAgg0
  z0 := Tryd.sizeOf0
  v0 := Tryd.zeroValue0
  i0 := by kernel_rfl
  t3 := Tryd.underlying3
  a3 := Tryd.isAgg3
  z3 := Tryd.sizeOf3
  v3 := Tryd.zeroValue3
  i3 := by kernel_rfl
  t4 := Tryd.underlying4
  a4 := Tryd.isAgg4
  z4 := Tryd.sizeOf4
  v4 := Tryd.zeroValue4
  i4 := by kernel_rfl
  t5 := Tryd.underlying5
  a5 := Tryd.isAgg5
  z5 := Tryd.sizeOf5
  v5 := Tryd.zeroValue5
  i5 := by kernel_rfl
  t22 := Tryd.underlying22
  a22 := Tryd.isAgg22
  z22 := Tryd.sizeOf22
  v22 := Tryd.zeroValue22
  i22 := by kernel_rfl
  t25 := Tryd.underlying191
  a25 := Tryd.isAgg191
  z25 := Tryd.sizeOf191
  v25 := Tryd.zeroValue191
  i25 := by kernel_rfl
  t54 := Tryd.underlying219
  a54 := Tryd.isAgg219
  z54 := Tryd.sizeOf219
  g1 := by kernel_rfl
noncomputable def tzI (x : Int) : Int := (Lib.ctz 64 x.toNat : Nat)
noncomputable def tzS : Int → Int := Classical.choose (⟨tzI, rfl⟩ : ∃ f, f = tzI)
theorem tzS_eq : tzS = tzI := Classical.choose_spec (⟨tzI, rfl⟩ : ∃ f, f = tzI)
theorem tz_fact (x : Int) (hg : (decide (1 ≤ x) && decide (x < 18446744073709551616)) = true) : Fact Tryd.prog gTab 127 [.s (.int .u64 x)] [] (.s (.int .i64 (tzS x)), []) := by
  simp only [Bool.and_eq_true, decide_eq_true_eq] at hg
  refine fact_pure (Go.PM.enters_of (by kernel_rfl)) fun w ρ I xs hG hr => ?_
  simp only [RVs, RV] at hr
  obtain ⟨y, r, rfl, rfl, rfl⟩ := hr
  have hT : TabAt 0 Lib.deBruijn64tab w := fun j hj => (hG 0 _ rfl).2 j _ (by
    rw [List.getElem?_map, List.getD_eq_getElem?_getD, List.getElem?_eq_getElem hj]; rfl)
  obtain ⟨n, rfl⟩ : ∃ n : Nat, x = (n : Int) := ⟨x.toNat, by omega⟩
  have h := Any7.bits_TrailingZeros64 lays29 n (by omega) w (fun _ => hT)
  refine h.mono fun e w' ⟨he, hw⟩ => ⟨_, he, hw, ?_⟩
  simp only [RV]
  rw [tzS_eq]
  rfl
noncomputable def tz_ent : List V → List Blk → Option (Bool × Out)
  | [.s (.int .u64 x)], [] => some ((decide (1 ≤ x) && decide (x < 18446744073709551616)), (.s (.int .i64 (tzS x)), []))
  | _, _ => none
theorem tz_ok : ∀ args bs out, tz_ent args bs = some (true, out) → Fact Tryd.prog gTab 127 args bs out := by
  intro args bs out h
  unfold tz_ent at h
  split at h
  · rename_i x
    simp only [Option.some.injEq, Prod.mk.injEq] at h
    obtain ⟨hg, rfl⟩ := h
    exact tz_fact x hg
  · cases h
noncomputable def T_tz : Tbl := Tbl.cons 127 tz_ent T_NbRows
theorem T_tz_ok : CallOk Tryd.prog gTab T_tz := cons_ok T_NbRows_ok tz_ok
def mode14 : FuncId → Nat := fun f => bif Nat.beq f 70 then 2 else bif Nat.beq f 125 then 2 else bif Nat.beq f 71 then 2 else 0
/-! downpour/bitrow.places -/
noncomputable def placesF_s1 {R : Type} (n : Int) (ws : List Int) (c0 : Nat → Int → List Int → Option R) : Option R :=
  c0 0 n ws
theorem placesF_s1_eq (fuel : Nat)  (n : Int) (ws : List Int) : callN Tryd.prog mode14 T_tz fuel 71 [.agg [.s (.int .i64 n), .li .u64 ws]] [] = placesF_s1 n ws (fun (a1 : Nat) (a2 : Int) (a3 : List Int) => some (.fn (.func 126) [] [.ptr 0 2 a1 0], [some ⟨29, .agg [.s (.int .i64 a2), .li .u64 a3], true⟩])) := by kernel_rfl
noncomputable def placesF {R : Type} (fuel : Nat) (n : Int) (ws : List Int) (r0 : Nat → Int → List Int → Option R) : Option R :=
  (placesF_s1 n ws (fun (a1 : Nat) (a2 : Int) (a3 : List Int) => r0 a1 a2 a3))
theorem placesF_eq (fuel : Nat) (n : Int) (ws : List Int) : callN Tryd.prog mode14 T_tz fuel 71 [.agg [.s (.int .i64 n), .li .u64 ws]] [] = placesF fuel n ws (fun (z0 : Nat) (z1 : Int) (z2 : List Int) => some (.fn (.func 126) [] [.ptr 0 2 z0 0], [some ⟨29, .agg [.s (.int .i64 z1), .li .u64 z2], true⟩])) := by
  unfold placesF
  exact (placesF_s1_eq fuel  n ws)
theorem places_fact (n : Int) (ws : List Int) : Fact Tryd.prog gTab 71 [.agg [.s (.int .i64 n), .li .u64 ws]] [] (.fn (.func 126) [] [.ptr 0 2 0 0], [some ⟨29, .agg [.s (.int .i64 n), .li .u64 ws], true⟩]) := by
  refine callN_fact hN hM T_tz_ok (n := 0) (mode := mode14) ?_
  rw [placesF_eq]
  rfl
noncomputable def places_ent : List V → List Blk → Option (Bool × Out)
  | [.agg [.s (.int .i64 n), w0]], [] => (asSl (.int .u64) w0).bind fun ws => some (true, (.fn (.func 126) [] [.ptr 0 2 0 0], [some ⟨29, .agg [.s (.int .i64 n), .li .u64 ws], true⟩]))
  | _, _ => none
theorem places_ok : ∀ args bs out, places_ent args bs = some (true, out) → Fact Tryd.prog gTab 71 args bs out := by
  intro args bs out h
  unfold places_ent at h
  split at h
  · rename_i n w0
    obtain ⟨ws, h_ws, h⟩ := Option.bind_eq_some_iff.1 h
    simp only [Option.some.injEq, Prod.mk.injEq] at h
    obtain ⟨_, rfl⟩ := h
    exact (places_fact n ws).args (fun _ _ _ => fun _ h => RVs_two (fun _ h => RV_agg_two (fun _ h => RVs_two (fun _ h => h) (fun _ h => RVs_two (fun _ h => RV_li h_ws h) (fun _ h => h) h) h) h) (fun _ h => h) h)
  · cases h
noncomputable def T_places : Tbl := Tbl.cons 71 places_ent T_tz
theorem T_places_ok : CallOk Tryd.prog gTab T_places := cons_ok T_tz_ok places_ok
/-! slices.AppendSeq[[]int,int] -/
noncomputable def plcAppF_s4 {R : Type} (w169 : Int) (w171 : List Int) (w170 : Nat) (w74 : Int) (ws : List Int) (w73 : Int) (w150 : Bool) (e149 : Int) (n : Int) (c0 : Int → Nat → List Int → Option R) (c1 : Int → Bool → Nat → List Int → Option R) : Option R :=
  br (w169 != 0)
    (grd (decide (1 ≤ w169) && decide (w169 < 18446744073709551616)) <|
    grd (Nat.beq w171.length w170) <|
    grd (okN (w170 + 1) 8) <|
    c0 (andI .u64 w169 (IntKind.u64.wrap (w169 - 1))) ((w171 ++ [(IntKind.i64.wrap ((IntKind.i64.wrap (w74 * 64)) + (tzS w169)))]).length) (w171 ++ [(IntKind.i64.wrap ((IntKind.i64.wrap (w74 * 64)) + (tzS w169)))]))
    (c1 w169 (w169 != 0) w170 w171)
theorem plcAppF_s4_eq (fuel : Nat) (k : Nat) (K : Ex → St → Option Out) (w169 : Int) (w171 : List Int) (w170 : Nat) (w74 : Int) (ws : List Int) (w73 : Int) (w150 : Bool) (e149 : Int) (n : Int) : lpN (sub (sub (bodyOf Tryd.prog 126) [1, 0, 0]) [1, 1, 0, 0, 1, 0, 0]) (itX Tryd.prog mode14 T_places fuel 3 28 3 2 (roundK (evC (sub (bodyOf Tryd.prog 125) [1, 0, 1, 0, 0])) (evC (sub (bodyOf Tryd.prog 125) [1, 0, 1, 0, 1])) (fnX Tryd.prog mode14 T_places fuel 13 1) #[7] 3876 [(2, .ptr 1 1 0 0), (4, .s (.slice none 0 0)), (6, .fn (.func 126) [] [.ptr 0 2 0 0])])) 268435417 [0, 3, 4, 6, 7, 8, 9, 10, 11, 12] (k + 1) ⟨[(0, .yl 2), (3, .s (.int .i64 w74)), (4, .s (.int .u64 w169)), (6, .li .u64 ws), (7, .s (.int .i64 w73)), (8, .s (.int .i64 w74)), (9, .s (.bool w150)), (10, .s (.int .i64 w74)), (11, .lp [.s (.int .u64 e149)] 0), (12, .s (.int .u64 e149))], [(0, some ⟨29, .agg [.s (.int .i64 n), .li .u64 ws], true⟩), (1, some ⟨23, .agg [.sl 3 1 0 w170], true⟩), (2, none), (3, some ⟨3, .li .i64 w171, true⟩)], 4, none⟩ K = plcAppF_s4 w169 w171 w170 w74 ws w73 w150 e149 n (fun (a176 : Int) (a177 : Nat) (a178 : List Int) => lpN (sub (sub (bodyOf Tryd.prog 126) [1, 0, 0]) [1, 1, 0, 0, 1, 0, 0]) (itX Tryd.prog mode14 T_places fuel 3 28 3 2 (roundK (evC (sub (bodyOf Tryd.prog 125) [1, 0, 1, 0, 0])) (evC (sub (bodyOf Tryd.prog 125) [1, 0, 1, 0, 1])) (fnX Tryd.prog mode14 T_places fuel 13 1) #[7] 3876 [(2, .ptr 1 1 0 0), (4, .s (.slice none 0 0)), (6, .fn (.func 126) [] [.ptr 0 2 0 0])])) 268435417 [0, 3, 4, 6, 7, 8, 9, 10, 11, 12] k ⟨[(0, .yl 2), (3, .s (.int .i64 w74)), (4, .s (.int .u64 a176)), (6, .li .u64 ws), (7, .s (.int .i64 w73)), (8, .s (.int .i64 w74)), (9, .s (.bool w150)), (10, .s (.int .i64 w74)), (11, .lp [.s (.int .u64 e149)] 0), (12, .s (.int .u64 e149))], [(0, some ⟨29, .agg [.s (.int .i64 n), .li .u64 ws], true⟩), (1, some ⟨23, .agg [.sl 3 1 0 a177], true⟩), (2, none), (3, some ⟨3, .li .i64 a178, true⟩)], 4, none⟩ K) (fun (a179 : Int) (a180 : Bool) (a181 : Nat) (a182 : List Int) => K (.exit 2) ⟨[(0, .yl 2), (3, .s (.int .i64 w74)), (4, .s (.int .u64 a179)), (6, .li .u64 ws), (7, .s (.int .i64 w73)), (8, .s (.int .i64 w74)), (9, .s (.bool w150)), (10, .s (.int .i64 w74)), (11, .lp [.s (.int .u64 e149)] 0), (12, .s (.int .u64 e149)), (13, .s (.int .u64 a179)), (14, .s (.bool a180))], [(0, some ⟨29, .agg [.s (.int .i64 n), .li .u64 ws], true⟩), (1, some ⟨23, .agg [.sl 3 1 0 a181], true⟩), (2, none), (3, some ⟨3, .li .i64 a182, true⟩)], 4, none⟩) := by kernel_rfl
noncomputable def plcAppF_l3 {R : Type} (fuel : Nat) (w74 : Int) (ws : List Int) (w73 : Int) (w150 : Bool) (e149 : Int) (n : Int) (k0 : Int → Bool → Nat → List Int → Option R) : Nat → Int → Nat → List Int → Option R
  | 0, _, _, _ => none
  | k + 1, w169, w170, w171 =>
    (plcAppF_s4 w169 w171 w170 w74 ws w73 w150 e149 n (fun (a176 : Int) (a177 : Nat) (a178 : List Int) => ( plcAppF_l3 fuel w74 ws w73 w150 e149 n k0 k a176 a177 a178 )) (fun (a179 : Int) (a180 : Bool) (a181 : Nat) (a182 : List Int) => k0 a179 a180 a181 a182))
theorem plcAppF_l3_eq (fuel : Nat) (w74 : Int) (ws : List Int) (w73 : Int) (w150 : Bool) (e149 : Int) (n : Int) (K : Ex → St → Option Out) : ∀ (k : Nat) (w169 : Int) (w170 : Nat) (w171 : List Int), lpN (sub (sub (bodyOf Tryd.prog 126) [1, 0, 0]) [1, 1, 0, 0, 1, 0, 0]) (itX Tryd.prog mode14 T_places fuel 3 28 3 2 (roundK (evC (sub (bodyOf Tryd.prog 125) [1, 0, 1, 0, 0])) (evC (sub (bodyOf Tryd.prog 125) [1, 0, 1, 0, 1])) (fnX Tryd.prog mode14 T_places fuel 13 1) #[7] 3876 [(2, .ptr 1 1 0 0), (4, .s (.slice none 0 0)), (6, .fn (.func 126) [] [.ptr 0 2 0 0])])) 268435417 [0, 3, 4, 6, 7, 8, 9, 10, 11, 12] k ⟨[(0, .yl 2), (3, .s (.int .i64 w74)), (4, .s (.int .u64 w169)), (6, .li .u64 ws), (7, .s (.int .i64 w73)), (8, .s (.int .i64 w74)), (9, .s (.bool w150)), (10, .s (.int .i64 w74)), (11, .lp [.s (.int .u64 e149)] 0), (12, .s (.int .u64 e149))], [(0, some ⟨29, .agg [.s (.int .i64 n), .li .u64 ws], true⟩), (1, some ⟨23, .agg [.sl 3 1 0 w170], true⟩), (2, none), (3, some ⟨3, .li .i64 w171, true⟩)], 4, none⟩ K = plcAppF_l3 fuel w74 ws w73 w150 e149 n (fun (y172 : Int) (y173 : Bool) (y174 : Nat) (y175 : List Int) => K (.exit 2) ⟨[(0, .yl 2), (3, .s (.int .i64 w74)), (4, .s (.int .u64 y172)), (6, .li .u64 ws), (7, .s (.int .i64 w73)), (8, .s (.int .i64 w74)), (9, .s (.bool w150)), (10, .s (.int .i64 w74)), (11, .lp [.s (.int .u64 e149)] 0), (12, .s (.int .u64 e149)), (13, .s (.int .u64 y172)), (14, .s (.bool y173))], [(0, some ⟨29, .agg [.s (.int .i64 n), .li .u64 ws], true⟩), (1, some ⟨23, .agg [.sl 3 1 0 y174], true⟩), (2, none), (3, some ⟨3, .li .i64 y175, true⟩)], 4, none⟩) k w169 w170 w171
  | 0, _, _, _ => rfl
  | k + 1, w169, w170, w171 => by
    unfold plcAppF_l3
    exact (plcAppF_s4_eq fuel k K w169 w171 w170 w74 ws w73 w150 e149 n).trans (congr (congr (Eq.refl (plcAppF_s4 (R := Out) w169 w171 w170 w74 ws w73 w150 e149 n)) (funext fun a176 => funext fun a177 => funext fun a178 => plcAppF_l3_eq fuel w74 ws w73 w150 e149 n K k a176 a177 a178)) (rfl))
noncomputable def plcAppF_s3 {R : Type} (e149 : Int) (w74 : Int) (w150 : Bool) (ws : List Int) (w73 : Int) (n : Int) (c0 : Int → Nat → List Int → Option R) (c1 : Bool → Bool → Option R) : Option R :=
  br (e149 != 0)
    (grd (decide (1 ≤ e149) && decide (e149 < 18446744073709551616)) <|
    c0 (andI .u64 e149 (IntKind.u64.wrap (e149 - 1))) 1 ([(IntKind.i64.wrap ((IntKind.i64.wrap (w74 * 64)) + (tzS e149)))]))
    (c1 w150 (e149 != 0))
theorem plcAppF_s3_eq (fuel : Nat) (k : Nat) (K : Ex → St → Option Out) (e149 : Int) (w74 : Int) (w150 : Bool) (ws : List Int) (w73 : Int) (n : Int) : lpN (sub (sub (bodyOf Tryd.prog 126) [1, 0, 0]) [1, 1, 0, 0, 1, 0, 0]) (itX Tryd.prog mode14 T_places fuel 3 28 3 2 (roundK (evC (sub (bodyOf Tryd.prog 125) [1, 0, 1, 0, 0])) (evC (sub (bodyOf Tryd.prog 125) [1, 0, 1, 0, 1])) (fnX Tryd.prog mode14 T_places fuel 13 1) #[7] 3876 [(2, .ptr 1 1 0 0), (4, .s (.slice none 0 0)), (6, .fn (.func 126) [] [.ptr 0 2 0 0])])) 268435417 [0, 3, 4, 6, 7, 8, 9, 10, 11, 12] (k + 1) ⟨[(0, .yl 2), (3, .s (.int .i64 w74)), (4, .s (.int .u64 e149)), (6, .li .u64 ws), (7, .s (.int .i64 w73)), (8, .s (.int .i64 w74)), (9, .s (.bool w150)), (10, .s (.int .i64 w74)), (11, .lp [.s (.int .u64 e149)] 0), (12, .s (.int .u64 e149))], [(0, some ⟨29, .agg [.s (.int .i64 n), .li .u64 ws], true⟩), (1, some ⟨23, .agg [.s (.slice none 0 0)], true⟩), (2, none)], 3, none⟩ K = plcAppF_s3 e149 w74 w150 ws w73 n (fun (a183 : Int) (a184 : Nat) (a185 : List Int) => lpN (sub (sub (bodyOf Tryd.prog 126) [1, 0, 0]) [1, 1, 0, 0, 1, 0, 0]) (itX Tryd.prog mode14 T_places fuel 3 28 3 2 (roundK (evC (sub (bodyOf Tryd.prog 125) [1, 0, 1, 0, 0])) (evC (sub (bodyOf Tryd.prog 125) [1, 0, 1, 0, 1])) (fnX Tryd.prog mode14 T_places fuel 13 1) #[7] 3876 [(2, .ptr 1 1 0 0), (4, .s (.slice none 0 0)), (6, .fn (.func 126) [] [.ptr 0 2 0 0])])) 268435417 [0, 3, 4, 6, 7, 8, 9, 10, 11, 12] k ⟨[(0, .yl 2), (3, .s (.int .i64 w74)), (4, .s (.int .u64 a183)), (6, .li .u64 ws), (7, .s (.int .i64 w73)), (8, .s (.int .i64 w74)), (9, .s (.bool w150)), (10, .s (.int .i64 w74)), (11, .lp [.s (.int .u64 e149)] 0), (12, .s (.int .u64 e149))], [(0, some ⟨29, .agg [.s (.int .i64 n), .li .u64 ws], true⟩), (1, some ⟨23, .agg [.sl 3 1 0 a184], true⟩), (2, none), (3, some ⟨3, .li .i64 a185, true⟩)], 4, none⟩ K) (fun (a190 : Bool) (a191 : Bool) => K (.exit 2) ⟨[(0, .yl 2), (3, .s (.int .i64 w74)), (4, .s (.int .u64 e149)), (6, .li .u64 ws), (7, .s (.int .i64 w73)), (8, .s (.int .i64 w74)), (9, .s (.bool a190)), (10, .s (.int .i64 w74)), (11, .lp [.s (.int .u64 e149)] 0), (12, .s (.int .u64 e149)), (13, .s (.int .u64 e149)), (14, .s (.bool a191))], [(0, some ⟨29, .agg [.s (.int .i64 n), .li .u64 ws], true⟩), (1, some ⟨23, .agg [.s (.slice none 0 0)], true⟩), (2, none)], 3, none⟩) := by kernel_rfl
noncomputable def plcAppF_l2 {R : Type} (fuel : Nat) (w74 : Int) (e149 : Int) (ws : List Int) (w73 : Int) (n : Int) (k0 : Int → Bool → Bool → Nat → List Int → Option R) (k1 : Bool → Bool → Option R) : Nat → Bool → Option R
  | 0, _ => none
  | k + 1, w150 =>
    (plcAppF_s3 e149 w74 w150 ws w73 n (fun (a183 : Int) (a184 : Nat) (a185 : List Int) => (plcAppF_l3 fuel w74 ws w73 w150 e149 n (fun (x186 : Int) (x187 : Bool) (x188 : Nat) (x189 : List Int) => k0 x186 w150 x187 x188 x189) k a183 a184 a185)) (fun (a190 : Bool) (a191 : Bool) => k1 a190 a191))
theorem plcAppF_l2_eq (fuel : Nat) (w74 : Int) (e149 : Int) (ws : List Int) (w73 : Int) (n : Int) (K : Ex → St → Option Out) : ∀ (k : Nat) (w150 : Bool), lpN (sub (sub (bodyOf Tryd.prog 126) [1, 0, 0]) [1, 1, 0, 0, 1, 0, 0]) (itX Tryd.prog mode14 T_places fuel 3 28 3 2 (roundK (evC (sub (bodyOf Tryd.prog 125) [1, 0, 1, 0, 0])) (evC (sub (bodyOf Tryd.prog 125) [1, 0, 1, 0, 1])) (fnX Tryd.prog mode14 T_places fuel 13 1) #[7] 3876 [(2, .ptr 1 1 0 0), (4, .s (.slice none 0 0)), (6, .fn (.func 126) [] [.ptr 0 2 0 0])])) 268435417 [0, 3, 4, 6, 7, 8, 9, 10, 11, 12] k ⟨[(0, .yl 2), (3, .s (.int .i64 w74)), (4, .s (.int .u64 e149)), (6, .li .u64 ws), (7, .s (.int .i64 w73)), (8, .s (.int .i64 w74)), (9, .s (.bool w150)), (10, .s (.int .i64 w74)), (11, .lp [.s (.int .u64 e149)] 0), (12, .s (.int .u64 e149))], [(0, some ⟨29, .agg [.s (.int .i64 n), .li .u64 ws], true⟩), (1, some ⟨23, .agg [.s (.slice none 0 0)], true⟩), (2, none)], 3, none⟩ K = plcAppF_l2 fuel w74 e149 ws w73 n (fun (y160 : Int) (y161 : Bool) (y162 : Bool) (y163 : Nat) (y164 : List Int) => K (.exit 2) ⟨[(0, .yl 2), (3, .s (.int .i64 w74)), (4, .s (.int .u64 y160)), (6, .li .u64 ws), (7, .s (.int .i64 w73)), (8, .s (.int .i64 w74)), (9, .s (.bool y161)), (10, .s (.int .i64 w74)), (11, .lp [.s (.int .u64 e149)] 0), (12, .s (.int .u64 e149)), (13, .s (.int .u64 y160)), (14, .s (.bool y162))], [(0, some ⟨29, .agg [.s (.int .i64 n), .li .u64 ws], true⟩), (1, some ⟨23, .agg [.sl 3 1 0 y163], true⟩), (2, none), (3, some ⟨3, .li .i64 y164, true⟩)], 4, none⟩) (fun (y165 : Bool) (y166 : Bool) => K (.exit 2) ⟨[(0, .yl 2), (3, .s (.int .i64 w74)), (4, .s (.int .u64 e149)), (6, .li .u64 ws), (7, .s (.int .i64 w73)), (8, .s (.int .i64 w74)), (9, .s (.bool y165)), (10, .s (.int .i64 w74)), (11, .lp [.s (.int .u64 e149)] 0), (12, .s (.int .u64 e149)), (13, .s (.int .u64 e149)), (14, .s (.bool y166))], [(0, some ⟨29, .agg [.s (.int .i64 n), .li .u64 ws], true⟩), (1, some ⟨23, .agg [.s (.slice none 0 0)], true⟩), (2, none)], 3, none⟩) k w150
  | 0, _ => rfl
  | k + 1, w150 => by
    unfold plcAppF_l2
    exact (plcAppF_s3_eq fuel k K e149 w74 w150 ws w73 n).trans (congr (congr (Eq.refl (plcAppF_s3 (R := Out) e149 w74 w150 ws w73 n)) (funext fun a183 => funext fun a184 => funext fun a185 => plcAppF_l3_eq fuel w74 ws w73 w150 e149 n K k a183 a184 a185)) (rfl))
noncomputable def plcAppF_s7 {R : Type} (w246 : Int) (w249 : List Int) (w248 : Nat) (w247 : Bool) (w219 : Int) (ws : List Int) (w73 : Int) (e244 : Int) (n : Int) (c0 : Int → Bool → Nat → List Int → Option R) (c1 : Int → Bool → Bool → Nat → List Int → Option R) : Option R :=
  br (w246 != 0)
    (grd (decide (1 ≤ w246) && decide (w246 < 18446744073709551616)) <|
    grd (Nat.beq w249.length w248) <|
    grd (okN (w248 + 1) 8) <|
    c0 (andI .u64 w246 (IntKind.u64.wrap (w246 - 1))) w247 ((w249 ++ [(IntKind.i64.wrap ((IntKind.i64.wrap (w219 * 64)) + (tzS w246)))]).length) (w249 ++ [(IntKind.i64.wrap ((IntKind.i64.wrap (w219 * 64)) + (tzS w246)))]))
    (c1 w246 w247 (w246 != 0) w248 w249)
theorem plcAppF_s7_eq (fuel : Nat) (k : Nat) (K : Ex → St → Option Out) (w246 : Int) (w249 : List Int) (w248 : Nat) (w247 : Bool) (w219 : Int) (ws : List Int) (w73 : Int) (e244 : Int) (n : Int) : lpN (sub (sub (bodyOf Tryd.prog 126) [1, 0, 0]) [1, 1, 0, 0, 1, 0, 0]) (itX Tryd.prog mode14 T_places fuel 3 28 3 2 (roundK (evC (sub (bodyOf Tryd.prog 125) [1, 0, 1, 0, 0])) (evC (sub (bodyOf Tryd.prog 125) [1, 0, 1, 0, 1])) (fnX Tryd.prog mode14 T_places fuel 13 1) #[7] 3876 [(2, .ptr 1 1 0 0), (4, .s (.slice none 0 0)), (6, .fn (.func 126) [] [.ptr 0 2 0 0])])) 268435417 [0, 3, 4, 6, 7, 8, 9, 10, 11, 12] (k + 1) ⟨[(0, .yl 2), (3, .s (.int .i64 w219)), (4, .s (.int .u64 w246)), (6, .li .u64 ws), (7, .s (.int .i64 w73)), (8, .s (.int .i64 w219)), (9, .s (.bool w247)), (10, .s (.int .i64 w219)), (11, .lp [.s (.int .u64 e244)] 0), (12, .s (.int .u64 e244))], [(0, some ⟨29, .agg [.s (.int .i64 n), .li .u64 ws], true⟩), (1, some ⟨23, .agg [.sl 3 1 0 w248], true⟩), (2, none), (3, some ⟨3, .li .i64 w249, true⟩)], 4, none⟩ K = plcAppF_s7 w246 w249 w248 w247 w219 ws w73 e244 n (fun (a255 : Int) (a256 : Bool) (a257 : Nat) (a258 : List Int) => lpN (sub (sub (bodyOf Tryd.prog 126) [1, 0, 0]) [1, 1, 0, 0, 1, 0, 0]) (itX Tryd.prog mode14 T_places fuel 3 28 3 2 (roundK (evC (sub (bodyOf Tryd.prog 125) [1, 0, 1, 0, 0])) (evC (sub (bodyOf Tryd.prog 125) [1, 0, 1, 0, 1])) (fnX Tryd.prog mode14 T_places fuel 13 1) #[7] 3876 [(2, .ptr 1 1 0 0), (4, .s (.slice none 0 0)), (6, .fn (.func 126) [] [.ptr 0 2 0 0])])) 268435417 [0, 3, 4, 6, 7, 8, 9, 10, 11, 12] k ⟨[(0, .yl 2), (3, .s (.int .i64 w219)), (4, .s (.int .u64 a255)), (6, .li .u64 ws), (7, .s (.int .i64 w73)), (8, .s (.int .i64 w219)), (9, .s (.bool a256)), (10, .s (.int .i64 w219)), (11, .lp [.s (.int .u64 e244)] 0), (12, .s (.int .u64 e244))], [(0, some ⟨29, .agg [.s (.int .i64 n), .li .u64 ws], true⟩), (1, some ⟨23, .agg [.sl 3 1 0 a257], true⟩), (2, none), (3, some ⟨3, .li .i64 a258, true⟩)], 4, none⟩ K) (fun (a259 : Int) (a260 : Bool) (a261 : Bool) (a262 : Nat) (a263 : List Int) => K (.exit 2) ⟨[(0, .yl 2), (3, .s (.int .i64 w219)), (4, .s (.int .u64 a259)), (6, .li .u64 ws), (7, .s (.int .i64 w73)), (8, .s (.int .i64 w219)), (9, .s (.bool a260)), (10, .s (.int .i64 w219)), (11, .lp [.s (.int .u64 e244)] 0), (12, .s (.int .u64 e244)), (13, .s (.int .u64 a259)), (14, .s (.bool a261))], [(0, some ⟨29, .agg [.s (.int .i64 n), .li .u64 ws], true⟩), (1, some ⟨23, .agg [.sl 3 1 0 a262], true⟩), (2, none), (3, some ⟨3, .li .i64 a263, true⟩)], 4, none⟩) := by kernel_rfl
noncomputable def plcAppF_l5 {R : Type} (fuel : Nat) (w219 : Int) (ws : List Int) (w73 : Int) (e244 : Int) (n : Int) (k0 : Int → Bool → Bool → Nat → List Int → Option R) : Nat → Int → Bool → Nat → List Int → Option R
  | 0, _, _, _, _ => none
  | k + 1, w246, w247, w248, w249 =>
    (plcAppF_s7 w246 w249 w248 w247 w219 ws w73 e244 n (fun (a255 : Int) (a256 : Bool) (a257 : Nat) (a258 : List Int) => ( plcAppF_l5 fuel w219 ws w73 e244 n k0 k a255 a256 a257 a258 )) (fun (a259 : Int) (a260 : Bool) (a261 : Bool) (a262 : Nat) (a263 : List Int) => k0 a259 a260 a261 a262 a263))
theorem plcAppF_l5_eq (fuel : Nat) (w219 : Int) (ws : List Int) (w73 : Int) (e244 : Int) (n : Int) (K : Ex → St → Option Out) : ∀ (k : Nat) (w246 : Int) (w247 : Bool) (w248 : Nat) (w249 : List Int), lpN (sub (sub (bodyOf Tryd.prog 126) [1, 0, 0]) [1, 1, 0, 0, 1, 0, 0]) (itX Tryd.prog mode14 T_places fuel 3 28 3 2 (roundK (evC (sub (bodyOf Tryd.prog 125) [1, 0, 1, 0, 0])) (evC (sub (bodyOf Tryd.prog 125) [1, 0, 1, 0, 1])) (fnX Tryd.prog mode14 T_places fuel 13 1) #[7] 3876 [(2, .ptr 1 1 0 0), (4, .s (.slice none 0 0)), (6, .fn (.func 126) [] [.ptr 0 2 0 0])])) 268435417 [0, 3, 4, 6, 7, 8, 9, 10, 11, 12] k ⟨[(0, .yl 2), (3, .s (.int .i64 w219)), (4, .s (.int .u64 w246)), (6, .li .u64 ws), (7, .s (.int .i64 w73)), (8, .s (.int .i64 w219)), (9, .s (.bool w247)), (10, .s (.int .i64 w219)), (11, .lp [.s (.int .u64 e244)] 0), (12, .s (.int .u64 e244))], [(0, some ⟨29, .agg [.s (.int .i64 n), .li .u64 ws], true⟩), (1, some ⟨23, .agg [.sl 3 1 0 w248], true⟩), (2, none), (3, some ⟨3, .li .i64 w249, true⟩)], 4, none⟩ K = plcAppF_l5 fuel w219 ws w73 e244 n (fun (y250 : Int) (y251 : Bool) (y252 : Bool) (y253 : Nat) (y254 : List Int) => K (.exit 2) ⟨[(0, .yl 2), (3, .s (.int .i64 w219)), (4, .s (.int .u64 y250)), (6, .li .u64 ws), (7, .s (.int .i64 w73)), (8, .s (.int .i64 w219)), (9, .s (.bool y251)), (10, .s (.int .i64 w219)), (11, .lp [.s (.int .u64 e244)] 0), (12, .s (.int .u64 e244)), (13, .s (.int .u64 y250)), (14, .s (.bool y252))], [(0, some ⟨29, .agg [.s (.int .i64 n), .li .u64 ws], true⟩), (1, some ⟨23, .agg [.sl 3 1 0 y253], true⟩), (2, none), (3, some ⟨3, .li .i64 y254, true⟩)], 4, none⟩) k w246 w247 w248 w249
  | 0, _, _, _, _ => rfl
  | k + 1, w246, w247, w248, w249 => by
    unfold plcAppF_l5
    exact (plcAppF_s7_eq fuel k K w246 w249 w248 w247 w219 ws w73 e244 n).trans (congr (congr (Eq.refl (plcAppF_s7 (R := Out) w246 w249 w248 w247 w219 ws w73 e244 n)) (funext fun a255 => funext fun a256 => funext fun a257 => funext fun a258 => plcAppF_l5_eq fuel w219 ws w73 e244 n K k a255 a256 a257 a258)) (rfl))
noncomputable def plcAppF_s8 {R : Type} (w219 : Int) (x271 : Nat) (x272 : List Int) (x268 : Int) (ws : List Int) (w73 : Int) (x269 : Bool) (e244 : Int) (x270 : Bool) (n : Int) (c0 : Int → Nat → List Int → Option R) : Option R :=
  c0 (IntKind.i64.wrap (w219 + 1)) x271 x272
theorem plcAppF_s8_eq (fuel : Nat) (k : Nat) (K : Ex → St → Option Out) (w219 : Int) (x271 : Nat) (x272 : List Int) (x268 : Int) (ws : List Int) (w73 : Int) (x269 : Bool) (e244 : Int) (x270 : Bool) (n : Int) : (kont (itX Tryd.prog mode14 T_places fuel 3 28 3 2 (roundK (evC (sub (bodyOf Tryd.prog 125) [1, 0, 1, 0, 0])) (evC (sub (bodyOf Tryd.prog 125) [1, 0, 1, 0, 1])) (fnX Tryd.prog mode14 T_places fuel 13 1) #[7] 3876 [(2, .ptr 1 1 0 0), (4, .s (.slice none 0 0)), (6, .fn (.func 126) [] [.ptr 0 2 0 0])])) (sub (bodyOf Tryd.prog 126) [1, 0, 0]) [1, 1, 0, 0, 1, 0] 268435417 (rdK (sub (bodyOf Tryd.prog 126) [1, 0, 0]) (itX Tryd.prog mode14 T_places fuel 3 28 3 2 (roundK (evC (sub (bodyOf Tryd.prog 125) [1, 0, 1, 0, 0])) (evC (sub (bodyOf Tryd.prog 125) [1, 0, 1, 0, 1])) (fnX Tryd.prog mode14 T_places fuel 13 1) #[7] 3876 [(2, .ptr 1 1 0 0), (4, .s (.slice none 0 0)), (6, .fn (.func 126) [] [.ptr 0 2 0 0])])) 0 [0, 6, 7, 8] k K)) (.exit 2) ⟨[(0, .yl 2), (3, .s (.int .i64 w219)), (4, .s (.int .u64 x268)), (6, .li .u64 ws), (7, .s (.int .i64 w73)), (8, .s (.int .i64 w219)), (9, .s (.bool x269)), (10, .s (.int .i64 w219)), (11, .lp [.s (.int .u64 e244)] 0), (12, .s (.int .u64 e244)), (13, .s (.int .u64 x268)), (14, .s (.bool x270))], [(0, some ⟨29, .agg [.s (.int .i64 n), .li .u64 ws], true⟩), (1, some ⟨23, .agg [.sl 3 1 0 x271], true⟩), (2, none), (3, some ⟨3, .li .i64 x272, true⟩)], 4, none⟩ = plcAppF_s8 w219 x271 x272 x268 ws w73 x269 e244 x270 n (fun (a273 : Int) (a274 : Nat) (a275 : List Int) => lpN (sub (bodyOf Tryd.prog 126) [1, 0, 0]) (itX Tryd.prog mode14 T_places fuel 3 28 3 2 (roundK (evC (sub (bodyOf Tryd.prog 125) [1, 0, 1, 0, 0])) (evC (sub (bodyOf Tryd.prog 125) [1, 0, 1, 0, 1])) (fnX Tryd.prog mode14 T_places fuel 13 1) #[7] 3876 [(2, .ptr 1 1 0 0), (4, .s (.slice none 0 0)), (6, .fn (.func 126) [] [.ptr 0 2 0 0])])) 0 [0, 6, 7, 8] k ⟨[(0, .yl 2), (6, .li .u64 ws), (7, .s (.int .i64 w73)), (8, .s (.int .i64 a273))], [(0, some ⟨29, .agg [.s (.int .i64 n), .li .u64 ws], true⟩), (1, some ⟨23, .agg [.sl 3 1 0 a274], true⟩), (2, none), (3, some ⟨3, .li .i64 a275, true⟩)], 4, none⟩ K) := by kernel_rfl
noncomputable def plcAppF_s6 {R : Type} (w219 : Int) (w73 : Int) (ws : List Int) (w220 : Nat) (w221 : List Int) (n : Int) (c0 : Int → Bool → Nat → List Int → Int → Option R) (c1 : Nat → List Int → Option R) : Option R :=
  br (decide (w219 < w73))
    (bnd (ix ws w219) fun e244 =>
    c0 e244 (decide (w219 < w73)) w220 w221 e244)
    (c1 w220 w221)
theorem plcAppF_s6_eq (fuel : Nat) (k : Nat) (K : Ex → St → Option Out) (w219 : Int) (w73 : Int) (ws : List Int) (w220 : Nat) (w221 : List Int) (n : Int) : lpN (sub (bodyOf Tryd.prog 126) [1, 0, 0]) (itX Tryd.prog mode14 T_places fuel 3 28 3 2 (roundK (evC (sub (bodyOf Tryd.prog 125) [1, 0, 1, 0, 0])) (evC (sub (bodyOf Tryd.prog 125) [1, 0, 1, 0, 1])) (fnX Tryd.prog mode14 T_places fuel 13 1) #[7] 3876 [(2, .ptr 1 1 0 0), (4, .s (.slice none 0 0)), (6, .fn (.func 126) [] [.ptr 0 2 0 0])])) 0 [0, 6, 7, 8] (k + 1) ⟨[(0, .yl 2), (6, .li .u64 ws), (7, .s (.int .i64 w73)), (8, .s (.int .i64 w219))], [(0, some ⟨29, .agg [.s (.int .i64 n), .li .u64 ws], true⟩), (1, some ⟨23, .agg [.sl 3 1 0 w220], true⟩), (2, none), (3, some ⟨3, .li .i64 w221, true⟩)], 4, none⟩ K = plcAppF_s6 w219 w73 ws w220 w221 n (fun (a264 : Int) (a265 : Bool) (a266 : Nat) (a267 : List Int) (e244 : Int) => lpN (sub (sub (bodyOf Tryd.prog 126) [1, 0, 0]) [1, 1, 0, 0, 1, 0, 0]) (itX Tryd.prog mode14 T_places fuel 3 28 3 2 (roundK (evC (sub (bodyOf Tryd.prog 125) [1, 0, 1, 0, 0])) (evC (sub (bodyOf Tryd.prog 125) [1, 0, 1, 0, 1])) (fnX Tryd.prog mode14 T_places fuel 13 1) #[7] 3876 [(2, .ptr 1 1 0 0), (4, .s (.slice none 0 0)), (6, .fn (.func 126) [] [.ptr 0 2 0 0])])) 268435417 [0, 3, 4, 6, 7, 8, 9, 10, 11, 12] fuel ⟨[(0, .yl 2), (3, .s (.int .i64 w219)), (4, .s (.int .u64 a264)), (6, .li .u64 ws), (7, .s (.int .i64 w73)), (8, .s (.int .i64 w219)), (9, .s (.bool a265)), (10, .s (.int .i64 w219)), (11, .lp [.s (.int .u64 e244)] 0), (12, .s (.int .u64 e244))], [(0, some ⟨29, .agg [.s (.int .i64 n), .li .u64 ws], true⟩), (1, some ⟨23, .agg [.sl 3 1 0 a266], true⟩), (2, none), (3, some ⟨3, .li .i64 a267, true⟩)], 4, none⟩ (kont (itX Tryd.prog mode14 T_places fuel 3 28 3 2 (roundK (evC (sub (bodyOf Tryd.prog 125) [1, 0, 1, 0, 0])) (evC (sub (bodyOf Tryd.prog 125) [1, 0, 1, 0, 1])) (fnX Tryd.prog mode14 T_places fuel 13 1) #[7] 3876 [(2, .ptr 1 1 0 0), (4, .s (.slice none 0 0)), (6, .fn (.func 126) [] [.ptr 0 2 0 0])])) (sub (bodyOf Tryd.prog 126) [1, 0, 0]) [1, 1, 0, 0, 1, 0] 268435417 (rdK (sub (bodyOf Tryd.prog 126) [1, 0, 0]) (itX Tryd.prog mode14 T_places fuel 3 28 3 2 (roundK (evC (sub (bodyOf Tryd.prog 125) [1, 0, 1, 0, 0])) (evC (sub (bodyOf Tryd.prog 125) [1, 0, 1, 0, 1])) (fnX Tryd.prog mode14 T_places fuel 13 1) #[7] 3876 [(2, .ptr 1 1 0 0), (4, .s (.slice none 0 0)), (6, .fn (.func 126) [] [.ptr 0 2 0 0])])) 0 [0, 6, 7, 8] k K))) (fun (a276 : Nat) (a277 : List Int) => K (.exit 0) ⟨[], [(0, some ⟨29, .agg [.s (.int .i64 n), .li .u64 ws], true⟩), (1, some ⟨23, .agg [.sl 3 1 0 a276], true⟩), (2, none), (3, some ⟨3, .li .i64 a277, true⟩)], 4, none⟩) := by kernel_rfl
noncomputable def plcAppF_l4 {R : Type} (fuel : Nat) (ws : List Int) (w73 : Int) (n : Int) (k0 : Nat → List Int → Option R) : Nat → Int → Nat → List Int → Option R
  | 0, _, _, _ => none
  | k + 1, w219, w220, w221 =>
    (plcAppF_s6 w219 w73 ws w220 w221 n (fun (a264 : Int) (a265 : Bool) (a266 : Nat) (a267 : List Int) (e244 : Int) => (plcAppF_l5 fuel w219 ws w73 e244 n (fun (x268 : Int) (x269 : Bool) (x270 : Bool) (x271 : Nat) (x272 : List Int) => (plcAppF_s8 w219 x271 x272 x268 ws w73 x269 e244 x270 n (fun (a273 : Int) (a274 : Nat) (a275 : List Int) => ( plcAppF_l4 fuel ws w73 n k0 k a273 a274 a275 )))) fuel a264 a265 a266 a267)) (fun (a276 : Nat) (a277 : List Int) => k0 a276 a277))
theorem plcAppF_l4_eq (fuel : Nat) (ws : List Int) (w73 : Int) (n : Int) (K : Ex → St → Option Out) : ∀ (k : Nat) (w219 : Int) (w220 : Nat) (w221 : List Int), lpN (sub (bodyOf Tryd.prog 126) [1, 0, 0]) (itX Tryd.prog mode14 T_places fuel 3 28 3 2 (roundK (evC (sub (bodyOf Tryd.prog 125) [1, 0, 1, 0, 0])) (evC (sub (bodyOf Tryd.prog 125) [1, 0, 1, 0, 1])) (fnX Tryd.prog mode14 T_places fuel 13 1) #[7] 3876 [(2, .ptr 1 1 0 0), (4, .s (.slice none 0 0)), (6, .fn (.func 126) [] [.ptr 0 2 0 0])])) 0 [0, 6, 7, 8] k ⟨[(0, .yl 2), (6, .li .u64 ws), (7, .s (.int .i64 w73)), (8, .s (.int .i64 w219))], [(0, some ⟨29, .agg [.s (.int .i64 n), .li .u64 ws], true⟩), (1, some ⟨23, .agg [.sl 3 1 0 w220], true⟩), (2, none), (3, some ⟨3, .li .i64 w221, true⟩)], 4, none⟩ K = plcAppF_l4 fuel ws w73 n (fun (y242 : Nat) (y243 : List Int) => K (.exit 0) ⟨[], [(0, some ⟨29, .agg [.s (.int .i64 n), .li .u64 ws], true⟩), (1, some ⟨23, .agg [.sl 3 1 0 y242], true⟩), (2, none), (3, some ⟨3, .li .i64 y243, true⟩)], 4, none⟩) k w219 w220 w221
  | 0, _, _, _ => rfl
  | k + 1, w219, w220, w221 => by
    unfold plcAppF_l4
    exact (plcAppF_s6_eq fuel k K w219 w73 ws w220 w221 n).trans (congr (congr (Eq.refl (plcAppF_s6 (R := Out) w219 w73 ws w220 w221 n)) (funext fun a264 => funext fun a265 => funext fun a266 => funext fun a267 => funext fun e244 => (plcAppF_l5_eq fuel w219 ws w73 e244 n (kont (itX Tryd.prog mode14 T_places fuel 3 28 3 2 (roundK (evC (sub (bodyOf Tryd.prog 125) [1, 0, 1, 0, 0])) (evC (sub (bodyOf Tryd.prog 125) [1, 0, 1, 0, 1])) (fnX Tryd.prog mode14 T_places fuel 13 1) #[7] 3876 [(2, .ptr 1 1 0 0), (4, .s (.slice none 0 0)), (6, .fn (.func 126) [] [.ptr 0 2 0 0])])) (sub (bodyOf Tryd.prog 126) [1, 0, 0]) [1, 1, 0, 0, 1, 0] 268435417 (rdK (sub (bodyOf Tryd.prog 126) [1, 0, 0]) (itX Tryd.prog mode14 T_places fuel 3 28 3 2 (roundK (evC (sub (bodyOf Tryd.prog 125) [1, 0, 1, 0, 0])) (evC (sub (bodyOf Tryd.prog 125) [1, 0, 1, 0, 1])) (fnX Tryd.prog mode14 T_places fuel 13 1) #[7] 3876 [(2, .ptr 1 1 0 0), (4, .s (.slice none 0 0)), (6, .fn (.func 126) [] [.ptr 0 2 0 0])])) 0 [0, 6, 7, 8] k K)) fuel a264 a265 a266 a267).trans (congrFun (congrFun (congrFun (congrFun (congrFun (congr (Eq.refl (plcAppF_l5 (R := Out) fuel w219 ws w73 e244 n)) (funext fun x268 => funext fun x269 => funext fun x270 => funext fun x271 => funext fun x272 => (plcAppF_s8_eq fuel k K w219 x271 x272 x268 ws w73 x269 e244 x270 n).trans (congr (Eq.refl (plcAppF_s8 (R := Out) w219 x271 x272 x268 ws w73 x269 e244 x270 n)) (funext fun a273 => funext fun a274 => funext fun a275 => plcAppF_l4_eq fuel ws w73 n K k a273 a274 a275)))) fuel) a264) a265) a266) a267))) (rfl))
noncomputable def plcAppF_s5 {R : Type} (w74 : Int) (x196 : Nat) (x197 : List Int) (x193 : Int) (ws : List Int) (w73 : Int) (x194 : Bool) (e149 : Int) (x195 : Bool) (n : Int) (c0 : Int → Nat → List Int → Option R) : Option R :=
  c0 (IntKind.i64.wrap (w74 + 1)) x196 x197
theorem plcAppF_s5_eq (fuel : Nat) (k : Nat) (K : Ex → St → Option Out) (w74 : Int) (x196 : Nat) (x197 : List Int) (x193 : Int) (ws : List Int) (w73 : Int) (x194 : Bool) (e149 : Int) (x195 : Bool) (n : Int) : (kont (itX Tryd.prog mode14 T_places fuel 3 28 3 2 (roundK (evC (sub (bodyOf Tryd.prog 125) [1, 0, 1, 0, 0])) (evC (sub (bodyOf Tryd.prog 125) [1, 0, 1, 0, 1])) (fnX Tryd.prog mode14 T_places fuel 13 1) #[7] 3876 [(2, .ptr 1 1 0 0), (4, .s (.slice none 0 0)), (6, .fn (.func 126) [] [.ptr 0 2 0 0])])) (sub (bodyOf Tryd.prog 126) [1, 0, 0]) [1, 1, 0, 0, 1, 0] 268435417 (rdK (sub (bodyOf Tryd.prog 126) [1, 0, 0]) (itX Tryd.prog mode14 T_places fuel 3 28 3 2 (roundK (evC (sub (bodyOf Tryd.prog 125) [1, 0, 1, 0, 0])) (evC (sub (bodyOf Tryd.prog 125) [1, 0, 1, 0, 1])) (fnX Tryd.prog mode14 T_places fuel 13 1) #[7] 3876 [(2, .ptr 1 1 0 0), (4, .s (.slice none 0 0)), (6, .fn (.func 126) [] [.ptr 0 2 0 0])])) 0 [0, 6, 7, 8] k K)) (.exit 2) ⟨[(0, .yl 2), (3, .s (.int .i64 w74)), (4, .s (.int .u64 x193)), (6, .li .u64 ws), (7, .s (.int .i64 w73)), (8, .s (.int .i64 w74)), (9, .s (.bool x194)), (10, .s (.int .i64 w74)), (11, .lp [.s (.int .u64 e149)] 0), (12, .s (.int .u64 e149)), (13, .s (.int .u64 x193)), (14, .s (.bool x195))], [(0, some ⟨29, .agg [.s (.int .i64 n), .li .u64 ws], true⟩), (1, some ⟨23, .agg [.sl 3 1 0 x196], true⟩), (2, none), (3, some ⟨3, .li .i64 x197, true⟩)], 4, none⟩ = plcAppF_s5 w74 x196 x197 x193 ws w73 x194 e149 x195 n (fun (a278 : Int) (a279 : Nat) (a280 : List Int) => lpN (sub (bodyOf Tryd.prog 126) [1, 0, 0]) (itX Tryd.prog mode14 T_places fuel 3 28 3 2 (roundK (evC (sub (bodyOf Tryd.prog 125) [1, 0, 1, 0, 0])) (evC (sub (bodyOf Tryd.prog 125) [1, 0, 1, 0, 1])) (fnX Tryd.prog mode14 T_places fuel 13 1) #[7] 3876 [(2, .ptr 1 1 0 0), (4, .s (.slice none 0 0)), (6, .fn (.func 126) [] [.ptr 0 2 0 0])])) 0 [0, 6, 7, 8] k ⟨[(0, .yl 2), (6, .li .u64 ws), (7, .s (.int .i64 w73)), (8, .s (.int .i64 a278))], [(0, some ⟨29, .agg [.s (.int .i64 n), .li .u64 ws], true⟩), (1, some ⟨23, .agg [.sl 3 1 0 a279], true⟩), (2, none), (3, some ⟨3, .li .i64 a280, true⟩)], 4, none⟩ K) := by kernel_rfl
noncomputable def plcAppF_s9 {R : Type} (w73 : Int) (w74 : Int) (e149 : Int) (ws : List Int) (x283 : Bool) (x284 : Bool) (n : Int) (c0 : Int → Int → Option R) : Option R :=
  c0 w73 (IntKind.i64.wrap (w74 + 1))
theorem plcAppF_s9_eq (fuel : Nat) (k : Nat) (K : Ex → St → Option Out) (w73 : Int) (w74 : Int) (e149 : Int) (ws : List Int) (x283 : Bool) (x284 : Bool) (n : Int) : (kont (itX Tryd.prog mode14 T_places fuel 3 28 3 2 (roundK (evC (sub (bodyOf Tryd.prog 125) [1, 0, 1, 0, 0])) (evC (sub (bodyOf Tryd.prog 125) [1, 0, 1, 0, 1])) (fnX Tryd.prog mode14 T_places fuel 13 1) #[7] 3876 [(2, .ptr 1 1 0 0), (4, .s (.slice none 0 0)), (6, .fn (.func 126) [] [.ptr 0 2 0 0])])) (sub (bodyOf Tryd.prog 126) [1, 0, 0]) [1, 1, 0, 0, 1, 0] 268435417 (rdK (sub (bodyOf Tryd.prog 126) [1, 0, 0]) (itX Tryd.prog mode14 T_places fuel 3 28 3 2 (roundK (evC (sub (bodyOf Tryd.prog 125) [1, 0, 1, 0, 0])) (evC (sub (bodyOf Tryd.prog 125) [1, 0, 1, 0, 1])) (fnX Tryd.prog mode14 T_places fuel 13 1) #[7] 3876 [(2, .ptr 1 1 0 0), (4, .s (.slice none 0 0)), (6, .fn (.func 126) [] [.ptr 0 2 0 0])])) 0 [0, 6, 7, 8] k K)) (.exit 2) ⟨[(0, .yl 2), (3, .s (.int .i64 w74)), (4, .s (.int .u64 e149)), (6, .li .u64 ws), (7, .s (.int .i64 w73)), (8, .s (.int .i64 w74)), (9, .s (.bool x283)), (10, .s (.int .i64 w74)), (11, .lp [.s (.int .u64 e149)] 0), (12, .s (.int .u64 e149)), (13, .s (.int .u64 e149)), (14, .s (.bool x284))], [(0, some ⟨29, .agg [.s (.int .i64 n), .li .u64 ws], true⟩), (1, some ⟨23, .agg [.s (.slice none 0 0)], true⟩), (2, none)], 3, none⟩ = plcAppF_s9 w73 w74 e149 ws x283 x284 n (fun (a285 : Int) (a286 : Int) => lpN (sub (bodyOf Tryd.prog 126) [1, 0, 0]) (itX Tryd.prog mode14 T_places fuel 3 28 3 2 (roundK (evC (sub (bodyOf Tryd.prog 125) [1, 0, 1, 0, 0])) (evC (sub (bodyOf Tryd.prog 125) [1, 0, 1, 0, 1])) (fnX Tryd.prog mode14 T_places fuel 13 1) #[7] 3876 [(2, .ptr 1 1 0 0), (4, .s (.slice none 0 0)), (6, .fn (.func 126) [] [.ptr 0 2 0 0])])) 0 [0, 6, 7, 8] k ⟨[(0, .yl 2), (6, .li .u64 ws), (7, .s (.int .i64 a285)), (8, .s (.int .i64 a286))], [(0, some ⟨29, .agg [.s (.int .i64 n), .li .u64 ws], true⟩), (1, some ⟨23, .agg [.s (.slice none 0 0)], true⟩), (2, none)], 3, none⟩ K) := by kernel_rfl
noncomputable def plcAppF_s2 {R : Type} (w74 : Int) (w73 : Int) (ws : List Int) (n : Int) (c0 : Bool → Int → Option R) (c1 : Option R) : Option R :=
  br (decide (w74 < w73))
    (bnd (ix ws w74) fun e149 =>
    c0 (decide (w74 < w73)) e149)
    (c1)
theorem plcAppF_s2_eq (fuel : Nat) (k : Nat) (K : Ex → St → Option Out) (w74 : Int) (w73 : Int) (ws : List Int) (n : Int) : lpN (sub (bodyOf Tryd.prog 126) [1, 0, 0]) (itX Tryd.prog mode14 T_places fuel 3 28 3 2 (roundK (evC (sub (bodyOf Tryd.prog 125) [1, 0, 1, 0, 0])) (evC (sub (bodyOf Tryd.prog 125) [1, 0, 1, 0, 1])) (fnX Tryd.prog mode14 T_places fuel 13 1) #[7] 3876 [(2, .ptr 1 1 0 0), (4, .s (.slice none 0 0)), (6, .fn (.func 126) [] [.ptr 0 2 0 0])])) 0 [0, 6, 7, 8] (k + 1) ⟨[(0, .yl 2), (6, .li .u64 ws), (7, .s (.int .i64 w73)), (8, .s (.int .i64 w74))], [(0, some ⟨29, .agg [.s (.int .i64 n), .li .u64 ws], true⟩), (1, some ⟨23, .agg [.s (.slice none 0 0)], true⟩), (2, none)], 3, none⟩ K = plcAppF_s2 w74 w73 ws n (fun (a192 : Bool) (e149 : Int) => lpN (sub (sub (bodyOf Tryd.prog 126) [1, 0, 0]) [1, 1, 0, 0, 1, 0, 0]) (itX Tryd.prog mode14 T_places fuel 3 28 3 2 (roundK (evC (sub (bodyOf Tryd.prog 125) [1, 0, 1, 0, 0])) (evC (sub (bodyOf Tryd.prog 125) [1, 0, 1, 0, 1])) (fnX Tryd.prog mode14 T_places fuel 13 1) #[7] 3876 [(2, .ptr 1 1 0 0), (4, .s (.slice none 0 0)), (6, .fn (.func 126) [] [.ptr 0 2 0 0])])) 268435417 [0, 3, 4, 6, 7, 8, 9, 10, 11, 12] fuel ⟨[(0, .yl 2), (3, .s (.int .i64 w74)), (4, .s (.int .u64 e149)), (6, .li .u64 ws), (7, .s (.int .i64 w73)), (8, .s (.int .i64 w74)), (9, .s (.bool a192)), (10, .s (.int .i64 w74)), (11, .lp [.s (.int .u64 e149)] 0), (12, .s (.int .u64 e149))], [(0, some ⟨29, .agg [.s (.int .i64 n), .li .u64 ws], true⟩), (1, some ⟨23, .agg [.s (.slice none 0 0)], true⟩), (2, none)], 3, none⟩ (kont (itX Tryd.prog mode14 T_places fuel 3 28 3 2 (roundK (evC (sub (bodyOf Tryd.prog 125) [1, 0, 1, 0, 0])) (evC (sub (bodyOf Tryd.prog 125) [1, 0, 1, 0, 1])) (fnX Tryd.prog mode14 T_places fuel 13 1) #[7] 3876 [(2, .ptr 1 1 0 0), (4, .s (.slice none 0 0)), (6, .fn (.func 126) [] [.ptr 0 2 0 0])])) (sub (bodyOf Tryd.prog 126) [1, 0, 0]) [1, 1, 0, 0, 1, 0] 268435417 (rdK (sub (bodyOf Tryd.prog 126) [1, 0, 0]) (itX Tryd.prog mode14 T_places fuel 3 28 3 2 (roundK (evC (sub (bodyOf Tryd.prog 125) [1, 0, 1, 0, 0])) (evC (sub (bodyOf Tryd.prog 125) [1, 0, 1, 0, 1])) (fnX Tryd.prog mode14 T_places fuel 13 1) #[7] 3876 [(2, .ptr 1 1 0 0), (4, .s (.slice none 0 0)), (6, .fn (.func 126) [] [.ptr 0 2 0 0])])) 0 [0, 6, 7, 8] k K))) (K (.exit 0) ⟨[], [(0, some ⟨29, .agg [.s (.int .i64 n), .li .u64 ws], true⟩), (1, some ⟨23, .agg [.s (.slice none 0 0)], true⟩), (2, none)], 3, none⟩) := by kernel_rfl
noncomputable def plcAppF_l1 {R : Type} (fuel : Nat) (ws : List Int) (n : Int) (k0 : Nat → List Int → Option R) (k1 : Option R) : Nat → Int → Int → Option R
  | 0, _, _ => none
  | k + 1, w73, w74 =>
    (plcAppF_s2 w74 w73 ws n (fun (a192 : Bool) (e149 : Int) => (plcAppF_l2 fuel w74 e149 ws w73 n (fun (x193 : Int) (x194 : Bool) (x195 : Bool) (x196 : Nat) (x197 : List Int) => (plcAppF_s5 w74 x196 x197 x193 ws w73 x194 e149 x195 n (fun (a278 : Int) (a279 : Nat) (a280 : List Int) => (plcAppF_l4 fuel ws w73 n (fun (x281 : Nat) (x282 : List Int) => k0 x281 x282) k a278 a279 a280)))) (fun (x283 : Bool) (x284 : Bool) => (plcAppF_s9 w73 w74 e149 ws x283 x284 n (fun (a285 : Int) (a286 : Int) => ( plcAppF_l1 fuel ws n k0 k1 k a285 a286 )))) fuel a192)) (k1))
theorem plcAppF_l1_eq (fuel : Nat) (ws : List Int) (n : Int) (K : Ex → St → Option Out) : ∀ (k : Nat) (w73 : Int) (w74 : Int), lpN (sub (bodyOf Tryd.prog 126) [1, 0, 0]) (itX Tryd.prog mode14 T_places fuel 3 28 3 2 (roundK (evC (sub (bodyOf Tryd.prog 125) [1, 0, 1, 0, 0])) (evC (sub (bodyOf Tryd.prog 125) [1, 0, 1, 0, 1])) (fnX Tryd.prog mode14 T_places fuel 13 1) #[7] 3876 [(2, .ptr 1 1 0 0), (4, .s (.slice none 0 0)), (6, .fn (.func 126) [] [.ptr 0 2 0 0])])) 0 [0, 6, 7, 8] k ⟨[(0, .yl 2), (6, .li .u64 ws), (7, .s (.int .i64 w73)), (8, .s (.int .i64 w74))], [(0, some ⟨29, .agg [.s (.int .i64 n), .li .u64 ws], true⟩), (1, some ⟨23, .agg [.s (.slice none 0 0)], true⟩), (2, none)], 3, none⟩ K = plcAppF_l1 fuel ws n (fun (y147 : Nat) (y148 : List Int) => K (.exit 0) ⟨[], [(0, some ⟨29, .agg [.s (.int .i64 n), .li .u64 ws], true⟩), (1, some ⟨23, .agg [.sl 3 1 0 y147], true⟩), (2, none), (3, some ⟨3, .li .i64 y148, true⟩)], 4, none⟩) (K (.exit 0) ⟨[], [(0, some ⟨29, .agg [.s (.int .i64 n), .li .u64 ws], true⟩), (1, some ⟨23, .agg [.s (.slice none 0 0)], true⟩), (2, none)], 3, none⟩) k w73 w74
  | 0, _, _ => rfl
  | k + 1, w73, w74 => by
    unfold plcAppF_l1
    exact (plcAppF_s2_eq fuel k K w74 w73 ws n).trans (congr (congr (Eq.refl (plcAppF_s2 (R := Out) w74 w73 ws n)) (funext fun a192 => funext fun e149 => (plcAppF_l2_eq fuel w74 e149 ws w73 n (kont (itX Tryd.prog mode14 T_places fuel 3 28 3 2 (roundK (evC (sub (bodyOf Tryd.prog 125) [1, 0, 1, 0, 0])) (evC (sub (bodyOf Tryd.prog 125) [1, 0, 1, 0, 1])) (fnX Tryd.prog mode14 T_places fuel 13 1) #[7] 3876 [(2, .ptr 1 1 0 0), (4, .s (.slice none 0 0)), (6, .fn (.func 126) [] [.ptr 0 2 0 0])])) (sub (bodyOf Tryd.prog 126) [1, 0, 0]) [1, 1, 0, 0, 1, 0] 268435417 (rdK (sub (bodyOf Tryd.prog 126) [1, 0, 0]) (itX Tryd.prog mode14 T_places fuel 3 28 3 2 (roundK (evC (sub (bodyOf Tryd.prog 125) [1, 0, 1, 0, 0])) (evC (sub (bodyOf Tryd.prog 125) [1, 0, 1, 0, 1])) (fnX Tryd.prog mode14 T_places fuel 13 1) #[7] 3876 [(2, .ptr 1 1 0 0), (4, .s (.slice none 0 0)), (6, .fn (.func 126) [] [.ptr 0 2 0 0])])) 0 [0, 6, 7, 8] k K)) fuel a192).trans (congrFun (congrFun (congr (congr (Eq.refl (plcAppF_l2 (R := Out) fuel w74 e149 ws w73 n)) (funext fun x193 => funext fun x194 => funext fun x195 => funext fun x196 => funext fun x197 => (plcAppF_s5_eq fuel k K w74 x196 x197 x193 ws w73 x194 e149 x195 n).trans (congr (Eq.refl (plcAppF_s5 (R := Out) w74 x196 x197 x193 ws w73 x194 e149 x195 n)) (funext fun a278 => funext fun a279 => funext fun a280 => plcAppF_l4_eq fuel ws w73 n K k a278 a279 a280)))) (funext fun x283 => funext fun x284 => (plcAppF_s9_eq fuel k K w73 w74 e149 ws x283 x284 n).trans (congr (Eq.refl (plcAppF_s9 (R := Out) w73 w74 e149 ws x283 x284 n)) (funext fun a285 => funext fun a286 => plcAppF_l1_eq fuel ws n K k a285 a286)))) fuel) a192))) (rfl))
noncomputable def plcAppF_s10 {R : Type} (x289 : Nat) (n : Int) (ws : List Int) (x290 : List Int) (c0 : Nat → Nat → Int → List Int → List Int → Option R) : Option R :=
  c0 0 x289 n ws x290
theorem plcAppF_s10_eq (fuel : Nat)  (x289 : Nat) (n : Int) (ws : List Int) (x290 : List Int) : (kont (itX Tryd.prog mode14 T_places fuel 3 28 3 2 (roundK (evC (sub (bodyOf Tryd.prog 125) [1, 0, 1, 0, 0])) (evC (sub (bodyOf Tryd.prog 125) [1, 0, 1, 0, 1])) (fnX Tryd.prog mode14 T_places fuel 13 1) #[7] 3876 [(2, .ptr 1 1 0 0), (4, .s (.slice none 0 0)), (6, .fn (.func 126) [] [.ptr 0 2 0 0])])) (bodyOf Tryd.prog 126) [1, 0] 0 (itE (behind ⟨[(2, .ptr 1 1 0 0), (4, .s (.slice none 0 0)), (6, .fn (.func 126) [] [.ptr 0 2 0 0])], [(0, some ⟨29, .agg [.s (.int .i64 n), .li .u64 ws], true⟩), (1, some ⟨23, .agg [.s (.slice none 0 0)], true⟩)], 2, none⟩ (kont (fnX Tryd.prog mode14 T_places fuel 13 1) (bodyOf Tryd.prog 125) [1, 0, 1, 0] 16 (endK Tryd.prog 2 1 125))))) (.exit 0) ⟨[], [(0, some ⟨29, .agg [.s (.int .i64 n), .li .u64 ws], true⟩), (1, some ⟨23, .agg [.sl 3 1 0 x289], true⟩), (2, none), (3, some ⟨3, .li .i64 x290, true⟩)], 4, none⟩ = plcAppF_s10 x289 n ws x290 (fun (a291 : Nat) (a292 : Nat) (a293 : Int) (a294 : List Int) (a295 : List Int) => some (.sl 1 1 a291 a292, [some ⟨29, .agg [.s (.int .i64 a293), .li .u64 a294], true⟩, some ⟨3, .li .i64 a295, true⟩])) := by kernel_rfl
noncomputable def plcAppF_s11 {R : Type} (n : Int) (ws : List Int) (c0 : Int → List Int → Option R) : Option R :=
  c0 n ws
theorem plcAppF_s11_eq (fuel : Nat)  (n : Int) (ws : List Int) : (kont (itX Tryd.prog mode14 T_places fuel 3 28 3 2 (roundK (evC (sub (bodyOf Tryd.prog 125) [1, 0, 1, 0, 0])) (evC (sub (bodyOf Tryd.prog 125) [1, 0, 1, 0, 1])) (fnX Tryd.prog mode14 T_places fuel 13 1) #[7] 3876 [(2, .ptr 1 1 0 0), (4, .s (.slice none 0 0)), (6, .fn (.func 126) [] [.ptr 0 2 0 0])])) (bodyOf Tryd.prog 126) [1, 0] 0 (itE (behind ⟨[(2, .ptr 1 1 0 0), (4, .s (.slice none 0 0)), (6, .fn (.func 126) [] [.ptr 0 2 0 0])], [(0, some ⟨29, .agg [.s (.int .i64 n), .li .u64 ws], true⟩), (1, some ⟨23, .agg [.s (.slice none 0 0)], true⟩)], 2, none⟩ (kont (fnX Tryd.prog mode14 T_places fuel 13 1) (bodyOf Tryd.prog 125) [1, 0, 1, 0] 16 (endK Tryd.prog 2 1 125))))) (.exit 0) ⟨[], [(0, some ⟨29, .agg [.s (.int .i64 n), .li .u64 ws], true⟩), (1, some ⟨23, .agg [.s (.slice none 0 0)], true⟩), (2, none)], 3, none⟩ = plcAppF_s11 n ws (fun (a296 : Int) (a297 : List Int) => some (.s (.slice none 0 0), [some ⟨29, .agg [.s (.int .i64 a296), .li .u64 a297], true⟩])) := by kernel_rfl
noncomputable def plcAppF_s1 {R : Type} (ws : List Int) (n : Int) (c0 : Int → Int → Option R) : Option R :=
  c0 ((ws.length : Nat) : Int) 0
theorem plcAppF_s1_eq (fuel : Nat)  (ws : List Int) (n : Int) : callN Tryd.prog mode14 T_places fuel 125 [.s (.slice none 0 0), .fn (.func 126) [] [.ptr 0 2 0 0]] [⟨29, .agg [.s (.int .i64 n), .li .u64 ws], true⟩] = plcAppF_s1 ws n (fun (a287 : Int) (a288 : Int) => lpN (sub (bodyOf Tryd.prog 126) [1, 0, 0]) (itX Tryd.prog mode14 T_places fuel 3 28 3 2 (roundK (evC (sub (bodyOf Tryd.prog 125) [1, 0, 1, 0, 0])) (evC (sub (bodyOf Tryd.prog 125) [1, 0, 1, 0, 1])) (fnX Tryd.prog mode14 T_places fuel 13 1) #[7] 3876 [(2, .ptr 1 1 0 0), (4, .s (.slice none 0 0)), (6, .fn (.func 126) [] [.ptr 0 2 0 0])])) 0 [0, 6, 7, 8] fuel ⟨[(0, .yl 2), (6, .li .u64 ws), (7, .s (.int .i64 a287)), (8, .s (.int .i64 a288))], [(0, some ⟨29, .agg [.s (.int .i64 n), .li .u64 ws], true⟩), (1, some ⟨23, .agg [.s (.slice none 0 0)], true⟩), (2, none)], 3, none⟩ (kont (itX Tryd.prog mode14 T_places fuel 3 28 3 2 (roundK (evC (sub (bodyOf Tryd.prog 125) [1, 0, 1, 0, 0])) (evC (sub (bodyOf Tryd.prog 125) [1, 0, 1, 0, 1])) (fnX Tryd.prog mode14 T_places fuel 13 1) #[7] 3876 [(2, .ptr 1 1 0 0), (4, .s (.slice none 0 0)), (6, .fn (.func 126) [] [.ptr 0 2 0 0])])) (bodyOf Tryd.prog 126) [1, 0] 0 (itE (behind ⟨[(2, .ptr 1 1 0 0), (4, .s (.slice none 0 0)), (6, .fn (.func 126) [] [.ptr 0 2 0 0])], [(0, some ⟨29, .agg [.s (.int .i64 n), .li .u64 ws], true⟩), (1, some ⟨23, .agg [.s (.slice none 0 0)], true⟩)], 2, none⟩ (kont (fnX Tryd.prog mode14 T_places fuel 13 1) (bodyOf Tryd.prog 125) [1, 0, 1, 0] 16 (endK Tryd.prog 2 1 125)))))) := by kernel_rfl
noncomputable def plcAppF {R : Type} (fuel : Nat) (n : Int) (ws : List Int) (r0 : Nat → Nat → Int → List Int → List Int → Option R) (r1 : Int → List Int → Option R) : Option R :=
  (plcAppF_s1 ws n (fun (a287 : Int) (a288 : Int) => (plcAppF_l1 fuel ws n (fun (x289 : Nat) (x290 : List Int) => (plcAppF_s10 x289 n ws x290 (fun (a291 : Nat) (a292 : Nat) (a293 : Int) (a294 : List Int) (a295 : List Int) => r0 a291 a292 a293 a294 a295))) ((plcAppF_s11 n ws (fun (a296 : Int) (a297 : List Int) => r1 a296 a297))) fuel a287 a288)))
theorem plcAppF_eq (fuel : Nat) (n : Int) (ws : List Int) : callN Tryd.prog mode14 T_places fuel 125 [.s (.slice none 0 0), .fn (.func 126) [] [.ptr 0 2 0 0]] [⟨29, .agg [.s (.int .i64 n), .li .u64 ws], true⟩] = plcAppF fuel n ws (fun (z0 : Nat) (z1 : Nat) (z2 : Int) (z3 : List Int) (z4 : List Int) => some (.sl 1 1 z0 z1, [some ⟨29, .agg [.s (.int .i64 z2), .li .u64 z3], true⟩, some ⟨3, .li .i64 z4, true⟩])) (fun (z0 : Int) (z1 : List Int) => some (.s (.slice none 0 0), [some ⟨29, .agg [.s (.int .i64 z0), .li .u64 z1], true⟩])) := by
  unfold plcAppF
  exact (plcAppF_s1_eq fuel  ws n).trans (congr (Eq.refl (plcAppF_s1 (R := Out) ws n)) (funext fun a287 => funext fun a288 => (plcAppF_l1_eq fuel ws n (kont (itX Tryd.prog mode14 T_places fuel 3 28 3 2 (roundK (evC (sub (bodyOf Tryd.prog 125) [1, 0, 1, 0, 0])) (evC (sub (bodyOf Tryd.prog 125) [1, 0, 1, 0, 1])) (fnX Tryd.prog mode14 T_places fuel 13 1) #[7] 3876 [(2, .ptr 1 1 0 0), (4, .s (.slice none 0 0)), (6, .fn (.func 126) [] [.ptr 0 2 0 0])])) (bodyOf Tryd.prog 126) [1, 0] 0 (itE (behind ⟨[(2, .ptr 1 1 0 0), (4, .s (.slice none 0 0)), (6, .fn (.func 126) [] [.ptr 0 2 0 0])], [(0, some ⟨29, .agg [.s (.int .i64 n), .li .u64 ws], true⟩), (1, some ⟨23, .agg [.s (.slice none 0 0)], true⟩)], 2, none⟩ (kont (fnX Tryd.prog mode14 T_places fuel 13 1) (bodyOf Tryd.prog 125) [1, 0, 1, 0] 16 (endK Tryd.prog 2 1 125))))) fuel a287 a288).trans (congrFun (congrFun (congrFun (congr (congr (Eq.refl (plcAppF_l1 (R := Out) fuel ws n)) (funext fun x289 => funext fun x290 => (plcAppF_s10_eq fuel  x289 n ws x290))) ((plcAppF_s11_eq fuel  n ws))) fuel) a287) a288)))
theorem tz_at {v k : Nat} (h0 : v ≠ 0) (h : v < 2 ^ 64) (hk : k ≤ 8) : IntKind.i64.wrap (IntKind.i64.wrap ((k : Int) * 64) + tzS (v : Int)) = ((64 * k + Lib.ctz 64 v : Nat) : Int) := by
  obtain ⟨_, _, hc⟩ := parts h0 h
  rw [tzS_eq]
  unfold tzI
  rw [Int.toNat_natCast, wrap_i64 (x := (k : Int) * 64) (by omega) (by omega), wrap_i64 (by omega) (by omega)]
  omega
theorem and_less {v : Nat} (h0 : v ≠ 0) (h : v < 2 ^ 64) : andI .u64 (v : Int) (IntKind.u64.wrap ((v : Int) - 1)) = ((v &&& (v - 1) : Nat) : Int) := by
  have e : (v : Int) - 1 = ((v - 1 : Nat) : Int) := by omega
  rw [e, wrap_u64 (by omega) (by omega), andI_nat (by omega) (by omega) (by omega) (by omega), Int.toNat_natCast, Int.toNat_natCast]
theorem and_lt {v : Nat} (h : v < 2 ^ 64) : v &&& (v - 1) < 2 ^ 64 := Nat.lt_of_le_of_lt Nat.and_le_left h
theorem plcApp_in3 {R : Type} (fuel i : Nat) (hi : i ≤ 8) (ws : List Int) (w73 : Int) (b : Bool) (e n : Int) (k0 : Int → Bool → Nat → List Int → Option R) : ∀ (k v : Nat) (acc : List Int), v < 2 ^ 64 → (bitsAt i v).length < k → acc.length + (bitsAt i v).length ≤ 100000 →
    plcAppF_l3 fuel (i : Int) ws w73 b e n k0 k (v : Int) acc.length acc = k0 0 false (acc ++ bitsAt i v).length (acc ++ bitsAt i v)
  | 0, v, acc, hv, hk, ha => by omega
  | k + 1, v, acc, hv, hk, ha => by
    unfold plcAppF_l3 plcAppF_s4
    rw [br_if]
    by_cases h0 : v = 0
    · subst h0
      rw [if_neg (by decide), bitsAt_zero, List.append_nil]
      rfl
    · have hs := bitsAt_step (k := i) h0 hv
      rw [if_pos (by simp; omega), grd_of (by simp; omega), grd_of (beq_self _), grd_of (okN_of (by omega) (by omega)), tz_at h0 hv hi, and_less h0 hv]
      rw [hs] at hk ha ⊢
      simp only [List.length_cons] at hk ha
      have ih := plcApp_in3 fuel i hi ws w73 b e n k0 k (v &&& (v - 1)) (acc ++ [((64 * i + Lib.ctz 64 v : Nat) : Int)]) (and_lt hv) (by omega) (by simp; omega)
      rw [List.append_assoc] at ih
      exact ih
theorem plcApp_in5 {R : Type} (fuel i : Nat) (hi : i ≤ 8) (ws : List Int) (w73 : Int) (e n : Int) (k0 : Int → Bool → Bool → Nat → List Int → Option R) : ∀ (k v : Nat) (b : Bool) (acc : List Int), v < 2 ^ 64 → (bitsAt i v).length < k → acc.length + (bitsAt i v).length ≤ 100000 →
    plcAppF_l5 fuel (i : Int) ws w73 e n k0 k (v : Int) b acc.length acc = k0 0 b false (acc ++ bitsAt i v).length (acc ++ bitsAt i v)
  | 0, v, b, acc, hv, hk, ha => by omega
  | k + 1, v, b, acc, hv, hk, ha => by
    unfold plcAppF_l5 plcAppF_s7
    rw [br_if]
    by_cases h0 : v = 0
    · subst h0
      rw [if_neg (by decide), bitsAt_zero, List.append_nil]
      rfl
    · have hs := bitsAt_step (k := i) h0 hv
      rw [if_pos (by simp; omega), grd_of (by simp; omega), grd_of (beq_self _), grd_of (okN_of (by omega) (by omega)), tz_at h0 hv hi, and_less h0 hv]
      rw [hs] at hk ha ⊢
      simp only [List.length_cons] at hk ha
      have ih := plcApp_in5 fuel i hi ws w73 e n k0 k (v &&& (v - 1)) b (acc ++ [((64 * i + Lib.ctz 64 v : Nat) : Int)]) (and_lt hv) (by omega) (by simp; omega)
      rw [List.append_assoc] at ih
      exact ih
theorem word_get {ws : List Int} (hok : Ok ws) {i : Nat} (hi : i < ws.length) : ix ws (i : Int) = some (((ws.getD i 0).toNat : Nat) : Int) ∧ (ws.getD i 0).toNat < 2 ^ 64 := by
  have hg := hok.getD i
  refine ⟨?_, by omega⟩
  rw [ix_nat, List.getElem?_eq_getElem hi]
  congr 1
  have : ws.getD i 0 = ws[i] := by rw [List.getD_eq_getElem?_getD, List.getElem?_eq_getElem hi]; rfl
  rw [← this]; omega
theorem plcApp_out4 {R : Type} (fuel : Nat) (hf : 66 ≤ fuel) (ws : List Int) (hok : Ok ws) (hl : ws.length ≤ 8) (n : Int) (k0 : Nat → List Int → Option R) : ∀ (k i : Nat) (acc : List Int), i ≤ ws.length → ws.length < i + k → acc.length ≤ 64 * i →
    plcAppF_l4 fuel ws (ws.length : Int) n k0 k (i : Int) acc.length acc = k0 (acc ++ wordsFrom ws (ws.length - i) i).length (acc ++ wordsFrom ws (ws.length - i) i)
  | 0, i, acc, h1, h2, h3 => by omega
  | k + 1, i, acc, h1, h2, h3 => by
    unfold plcAppF_l4 plcAppF_s6
    rw [br_if]
    by_cases hc : i < ws.length
    · obtain ⟨hg, hlt⟩ := word_get hok hc
      have hb := bitsAt_len i (ws.getD i 0).toNat
      rw [if_pos (by simpa using hc), bnd_of hg]
      dsimp only
      rw [plcApp_in5 fuel i (by omega) ws _ _ n _ fuel _ _ acc hlt (by omega) (by omega)]
      unfold plcAppF_s8
      rw [wrap_i64 (by omega) (by omega), show (i : Int) + 1 = ((i + 1 : Nat) : Int) by omega, show ws.length - i = (ws.length - (i + 1)) + 1 by omega, wordsFrom, ← List.append_assoc]
      exact plcApp_out4 fuel hf ws hok hl n k0 k (i + 1) _ (by omega) (by omega) (by rw [List.length_append]; omega)
    · rw [if_neg (by simpa using hc), show ws.length - i = 0 by omega, wordsFrom, List.append_nil]
theorem plcApp_first {R : Type} (fuel : Nat) (hf : 66 ≤ fuel) (ws : List Int) (hok : Ok ws) (hl : ws.length ≤ 8) (n : Int) (k0 : Nat → List Int → Option R) (k1 : Option R) : ∀ (k i : Nat), i ≤ ws.length → ws.length < i + k →
    plcAppF_l1 fuel ws n k0 k1 k (ws.length : Int) (i : Int) = if wordsFrom ws (ws.length - i) i = [] then k1 else k0 (wordsFrom ws (ws.length - i) i).length (wordsFrom ws (ws.length - i) i)
  | 0, i, h1, h2 => by omega
  | k + 1, i, h1, h2 => by
    unfold plcAppF_l1 plcAppF_s2
    rw [br_if]
    by_cases hc : i < ws.length
    · obtain ⟨hg, hlt⟩ := word_get hok hc
      have hb := bitsAt_len i (ws.getD i 0).toNat
      rw [if_pos (by simpa using hc), bnd_of hg]
      dsimp only
      obtain ⟨f, rfl⟩ : ∃ f, fuel = f + 1 := ⟨fuel - 1, by omega⟩
      unfold plcAppF_l2 plcAppF_s3
      dsimp only
      rw [br_if, show ws.length - i = (ws.length - (i + 1)) + 1 by omega, wordsFrom]
      have hw1 : IntKind.i64.wrap ((i : Int) + 1) = ((i + 1 : Nat) : Int) := by rw [wrap_i64 (by omega) (by omega)]; omega
      clear hg
      generalize (ws.getD i 0).toNat = v at *
      by_cases h0 : v = 0
      · rw [h0, if_neg (by decide), bitsAt_zero, List.nil_append]
        unfold plcAppF_s9
        rw [hw1]
        exact plcApp_first (f + 1) hf ws hok hl n k0 k1 k (i + 1) (by omega) (by omega)
      · have hs := bitsAt_step (k := i) h0 hlt
        rw [if_pos (by simp; omega), grd_of (by simp; omega), tz_at h0 hlt (by omega), and_less h0 hlt]
        rw [hs, List.length_cons] at hb
        have h3 := fun k0 => plcApp_in3 (R := R) (f + 1) i (by omega) ws (ws.length : Int) (decide ((i : Int) < (ws.length : Int))) ((v : Nat) : Int) n k0 f _ [((64 * i + Lib.ctz 64 v : Nat) : Int)] (and_lt hlt) (by omega) (by simp; omega)
        rw [List.singleton_append, ← hs] at h3
        rw [show [((64 * i + Lib.ctz 64 v : Nat) : Int)].length = 1 from rfl] at h3
        rw [h3]
        unfold plcAppF_s5
        rw [hw1, if_neg (by rw [hs]; simp)]
        exact plcApp_out4 (f + 1) hf ws hok hl n k0 k (i + 1) _ (by omega) (by omega) (by rw [hs, List.length_cons]; omega)
    · rw [if_neg (by simpa using hc), show ws.length - i = 0 by omega, wordsFrom]
      simp
theorem plcApp_fact (n : Int) (ws : List Int) (hg : (okW ws && decide (ws.length ≤ 8) && decide (1 ≤ (plS ws).length)) = true) : Fact Tryd.prog gTab 125 [.s (.slice none 0 0), .fn (.func 126) [] [.ptr 0 2 0 0]] [⟨29, .agg [.s (.int .i64 n), .li .u64 ws], true⟩] (.sl 1 1 0 ((plS ws).length), [some ⟨29, .agg [.s (.int .i64 n), .li .u64 ws], true⟩, some ⟨3, .li .i64 (plS ws), true⟩]) := by
  simp only [Bool.and_eq_true, decide_eq_true_eq] at hg
  obtain ⟨⟨h1, h2⟩, h3⟩ := hg
  refine callN_fact hN hM T_places_ok (n := 100) (mode := mode14) ?_
  rw [plcAppF_eq]
  unfold plcAppF plcAppF_s1
  have h := fun k0 k1 => plcApp_first (R := Out) 100 (by omega) ws (okW_iff.1 h1) h2 n k0 k1 100 0 (by omega) (by omega)
  have e : plS ws = wordsFrom ws (ws.length - 0) 0 := by rw [plS_eq]; rfl
  rw [← e, Int.natCast_zero] at h
  dsimp only
  rw [h, if_neg (by intro h; rw [h] at h3; simp at h3)]
  rfl
noncomputable def plcApp_ent : List V → List Blk → Option (Bool × Out)
  | [.s (.slice none 0 0), .fn (.func 126) [] [.ptr 0 2 0 0]], [⟨29, .agg [.s (.int .i64 n), .li .u64 ws], true⟩] => some ((okW ws && decide (ws.length ≤ 8) && decide (1 ≤ (plS ws).length)), (.sl 1 1 0 ((plS ws).length), [some ⟨29, .agg [.s (.int .i64 n), .li .u64 ws], true⟩, some ⟨3, .li .i64 (plS ws), true⟩]))
  | _, _ => none
theorem plcApp_ok : ∀ args bs out, plcApp_ent args bs = some (true, out) → Fact Tryd.prog gTab 125 args bs out := by
  intro args bs out h
  unfold plcApp_ent at h
  split at h
  · rename_i n ws
    simp only [Option.some.injEq, Prod.mk.injEq] at h
    obtain ⟨hg, rfl⟩ := h
    exact plcApp_fact n ws hg
  · cases h
noncomputable def T_plcApp : Tbl := Tbl.cons 125 plcApp_ent T_places
theorem T_plcApp_ok : CallOk Tryd.prog gTab T_plcApp := cons_ok T_places_ok plcApp_ok
/-! slices.Collect[int] -/
noncomputable def plcCollF_s1 {R : Type} (ws : List Int) (n : Int) (c0 : Nat → Nat → Int → List Int → List Int → Option R) : Option R :=
  grd (okW ws && decide (ws.length ≤ 8) && decide (1 ≤ (plS ws).length)) <|
  c0 0 ((plS ws).length) n ws (plS ws)
theorem plcCollF_s1_eq (fuel : Nat)  (ws : List Int) (n : Int) : callN Tryd.prog mode14 T_plcApp fuel 70 [.fn (.func 126) [] [.ptr 0 2 0 0]] [⟨29, .agg [.s (.int .i64 n), .li .u64 ws], true⟩] = plcCollF_s1 ws n (fun (a1 : Nat) (a2 : Nat) (a3 : Int) (a4 : List Int) (a5 : List Int) => some (.sl 1 1 a1 a2, [some ⟨29, .agg [.s (.int .i64 a3), .li .u64 a4], true⟩, some ⟨3, .li .i64 a5, true⟩])) := by kernel_rfl
noncomputable def plcCollF {R : Type} (fuel : Nat) (n : Int) (ws : List Int) (r0 : Nat → Nat → Int → List Int → List Int → Option R) : Option R :=
  (plcCollF_s1 ws n (fun (a1 : Nat) (a2 : Nat) (a3 : Int) (a4 : List Int) (a5 : List Int) => r0 a1 a2 a3 a4 a5))
theorem plcCollF_eq (fuel : Nat) (n : Int) (ws : List Int) : callN Tryd.prog mode14 T_plcApp fuel 70 [.fn (.func 126) [] [.ptr 0 2 0 0]] [⟨29, .agg [.s (.int .i64 n), .li .u64 ws], true⟩] = plcCollF fuel n ws (fun (z0 : Nat) (z1 : Nat) (z2 : Int) (z3 : List Int) (z4 : List Int) => some (.sl 1 1 z0 z1, [some ⟨29, .agg [.s (.int .i64 z2), .li .u64 z3], true⟩, some ⟨3, .li .i64 z4, true⟩])) := by
  unfold plcCollF
  exact (plcCollF_s1_eq fuel  ws n)
theorem plcColl_fact (n : Int) (ws : List Int) (hg : (okW ws && decide (ws.length ≤ 8) && decide (1 ≤ (plS ws).length)) = true) : Fact Tryd.prog gTab 70 [.fn (.func 126) [] [.ptr 0 2 0 0]] [⟨29, .agg [.s (.int .i64 n), .li .u64 ws], true⟩] (.sl 1 1 0 ((plS ws).length), [some ⟨29, .agg [.s (.int .i64 n), .li .u64 ws], true⟩, some ⟨3, .li .i64 (plS ws), true⟩]) := by
  refine callN_fact hN hM T_plcApp_ok (n := 0) (mode := mode14) ?_
  rw [plcCollF_eq]
  unfold plcCollF plcCollF_s1
  rw [grd_of hg]
noncomputable def plcColl_ent : List V → List Blk → Option (Bool × Out)
  | [.fn (.func 126) [] [.ptr 0 2 0 0]], [⟨29, .agg [.s (.int .i64 n), .li .u64 ws], true⟩] => some ((okW ws && decide (ws.length ≤ 8) && decide (1 ≤ (plS ws).length)), (.sl 1 1 0 ((plS ws).length), [some ⟨29, .agg [.s (.int .i64 n), .li .u64 ws], true⟩, some ⟨3, .li .i64 (plS ws), true⟩]))
  | _, _ => none
theorem plcColl_ok : ∀ args bs out, plcColl_ent args bs = some (true, out) → Fact Tryd.prog gTab 70 args bs out := by
  intro args bs out h
  unfold plcColl_ent at h
  split at h
  · rename_i n ws
    simp only [Option.some.injEq, Prod.mk.injEq] at h
    obtain ⟨hg, rfl⟩ := h
    exact plcColl_fact n ws hg
  · cases h
noncomputable def T_plcColl : Tbl := Tbl.cons 70 plcColl_ent T_plcApp
theorem T_plcColl_ok : CallOk Tryd.prog gTab T_plcColl := cons_ok T_plcApp_ok plcColl_ok
noncomputable def plcAF_s1 {R : Type} (ws : List Int) (n : Int) (c0 : Int → Option R) (c1 : List Int → Int → Option R) : Option R :=
  grd (okW ws) <|
  br (!(rtS n ws))
    (c0 1)
    (grd (okW ws && decide (ws.length ≤ 8) && decide (1 ≤ (plS ws).length)) <|
    c1 (((plS ws).drop 0).take ((plS ws).length)) 0)
theorem plcAF_s1_eq (fuel : Nat)  (ws : List Int) (n : Int) : callN Tryd.prog mode14 T_plcColl fuel 17 [.agg [.s (.int .i64 n), .li .u64 ws]] [] = plcAF_s1 ws n (fun (a1 : Int) => some (.tup [.s (.slice none 0 0), .s (.int .i64 a1)], [])) (fun (a2 : List Int) (a3 : Int) => some (.tup [.li .i64 a2, .s (.int .i64 a3)], [])) := by kernel_rfl
noncomputable def plcAF {R : Type} (fuel : Nat) (n : Int) (ws : List Int) (r0 : Int → Option R) (r1 : List Int → Int → Option R) : Option R :=
  (plcAF_s1 ws n (fun (a1 : Int) => r0 a1) (fun (a2 : List Int) (a3 : Int) => r1 a2 a3))
theorem plcAF_eq (fuel : Nat) (n : Int) (ws : List Int) : callN Tryd.prog mode14 T_plcColl fuel 17 [.agg [.s (.int .i64 n), .li .u64 ws]] [] = plcAF fuel n ws (fun (z0 : Int) => some (.tup [.s (.slice none 0 0), .s (.int .i64 z0)], [])) (fun (z0 : List Int) (z1 : Int) => some (.tup [.li .i64 z0, .s (.int .i64 z1)], [])) := by
  unfold plcAF
  exact (plcAF_s1_eq fuel  ws n)
def mode15 : FuncId → Nat := fun f => bif Nat.beq f 70 then 2 else bif Nat.beq f 125 then 2 else bif Nat.beq f 71 then 2 else bif Nat.beq f 17 then 2 else 0
/-! downpour/bitrow.Places -/
noncomputable def PlacesOwnF_s1 {R : Type} (ws : List Int) (n : Int) (c0 : Int → Option R) (c1 : Nat → Nat → Int → List Int → Option R) : Option R :=
  grd (okW ws) <|
  br (!(rtS n ws))
    (c0 1)
    (grd (okW ws && decide (ws.length ≤ 8) && decide (1 ≤ (plS ws).length)) <|
    c1 0 ((plS ws).length) 0 (plS ws))
theorem PlacesOwnF_s1_eq (fuel : Nat)  (ws : List Int) (n : Int) : callN Tryd.prog mode15 T_plcColl fuel 17 [.agg [.s (.int .i64 n), .li .u64 ws]] [] = PlacesOwnF_s1 ws n (fun (a1 : Int) => some (.tup [.s (.slice none 0 0), .s (.int .i64 a1)], [])) (fun (a2 : Nat) (a3 : Nat) (a4 : Int) (a5 : List Int) => some (.tup [.sl 0 1 a2 a3, .s (.int .i64 a4)], [some ⟨3, .li .i64 a5, true⟩])) := by kernel_rfl
noncomputable def PlacesOwnF {R : Type} (fuel : Nat) (n : Int) (ws : List Int) (r0 : Int → Option R) (r1 : Nat → Nat → Int → List Int → Option R) : Option R :=
  (PlacesOwnF_s1 ws n (fun (a1 : Int) => r0 a1) (fun (a2 : Nat) (a3 : Nat) (a4 : Int) (a5 : List Int) => r1 a2 a3 a4 a5))
theorem PlacesOwnF_eq (fuel : Nat) (n : Int) (ws : List Int) : callN Tryd.prog mode15 T_plcColl fuel 17 [.agg [.s (.int .i64 n), .li .u64 ws]] [] = PlacesOwnF fuel n ws (fun (z0 : Int) => some (.tup [.s (.slice none 0 0), .s (.int .i64 z0)], [])) (fun (z0 : Nat) (z1 : Nat) (z2 : Int) (z3 : List Int) => some (.tup [.sl 0 1 z0 z1, .s (.int .i64 z2)], [some ⟨3, .li .i64 z3, true⟩])) := by
  unfold PlacesOwnF
  exact (PlacesOwnF_s1_eq fuel  ws n)
theorem rt_len {n : Int} {ws : List Int} (h : rtS n ws = true) : ws.length ≤ 8 := by
  obtain ⟨⟨_, h1⟩, h2, _⟩ := rtS_iff.1 h
  have := nw_le h1
  omega
theorem PlacesOwn_fact (n : Int) (ws : List Int) (hg : (okW ws && rtS n ws && decide (1 ≤ (plS ws).length)) = true) : Fact Tryd.prog gTab 17 [.agg [.s (.int .i64 n), .li .u64 ws]] [] (.tup [.sl 0 1 0 ((plS ws).length), .s (.int .i64 0)], [some ⟨3, .li .i64 (plS ws), true⟩]) := by
  simp only [Bool.and_eq_true, decide_eq_true_eq] at hg
  obtain ⟨⟨h1, h2⟩, h3⟩ := hg
  have hl := rt_len h2
  refine callN_fact hN hM T_plcColl_ok (n := 0) (mode := mode15) ?_
  rw [PlacesOwnF_eq]
  unfold PlacesOwnF PlacesOwnF_s1
  rw [grd_of h1, br_if, if_neg (by simp [h2]), grd_of (by simp [h1]; omega)]
noncomputable def PlacesOwn_ent : List V → List Blk → Option (Bool × Out)
  | [.agg [.s (.int .i64 n), w0]], [] => (asSl (.int .u64) w0).bind fun ws => some ((okW ws && rtS n ws && decide (1 ≤ (plS ws).length)), (.tup [.sl 0 1 0 ((plS ws).length), .s (.int .i64 0)], [some ⟨3, .li .i64 (plS ws), true⟩]))
  | _, _ => none
theorem PlacesOwn_ok : ∀ args bs out, PlacesOwn_ent args bs = some (true, out) → Fact Tryd.prog gTab 17 args bs out := by
  intro args bs out h
  unfold PlacesOwn_ent at h
  split at h
  · rename_i n w0
    obtain ⟨ws, h_ws, h⟩ := Option.bind_eq_some_iff.1 h
    simp only [Option.some.injEq, Prod.mk.injEq] at h
    obtain ⟨hg, rfl⟩ := h
    exact (PlacesOwn_fact n ws hg).args (fun _ _ _ => fun _ h => RVs_two (fun _ h => RV_agg_two (fun _ h => RVs_two (fun _ h => h) (fun _ h => RVs_two (fun _ h => RV_li h_ws h) (fun _ h => h) h) h) h) (fun _ h => h) h)
  · cases h
noncomputable def T_PlacesOwn : Tbl := Tbl.cons 17 PlacesOwn_ent T_plcColl
theorem T_PlacesOwn_ok : CallOk Tryd.prog gTab T_PlacesOwn := cons_ok T_plcColl_ok PlacesOwn_ok
def mode16 : FuncId → Nat := fun f => bif Nat.beq f 70 then 2 else bif Nat.beq f 125 then 2 else bif Nat.beq f 71 then 2 else 0
/-! slices.AppendSeq[[]int,int] -/
noncomputable def plcApp0F_s4 {R : Type} (w169 : Int) (w171 : List Int) (w170 : Nat) (w74 : Int) (ws : List Int) (w73 : Int) (w150 : Bool) (e149 : Int) (n : Int) (c0 : Int → Nat → List Int → Option R) (c1 : Int → Bool → Nat → List Int → Option R) : Option R :=
  br (w169 != 0)
    (grd (decide (1 ≤ w169) && decide (w169 < 18446744073709551616)) <|
    grd (Nat.beq w171.length w170) <|
    grd (okN (w170 + 1) 8) <|
    c0 (andI .u64 w169 (IntKind.u64.wrap (w169 - 1))) ((w171 ++ [(IntKind.i64.wrap ((IntKind.i64.wrap (w74 * 64)) + (tzS w169)))]).length) (w171 ++ [(IntKind.i64.wrap ((IntKind.i64.wrap (w74 * 64)) + (tzS w169)))]))
    (c1 w169 (w169 != 0) w170 w171)
theorem plcApp0F_s4_eq (fuel : Nat) (k : Nat) (K : Ex → St → Option Out) (w169 : Int) (w171 : List Int) (w170 : Nat) (w74 : Int) (ws : List Int) (w73 : Int) (w150 : Bool) (e149 : Int) (n : Int) : lpN (sub (sub (bodyOf Tryd.prog 126) [1, 0, 0]) [1, 1, 0, 0, 1, 0, 0]) (itX Tryd.prog mode16 T_PlacesOwn fuel 3 28 3 2 (roundK (evC (sub (bodyOf Tryd.prog 125) [1, 0, 1, 0, 0])) (evC (sub (bodyOf Tryd.prog 125) [1, 0, 1, 0, 1])) (fnX Tryd.prog mode16 T_PlacesOwn fuel 13 1) #[7] 3876 [(2, .ptr 1 1 0 0), (4, .s (.slice none 0 0)), (6, .fn (.func 126) [] [.ptr 0 2 0 0])])) 268435417 [0, 3, 4, 6, 7, 8, 9, 10, 11, 12] (k + 1) ⟨[(0, .yl 2), (3, .s (.int .i64 w74)), (4, .s (.int .u64 w169)), (6, .li .u64 ws), (7, .s (.int .i64 w73)), (8, .s (.int .i64 w74)), (9, .s (.bool w150)), (10, .s (.int .i64 w74)), (11, .lp [.s (.int .u64 e149)] 0), (12, .s (.int .u64 e149))], [(0, some ⟨29, .agg [.s (.int .i64 n), .li .u64 ws], true⟩), (1, some ⟨23, .agg [.sl 3 1 0 w170], true⟩), (2, none), (3, some ⟨3, .li .i64 w171, true⟩)], 4, none⟩ K = plcApp0F_s4 w169 w171 w170 w74 ws w73 w150 e149 n (fun (a176 : Int) (a177 : Nat) (a178 : List Int) => lpN (sub (sub (bodyOf Tryd.prog 126) [1, 0, 0]) [1, 1, 0, 0, 1, 0, 0]) (itX Tryd.prog mode16 T_PlacesOwn fuel 3 28 3 2 (roundK (evC (sub (bodyOf Tryd.prog 125) [1, 0, 1, 0, 0])) (evC (sub (bodyOf Tryd.prog 125) [1, 0, 1, 0, 1])) (fnX Tryd.prog mode16 T_PlacesOwn fuel 13 1) #[7] 3876 [(2, .ptr 1 1 0 0), (4, .s (.slice none 0 0)), (6, .fn (.func 126) [] [.ptr 0 2 0 0])])) 268435417 [0, 3, 4, 6, 7, 8, 9, 10, 11, 12] k ⟨[(0, .yl 2), (3, .s (.int .i64 w74)), (4, .s (.int .u64 a176)), (6, .li .u64 ws), (7, .s (.int .i64 w73)), (8, .s (.int .i64 w74)), (9, .s (.bool w150)), (10, .s (.int .i64 w74)), (11, .lp [.s (.int .u64 e149)] 0), (12, .s (.int .u64 e149))], [(0, some ⟨29, .agg [.s (.int .i64 n), .li .u64 ws], true⟩), (1, some ⟨23, .agg [.sl 3 1 0 a177], true⟩), (2, none), (3, some ⟨3, .li .i64 a178, true⟩)], 4, none⟩ K) (fun (a179 : Int) (a180 : Bool) (a181 : Nat) (a182 : List Int) => K (.exit 2) ⟨[(0, .yl 2), (3, .s (.int .i64 w74)), (4, .s (.int .u64 a179)), (6, .li .u64 ws), (7, .s (.int .i64 w73)), (8, .s (.int .i64 w74)), (9, .s (.bool w150)), (10, .s (.int .i64 w74)), (11, .lp [.s (.int .u64 e149)] 0), (12, .s (.int .u64 e149)), (13, .s (.int .u64 a179)), (14, .s (.bool a180))], [(0, some ⟨29, .agg [.s (.int .i64 n), .li .u64 ws], true⟩), (1, some ⟨23, .agg [.sl 3 1 0 a181], true⟩), (2, none), (3, some ⟨3, .li .i64 a182, true⟩)], 4, none⟩) := by kernel_rfl
noncomputable def plcApp0F_l3 {R : Type} (fuel : Nat) (w74 : Int) (ws : List Int) (w73 : Int) (w150 : Bool) (e149 : Int) (n : Int) (k0 : Int → Bool → Nat → List Int → Option R) : Nat → Int → Nat → List Int → Option R
  | 0, _, _, _ => none
  | k + 1, w169, w170, w171 =>
    (plcApp0F_s4 w169 w171 w170 w74 ws w73 w150 e149 n (fun (a176 : Int) (a177 : Nat) (a178 : List Int) => ( plcApp0F_l3 fuel w74 ws w73 w150 e149 n k0 k a176 a177 a178 )) (fun (a179 : Int) (a180 : Bool) (a181 : Nat) (a182 : List Int) => k0 a179 a180 a181 a182))
theorem plcApp0F_l3_eq (fuel : Nat) (w74 : Int) (ws : List Int) (w73 : Int) (w150 : Bool) (e149 : Int) (n : Int) (K : Ex → St → Option Out) : ∀ (k : Nat) (w169 : Int) (w170 : Nat) (w171 : List Int), lpN (sub (sub (bodyOf Tryd.prog 126) [1, 0, 0]) [1, 1, 0, 0, 1, 0, 0]) (itX Tryd.prog mode16 T_PlacesOwn fuel 3 28 3 2 (roundK (evC (sub (bodyOf Tryd.prog 125) [1, 0, 1, 0, 0])) (evC (sub (bodyOf Tryd.prog 125) [1, 0, 1, 0, 1])) (fnX Tryd.prog mode16 T_PlacesOwn fuel 13 1) #[7] 3876 [(2, .ptr 1 1 0 0), (4, .s (.slice none 0 0)), (6, .fn (.func 126) [] [.ptr 0 2 0 0])])) 268435417 [0, 3, 4, 6, 7, 8, 9, 10, 11, 12] k ⟨[(0, .yl 2), (3, .s (.int .i64 w74)), (4, .s (.int .u64 w169)), (6, .li .u64 ws), (7, .s (.int .i64 w73)), (8, .s (.int .i64 w74)), (9, .s (.bool w150)), (10, .s (.int .i64 w74)), (11, .lp [.s (.int .u64 e149)] 0), (12, .s (.int .u64 e149))], [(0, some ⟨29, .agg [.s (.int .i64 n), .li .u64 ws], true⟩), (1, some ⟨23, .agg [.sl 3 1 0 w170], true⟩), (2, none), (3, some ⟨3, .li .i64 w171, true⟩)], 4, none⟩ K = plcApp0F_l3 fuel w74 ws w73 w150 e149 n (fun (y172 : Int) (y173 : Bool) (y174 : Nat) (y175 : List Int) => K (.exit 2) ⟨[(0, .yl 2), (3, .s (.int .i64 w74)), (4, .s (.int .u64 y172)), (6, .li .u64 ws), (7, .s (.int .i64 w73)), (8, .s (.int .i64 w74)), (9, .s (.bool w150)), (10, .s (.int .i64 w74)), (11, .lp [.s (.int .u64 e149)] 0), (12, .s (.int .u64 e149)), (13, .s (.int .u64 y172)), (14, .s (.bool y173))], [(0, some ⟨29, .agg [.s (.int .i64 n), .li .u64 ws], true⟩), (1, some ⟨23, .agg [.sl 3 1 0 y174], true⟩), (2, none), (3, some ⟨3, .li .i64 y175, true⟩)], 4, none⟩) k w169 w170 w171
  | 0, _, _, _ => rfl
  | k + 1, w169, w170, w171 => by
    unfold plcApp0F_l3
    exact (plcApp0F_s4_eq fuel k K w169 w171 w170 w74 ws w73 w150 e149 n).trans (congr (congr (Eq.refl (plcApp0F_s4 (R := Out) w169 w171 w170 w74 ws w73 w150 e149 n)) (funext fun a176 => funext fun a177 => funext fun a178 => plcApp0F_l3_eq fuel w74 ws w73 w150 e149 n K k a176 a177 a178)) (rfl))
noncomputable def plcApp0F_s3 {R : Type} (e149 : Int) (w74 : Int) (w150 : Bool) (ws : List Int) (w73 : Int) (n : Int) (c0 : Int → Nat → List Int → Option R) (c1 : Bool → Bool → Option R) : Option R :=
  br (e149 != 0)
    (grd (decide (1 ≤ e149) && decide (e149 < 18446744073709551616)) <|
    c0 (andI .u64 e149 (IntKind.u64.wrap (e149 - 1))) 1 ([(IntKind.i64.wrap ((IntKind.i64.wrap (w74 * 64)) + (tzS e149)))]))
    (c1 w150 (e149 != 0))
theorem plcApp0F_s3_eq (fuel : Nat) (k : Nat) (K : Ex → St → Option Out) (e149 : Int) (w74 : Int) (w150 : Bool) (ws : List Int) (w73 : Int) (n : Int) : lpN (sub (sub (bodyOf Tryd.prog 126) [1, 0, 0]) [1, 1, 0, 0, 1, 0, 0]) (itX Tryd.prog mode16 T_PlacesOwn fuel 3 28 3 2 (roundK (evC (sub (bodyOf Tryd.prog 125) [1, 0, 1, 0, 0])) (evC (sub (bodyOf Tryd.prog 125) [1, 0, 1, 0, 1])) (fnX Tryd.prog mode16 T_PlacesOwn fuel 13 1) #[7] 3876 [(2, .ptr 1 1 0 0), (4, .s (.slice none 0 0)), (6, .fn (.func 126) [] [.ptr 0 2 0 0])])) 268435417 [0, 3, 4, 6, 7, 8, 9, 10, 11, 12] (k + 1) ⟨[(0, .yl 2), (3, .s (.int .i64 w74)), (4, .s (.int .u64 e149)), (6, .li .u64 ws), (7, .s (.int .i64 w73)), (8, .s (.int .i64 w74)), (9, .s (.bool w150)), (10, .s (.int .i64 w74)), (11, .lp [.s (.int .u64 e149)] 0), (12, .s (.int .u64 e149))], [(0, some ⟨29, .agg [.s (.int .i64 n), .li .u64 ws], true⟩), (1, some ⟨23, .agg [.s (.slice none 0 0)], true⟩), (2, none)], 3, none⟩ K = plcApp0F_s3 e149 w74 w150 ws w73 n (fun (a183 : Int) (a184 : Nat) (a185 : List Int) => lpN (sub (sub (bodyOf Tryd.prog 126) [1, 0, 0]) [1, 1, 0, 0, 1, 0, 0]) (itX Tryd.prog mode16 T_PlacesOwn fuel 3 28 3 2 (roundK (evC (sub (bodyOf Tryd.prog 125) [1, 0, 1, 0, 0])) (evC (sub (bodyOf Tryd.prog 125) [1, 0, 1, 0, 1])) (fnX Tryd.prog mode16 T_PlacesOwn fuel 13 1) #[7] 3876 [(2, .ptr 1 1 0 0), (4, .s (.slice none 0 0)), (6, .fn (.func 126) [] [.ptr 0 2 0 0])])) 268435417 [0, 3, 4, 6, 7, 8, 9, 10, 11, 12] k ⟨[(0, .yl 2), (3, .s (.int .i64 w74)), (4, .s (.int .u64 a183)), (6, .li .u64 ws), (7, .s (.int .i64 w73)), (8, .s (.int .i64 w74)), (9, .s (.bool w150)), (10, .s (.int .i64 w74)), (11, .lp [.s (.int .u64 e149)] 0), (12, .s (.int .u64 e149))], [(0, some ⟨29, .agg [.s (.int .i64 n), .li .u64 ws], true⟩), (1, some ⟨23, .agg [.sl 3 1 0 a184], true⟩), (2, none), (3, some ⟨3, .li .i64 a185, true⟩)], 4, none⟩ K) (fun (a190 : Bool) (a191 : Bool) => K (.exit 2) ⟨[(0, .yl 2), (3, .s (.int .i64 w74)), (4, .s (.int .u64 e149)), (6, .li .u64 ws), (7, .s (.int .i64 w73)), (8, .s (.int .i64 w74)), (9, .s (.bool a190)), (10, .s (.int .i64 w74)), (11, .lp [.s (.int .u64 e149)] 0), (12, .s (.int .u64 e149)), (13, .s (.int .u64 e149)), (14, .s (.bool a191))], [(0, some ⟨29, .agg [.s (.int .i64 n), .li .u64 ws], true⟩), (1, some ⟨23, .agg [.s (.slice none 0 0)], true⟩), (2, none)], 3, none⟩) := by kernel_rfl
noncomputable def plcApp0F_l2 {R : Type} (fuel : Nat) (w74 : Int) (e149 : Int) (ws : List Int) (w73 : Int) (n : Int) (k0 : Int → Bool → Bool → Nat → List Int → Option R) (k1 : Bool → Bool → Option R) : Nat → Bool → Option R
  | 0, _ => none
  | k + 1, w150 =>
    (plcApp0F_s3 e149 w74 w150 ws w73 n (fun (a183 : Int) (a184 : Nat) (a185 : List Int) => (plcApp0F_l3 fuel w74 ws w73 w150 e149 n (fun (x186 : Int) (x187 : Bool) (x188 : Nat) (x189 : List Int) => k0 x186 w150 x187 x188 x189) k a183 a184 a185)) (fun (a190 : Bool) (a191 : Bool) => k1 a190 a191))
theorem plcApp0F_l2_eq (fuel : Nat) (w74 : Int) (e149 : Int) (ws : List Int) (w73 : Int) (n : Int) (K : Ex → St → Option Out) : ∀ (k : Nat) (w150 : Bool), lpN (sub (sub (bodyOf Tryd.prog 126) [1, 0, 0]) [1, 1, 0, 0, 1, 0, 0]) (itX Tryd.prog mode16 T_PlacesOwn fuel 3 28 3 2 (roundK (evC (sub (bodyOf Tryd.prog 125) [1, 0, 1, 0, 0])) (evC (sub (bodyOf Tryd.prog 125) [1, 0, 1, 0, 1])) (fnX Tryd.prog mode16 T_PlacesOwn fuel 13 1) #[7] 3876 [(2, .ptr 1 1 0 0), (4, .s (.slice none 0 0)), (6, .fn (.func 126) [] [.ptr 0 2 0 0])])) 268435417 [0, 3, 4, 6, 7, 8, 9, 10, 11, 12] k ⟨[(0, .yl 2), (3, .s (.int .i64 w74)), (4, .s (.int .u64 e149)), (6, .li .u64 ws), (7, .s (.int .i64 w73)), (8, .s (.int .i64 w74)), (9, .s (.bool w150)), (10, .s (.int .i64 w74)), (11, .lp [.s (.int .u64 e149)] 0), (12, .s (.int .u64 e149))], [(0, some ⟨29, .agg [.s (.int .i64 n), .li .u64 ws], true⟩), (1, some ⟨23, .agg [.s (.slice none 0 0)], true⟩), (2, none)], 3, none⟩ K = plcApp0F_l2 fuel w74 e149 ws w73 n (fun (y160 : Int) (y161 : Bool) (y162 : Bool) (y163 : Nat) (y164 : List Int) => K (.exit 2) ⟨[(0, .yl 2), (3, .s (.int .i64 w74)), (4, .s (.int .u64 y160)), (6, .li .u64 ws), (7, .s (.int .i64 w73)), (8, .s (.int .i64 w74)), (9, .s (.bool y161)), (10, .s (.int .i64 w74)), (11, .lp [.s (.int .u64 e149)] 0), (12, .s (.int .u64 e149)), (13, .s (.int .u64 y160)), (14, .s (.bool y162))], [(0, some ⟨29, .agg [.s (.int .i64 n), .li .u64 ws], true⟩), (1, some ⟨23, .agg [.sl 3 1 0 y163], true⟩), (2, none), (3, some ⟨3, .li .i64 y164, true⟩)], 4, none⟩) (fun (y165 : Bool) (y166 : Bool) => K (.exit 2) ⟨[(0, .yl 2), (3, .s (.int .i64 w74)), (4, .s (.int .u64 e149)), (6, .li .u64 ws), (7, .s (.int .i64 w73)), (8, .s (.int .i64 w74)), (9, .s (.bool y165)), (10, .s (.int .i64 w74)), (11, .lp [.s (.int .u64 e149)] 0), (12, .s (.int .u64 e149)), (13, .s (.int .u64 e149)), (14, .s (.bool y166))], [(0, some ⟨29, .agg [.s (.int .i64 n), .li .u64 ws], true⟩), (1, some ⟨23, .agg [.s (.slice none 0 0)], true⟩), (2, none)], 3, none⟩) k w150
  | 0, _ => rfl
  | k + 1, w150 => by
    unfold plcApp0F_l2
    exact (plcApp0F_s3_eq fuel k K e149 w74 w150 ws w73 n).trans (congr (congr (Eq.refl (plcApp0F_s3 (R := Out) e149 w74 w150 ws w73 n)) (funext fun a183 => funext fun a184 => funext fun a185 => plcApp0F_l3_eq fuel w74 ws w73 w150 e149 n K k a183 a184 a185)) (rfl))
noncomputable def plcApp0F_s7 {R : Type} (w246 : Int) (w249 : List Int) (w248 : Nat) (w247 : Bool) (w219 : Int) (ws : List Int) (w73 : Int) (e244 : Int) (n : Int) (c0 : Int → Bool → Nat → List Int → Option R) (c1 : Int → Bool → Bool → Nat → List Int → Option R) : Option R :=
  br (w246 != 0)
    (grd (decide (1 ≤ w246) && decide (w246 < 18446744073709551616)) <|
    grd (Nat.beq w249.length w248) <|
    grd (okN (w248 + 1) 8) <|
    c0 (andI .u64 w246 (IntKind.u64.wrap (w246 - 1))) w247 ((w249 ++ [(IntKind.i64.wrap ((IntKind.i64.wrap (w219 * 64)) + (tzS w246)))]).length) (w249 ++ [(IntKind.i64.wrap ((IntKind.i64.wrap (w219 * 64)) + (tzS w246)))]))
    (c1 w246 w247 (w246 != 0) w248 w249)
theorem plcApp0F_s7_eq (fuel : Nat) (k : Nat) (K : Ex → St → Option Out) (w246 : Int) (w249 : List Int) (w248 : Nat) (w247 : Bool) (w219 : Int) (ws : List Int) (w73 : Int) (e244 : Int) (n : Int) : lpN (sub (sub (bodyOf Tryd.prog 126) [1, 0, 0]) [1, 1, 0, 0, 1, 0, 0]) (itX Tryd.prog mode16 T_PlacesOwn fuel 3 28 3 2 (roundK (evC (sub (bodyOf Tryd.prog 125) [1, 0, 1, 0, 0])) (evC (sub (bodyOf Tryd.prog 125) [1, 0, 1, 0, 1])) (fnX Tryd.prog mode16 T_PlacesOwn fuel 13 1) #[7] 3876 [(2, .ptr 1 1 0 0), (4, .s (.slice none 0 0)), (6, .fn (.func 126) [] [.ptr 0 2 0 0])])) 268435417 [0, 3, 4, 6, 7, 8, 9, 10, 11, 12] (k + 1) ⟨[(0, .yl 2), (3, .s (.int .i64 w219)), (4, .s (.int .u64 w246)), (6, .li .u64 ws), (7, .s (.int .i64 w73)), (8, .s (.int .i64 w219)), (9, .s (.bool w247)), (10, .s (.int .i64 w219)), (11, .lp [.s (.int .u64 e244)] 0), (12, .s (.int .u64 e244))], [(0, some ⟨29, .agg [.s (.int .i64 n), .li .u64 ws], true⟩), (1, some ⟨23, .agg [.sl 3 1 0 w248], true⟩), (2, none), (3, some ⟨3, .li .i64 w249, true⟩)], 4, none⟩ K = plcApp0F_s7 w246 w249 w248 w247 w219 ws w73 e244 n (fun (a255 : Int) (a256 : Bool) (a257 : Nat) (a258 : List Int) => lpN (sub (sub (bodyOf Tryd.prog 126) [1, 0, 0]) [1, 1, 0, 0, 1, 0, 0]) (itX Tryd.prog mode16 T_PlacesOwn fuel 3 28 3 2 (roundK (evC (sub (bodyOf Tryd.prog 125) [1, 0, 1, 0, 0])) (evC (sub (bodyOf Tryd.prog 125) [1, 0, 1, 0, 1])) (fnX Tryd.prog mode16 T_PlacesOwn fuel 13 1) #[7] 3876 [(2, .ptr 1 1 0 0), (4, .s (.slice none 0 0)), (6, .fn (.func 126) [] [.ptr 0 2 0 0])])) 268435417 [0, 3, 4, 6, 7, 8, 9, 10, 11, 12] k ⟨[(0, .yl 2), (3, .s (.int .i64 w219)), (4, .s (.int .u64 a255)), (6, .li .u64 ws), (7, .s (.int .i64 w73)), (8, .s (.int .i64 w219)), (9, .s (.bool a256)), (10, .s (.int .i64 w219)), (11, .lp [.s (.int .u64 e244)] 0), (12, .s (.int .u64 e244))], [(0, some ⟨29, .agg [.s (.int .i64 n), .li .u64 ws], true⟩), (1, some ⟨23, .agg [.sl 3 1 0 a257], true⟩), (2, none), (3, some ⟨3, .li .i64 a258, true⟩)], 4, none⟩ K) (fun (a259 : Int) (a260 : Bool) (a261 : Bool) (a262 : Nat) (a263 : List Int) => K (.exit 2) ⟨[(0, .yl 2), (3, .s (.int .i64 w219)), (4, .s (.int .u64 a259)), (6, .li .u64 ws), (7, .s (.int .i64 w73)), (8, .s (.int .i64 w219)), (9, .s (.bool a260)), (10, .s (.int .i64 w219)), (11, .lp [.s (.int .u64 e244)] 0), (12, .s (.int .u64 e244)), (13, .s (.int .u64 a259)), (14, .s (.bool a261))], [(0, some ⟨29, .agg [.s (.int .i64 n), .li .u64 ws], true⟩), (1, some ⟨23, .agg [.sl 3 1 0 a262], true⟩), (2, none), (3, some ⟨3, .li .i64 a263, true⟩)], 4, none⟩) := by kernel_rfl
noncomputable def plcApp0F_l5 {R : Type} (fuel : Nat) (w219 : Int) (ws : List Int) (w73 : Int) (e244 : Int) (n : Int) (k0 : Int → Bool → Bool → Nat → List Int → Option R) : Nat → Int → Bool → Nat → List Int → Option R
  | 0, _, _, _, _ => none
  | k + 1, w246, w247, w248, w249 =>
    (plcApp0F_s7 w246 w249 w248 w247 w219 ws w73 e244 n (fun (a255 : Int) (a256 : Bool) (a257 : Nat) (a258 : List Int) => ( plcApp0F_l5 fuel w219 ws w73 e244 n k0 k a255 a256 a257 a258 )) (fun (a259 : Int) (a260 : Bool) (a261 : Bool) (a262 : Nat) (a263 : List Int) => k0 a259 a260 a261 a262 a263))
theorem plcApp0F_l5_eq (fuel : Nat) (w219 : Int) (ws : List Int) (w73 : Int) (e244 : Int) (n : Int) (K : Ex → St → Option Out) : ∀ (k : Nat) (w246 : Int) (w247 : Bool) (w248 : Nat) (w249 : List Int), lpN (sub (sub (bodyOf Tryd.prog 126) [1, 0, 0]) [1, 1, 0, 0, 1, 0, 0]) (itX Tryd.prog mode16 T_PlacesOwn fuel 3 28 3 2 (roundK (evC (sub (bodyOf Tryd.prog 125) [1, 0, 1, 0, 0])) (evC (sub (bodyOf Tryd.prog 125) [1, 0, 1, 0, 1])) (fnX Tryd.prog mode16 T_PlacesOwn fuel 13 1) #[7] 3876 [(2, .ptr 1 1 0 0), (4, .s (.slice none 0 0)), (6, .fn (.func 126) [] [.ptr 0 2 0 0])])) 268435417 [0, 3, 4, 6, 7, 8, 9, 10, 11, 12] k ⟨[(0, .yl 2), (3, .s (.int .i64 w219)), (4, .s (.int .u64 w246)), (6, .li .u64 ws), (7, .s (.int .i64 w73)), (8, .s (.int .i64 w219)), (9, .s (.bool w247)), (10, .s (.int .i64 w219)), (11, .lp [.s (.int .u64 e244)] 0), (12, .s (.int .u64 e244))], [(0, some ⟨29, .agg [.s (.int .i64 n), .li .u64 ws], true⟩), (1, some ⟨23, .agg [.sl 3 1 0 w248], true⟩), (2, none), (3, some ⟨3, .li .i64 w249, true⟩)], 4, none⟩ K = plcApp0F_l5 fuel w219 ws w73 e244 n (fun (y250 : Int) (y251 : Bool) (y252 : Bool) (y253 : Nat) (y254 : List Int) => K (.exit 2) ⟨[(0, .yl 2), (3, .s (.int .i64 w219)), (4, .s (.int .u64 y250)), (6, .li .u64 ws), (7, .s (.int .i64 w73)), (8, .s (.int .i64 w219)), (9, .s (.bool y251)), (10, .s (.int .i64 w219)), (11, .lp [.s (.int .u64 e244)] 0), (12, .s (.int .u64 e244)), (13, .s (.int .u64 y250)), (14, .s (.bool y252))], [(0, some ⟨29, .agg [.s (.int .i64 n), .li .u64 ws], true⟩), (1, some ⟨23, .agg [.sl 3 1 0 y253], true⟩), (2, none), (3, some ⟨3, .li .i64 y254, true⟩)], 4, none⟩) k w246 w247 w248 w249
  | 0, _, _, _, _ => rfl
  | k + 1, w246, w247, w248, w249 => by
    unfold plcApp0F_l5
    exact (plcApp0F_s7_eq fuel k K w246 w249 w248 w247 w219 ws w73 e244 n).trans (congr (congr (Eq.refl (plcApp0F_s7 (R := Out) w246 w249 w248 w247 w219 ws w73 e244 n)) (funext fun a255 => funext fun a256 => funext fun a257 => funext fun a258 => plcApp0F_l5_eq fuel w219 ws w73 e244 n K k a255 a256 a257 a258)) (rfl))
noncomputable def plcApp0F_s8 {R : Type} (w219 : Int) (x271 : Nat) (x272 : List Int) (x268 : Int) (ws : List Int) (w73 : Int) (x269 : Bool) (e244 : Int) (x270 : Bool) (n : Int) (c0 : Int → Nat → List Int → Option R) : Option R :=
  c0 (IntKind.i64.wrap (w219 + 1)) x271 x272
theorem plcApp0F_s8_eq (fuel : Nat) (k : Nat) (K : Ex → St → Option Out) (w219 : Int) (x271 : Nat) (x272 : List Int) (x268 : Int) (ws : List Int) (w73 : Int) (x269 : Bool) (e244 : Int) (x270 : Bool) (n : Int) : (kont (itX Tryd.prog mode16 T_PlacesOwn fuel 3 28 3 2 (roundK (evC (sub (bodyOf Tryd.prog 125) [1, 0, 1, 0, 0])) (evC (sub (bodyOf Tryd.prog 125) [1, 0, 1, 0, 1])) (fnX Tryd.prog mode16 T_PlacesOwn fuel 13 1) #[7] 3876 [(2, .ptr 1 1 0 0), (4, .s (.slice none 0 0)), (6, .fn (.func 126) [] [.ptr 0 2 0 0])])) (sub (bodyOf Tryd.prog 126) [1, 0, 0]) [1, 1, 0, 0, 1, 0] 268435417 (rdK (sub (bodyOf Tryd.prog 126) [1, 0, 0]) (itX Tryd.prog mode16 T_PlacesOwn fuel 3 28 3 2 (roundK (evC (sub (bodyOf Tryd.prog 125) [1, 0, 1, 0, 0])) (evC (sub (bodyOf Tryd.prog 125) [1, 0, 1, 0, 1])) (fnX Tryd.prog mode16 T_PlacesOwn fuel 13 1) #[7] 3876 [(2, .ptr 1 1 0 0), (4, .s (.slice none 0 0)), (6, .fn (.func 126) [] [.ptr 0 2 0 0])])) 0 [0, 6, 7, 8] k K)) (.exit 2) ⟨[(0, .yl 2), (3, .s (.int .i64 w219)), (4, .s (.int .u64 x268)), (6, .li .u64 ws), (7, .s (.int .i64 w73)), (8, .s (.int .i64 w219)), (9, .s (.bool x269)), (10, .s (.int .i64 w219)), (11, .lp [.s (.int .u64 e244)] 0), (12, .s (.int .u64 e244)), (13, .s (.int .u64 x268)), (14, .s (.bool x270))], [(0, some ⟨29, .agg [.s (.int .i64 n), .li .u64 ws], true⟩), (1, some ⟨23, .agg [.sl 3 1 0 x271], true⟩), (2, none), (3, some ⟨3, .li .i64 x272, true⟩)], 4, none⟩ = plcApp0F_s8 w219 x271 x272 x268 ws w73 x269 e244 x270 n (fun (a273 : Int) (a274 : Nat) (a275 : List Int) => lpN (sub (bodyOf Tryd.prog 126) [1, 0, 0]) (itX Tryd.prog mode16 T_PlacesOwn fuel 3 28 3 2 (roundK (evC (sub (bodyOf Tryd.prog 125) [1, 0, 1, 0, 0])) (evC (sub (bodyOf Tryd.prog 125) [1, 0, 1, 0, 1])) (fnX Tryd.prog mode16 T_PlacesOwn fuel 13 1) #[7] 3876 [(2, .ptr 1 1 0 0), (4, .s (.slice none 0 0)), (6, .fn (.func 126) [] [.ptr 0 2 0 0])])) 0 [0, 6, 7, 8] k ⟨[(0, .yl 2), (6, .li .u64 ws), (7, .s (.int .i64 w73)), (8, .s (.int .i64 a273))], [(0, some ⟨29, .agg [.s (.int .i64 n), .li .u64 ws], true⟩), (1, some ⟨23, .agg [.sl 3 1 0 a274], true⟩), (2, none), (3, some ⟨3, .li .i64 a275, true⟩)], 4, none⟩ K) := by kernel_rfl
noncomputable def plcApp0F_s6 {R : Type} (w219 : Int) (w73 : Int) (ws : List Int) (w220 : Nat) (w221 : List Int) (n : Int) (c0 : Int → Bool → Nat → List Int → Int → Option R) (c1 : Nat → List Int → Option R) : Option R :=
  br (decide (w219 < w73))
    (bnd (ix ws w219) fun e244 =>
    c0 e244 (decide (w219 < w73)) w220 w221 e244)
    (c1 w220 w221)
theorem plcApp0F_s6_eq (fuel : Nat) (k : Nat) (K : Ex → St → Option Out) (w219 : Int) (w73 : Int) (ws : List Int) (w220 : Nat) (w221 : List Int) (n : Int) : lpN (sub (bodyOf Tryd.prog 126) [1, 0, 0]) (itX Tryd.prog mode16 T_PlacesOwn fuel 3 28 3 2 (roundK (evC (sub (bodyOf Tryd.prog 125) [1, 0, 1, 0, 0])) (evC (sub (bodyOf Tryd.prog 125) [1, 0, 1, 0, 1])) (fnX Tryd.prog mode16 T_PlacesOwn fuel 13 1) #[7] 3876 [(2, .ptr 1 1 0 0), (4, .s (.slice none 0 0)), (6, .fn (.func 126) [] [.ptr 0 2 0 0])])) 0 [0, 6, 7, 8] (k + 1) ⟨[(0, .yl 2), (6, .li .u64 ws), (7, .s (.int .i64 w73)), (8, .s (.int .i64 w219))], [(0, some ⟨29, .agg [.s (.int .i64 n), .li .u64 ws], true⟩), (1, some ⟨23, .agg [.sl 3 1 0 w220], true⟩), (2, none), (3, some ⟨3, .li .i64 w221, true⟩)], 4, none⟩ K = plcApp0F_s6 w219 w73 ws w220 w221 n (fun (a264 : Int) (a265 : Bool) (a266 : Nat) (a267 : List Int) (e244 : Int) => lpN (sub (sub (bodyOf Tryd.prog 126) [1, 0, 0]) [1, 1, 0, 0, 1, 0, 0]) (itX Tryd.prog mode16 T_PlacesOwn fuel 3 28 3 2 (roundK (evC (sub (bodyOf Tryd.prog 125) [1, 0, 1, 0, 0])) (evC (sub (bodyOf Tryd.prog 125) [1, 0, 1, 0, 1])) (fnX Tryd.prog mode16 T_PlacesOwn fuel 13 1) #[7] 3876 [(2, .ptr 1 1 0 0), (4, .s (.slice none 0 0)), (6, .fn (.func 126) [] [.ptr 0 2 0 0])])) 268435417 [0, 3, 4, 6, 7, 8, 9, 10, 11, 12] fuel ⟨[(0, .yl 2), (3, .s (.int .i64 w219)), (4, .s (.int .u64 a264)), (6, .li .u64 ws), (7, .s (.int .i64 w73)), (8, .s (.int .i64 w219)), (9, .s (.bool a265)), (10, .s (.int .i64 w219)), (11, .lp [.s (.int .u64 e244)] 0), (12, .s (.int .u64 e244))], [(0, some ⟨29, .agg [.s (.int .i64 n), .li .u64 ws], true⟩), (1, some ⟨23, .agg [.sl 3 1 0 a266], true⟩), (2, none), (3, some ⟨3, .li .i64 a267, true⟩)], 4, none⟩ (kont (itX Tryd.prog mode16 T_PlacesOwn fuel 3 28 3 2 (roundK (evC (sub (bodyOf Tryd.prog 125) [1, 0, 1, 0, 0])) (evC (sub (bodyOf Tryd.prog 125) [1, 0, 1, 0, 1])) (fnX Tryd.prog mode16 T_PlacesOwn fuel 13 1) #[7] 3876 [(2, .ptr 1 1 0 0), (4, .s (.slice none 0 0)), (6, .fn (.func 126) [] [.ptr 0 2 0 0])])) (sub (bodyOf Tryd.prog 126) [1, 0, 0]) [1, 1, 0, 0, 1, 0] 268435417 (rdK (sub (bodyOf Tryd.prog 126) [1, 0, 0]) (itX Tryd.prog mode16 T_PlacesOwn fuel 3 28 3 2 (roundK (evC (sub (bodyOf Tryd.prog 125) [1, 0, 1, 0, 0])) (evC (sub (bodyOf Tryd.prog 125) [1, 0, 1, 0, 1])) (fnX Tryd.prog mode16 T_PlacesOwn fuel 13 1) #[7] 3876 [(2, .ptr 1 1 0 0), (4, .s (.slice none 0 0)), (6, .fn (.func 126) [] [.ptr 0 2 0 0])])) 0 [0, 6, 7, 8] k K))) (fun (a276 : Nat) (a277 : List Int) => K (.exit 0) ⟨[], [(0, some ⟨29, .agg [.s (.int .i64 n), .li .u64 ws], true⟩), (1, some ⟨23, .agg [.sl 3 1 0 a276], true⟩), (2, none), (3, some ⟨3, .li .i64 a277, true⟩)], 4, none⟩) := by kernel_rfl
noncomputable def plcApp0F_l4 {R : Type} (fuel : Nat) (ws : List Int) (w73 : Int) (n : Int) (k0 : Nat → List Int → Option R) : Nat → Int → Nat → List Int → Option R
  | 0, _, _, _ => none
  | k + 1, w219, w220, w221 =>
    (plcApp0F_s6 w219 w73 ws w220 w221 n (fun (a264 : Int) (a265 : Bool) (a266 : Nat) (a267 : List Int) (e244 : Int) => (plcApp0F_l5 fuel w219 ws w73 e244 n (fun (x268 : Int) (x269 : Bool) (x270 : Bool) (x271 : Nat) (x272 : List Int) => (plcApp0F_s8 w219 x271 x272 x268 ws w73 x269 e244 x270 n (fun (a273 : Int) (a274 : Nat) (a275 : List Int) => ( plcApp0F_l4 fuel ws w73 n k0 k a273 a274 a275 )))) fuel a264 a265 a266 a267)) (fun (a276 : Nat) (a277 : List Int) => k0 a276 a277))
theorem plcApp0F_l4_eq (fuel : Nat) (ws : List Int) (w73 : Int) (n : Int) (K : Ex → St → Option Out) : ∀ (k : Nat) (w219 : Int) (w220 : Nat) (w221 : List Int), lpN (sub (bodyOf Tryd.prog 126) [1, 0, 0]) (itX Tryd.prog mode16 T_PlacesOwn fuel 3 28 3 2 (roundK (evC (sub (bodyOf Tryd.prog 125) [1, 0, 1, 0, 0])) (evC (sub (bodyOf Tryd.prog 125) [1, 0, 1, 0, 1])) (fnX Tryd.prog mode16 T_PlacesOwn fuel 13 1) #[7] 3876 [(2, .ptr 1 1 0 0), (4, .s (.slice none 0 0)), (6, .fn (.func 126) [] [.ptr 0 2 0 0])])) 0 [0, 6, 7, 8] k ⟨[(0, .yl 2), (6, .li .u64 ws), (7, .s (.int .i64 w73)), (8, .s (.int .i64 w219))], [(0, some ⟨29, .agg [.s (.int .i64 n), .li .u64 ws], true⟩), (1, some ⟨23, .agg [.sl 3 1 0 w220], true⟩), (2, none), (3, some ⟨3, .li .i64 w221, true⟩)], 4, none⟩ K = plcApp0F_l4 fuel ws w73 n (fun (y242 : Nat) (y243 : List Int) => K (.exit 0) ⟨[], [(0, some ⟨29, .agg [.s (.int .i64 n), .li .u64 ws], true⟩), (1, some ⟨23, .agg [.sl 3 1 0 y242], true⟩), (2, none), (3, some ⟨3, .li .i64 y243, true⟩)], 4, none⟩) k w219 w220 w221
  | 0, _, _, _ => rfl
  | k + 1, w219, w220, w221 => by
    unfold plcApp0F_l4
    exact (plcApp0F_s6_eq fuel k K w219 w73 ws w220 w221 n).trans (congr (congr (Eq.refl (plcApp0F_s6 (R := Out) w219 w73 ws w220 w221 n)) (funext fun a264 => funext fun a265 => funext fun a266 => funext fun a267 => funext fun e244 => (plcApp0F_l5_eq fuel w219 ws w73 e244 n (kont (itX Tryd.prog mode16 T_PlacesOwn fuel 3 28 3 2 (roundK (evC (sub (bodyOf Tryd.prog 125) [1, 0, 1, 0, 0])) (evC (sub (bodyOf Tryd.prog 125) [1, 0, 1, 0, 1])) (fnX Tryd.prog mode16 T_PlacesOwn fuel 13 1) #[7] 3876 [(2, .ptr 1 1 0 0), (4, .s (.slice none 0 0)), (6, .fn (.func 126) [] [.ptr 0 2 0 0])])) (sub (bodyOf Tryd.prog 126) [1, 0, 0]) [1, 1, 0, 0, 1, 0] 268435417 (rdK (sub (bodyOf Tryd.prog 126) [1, 0, 0]) (itX Tryd.prog mode16 T_PlacesOwn fuel 3 28 3 2 (roundK (evC (sub (bodyOf Tryd.prog 125) [1, 0, 1, 0, 0])) (evC (sub (bodyOf Tryd.prog 125) [1, 0, 1, 0, 1])) (fnX Tryd.prog mode16 T_PlacesOwn fuel 13 1) #[7] 3876 [(2, .ptr 1 1 0 0), (4, .s (.slice none 0 0)), (6, .fn (.func 126) [] [.ptr 0 2 0 0])])) 0 [0, 6, 7, 8] k K)) fuel a264 a265 a266 a267).trans (congrFun (congrFun (congrFun (congrFun (congrFun (congr (Eq.refl (plcApp0F_l5 (R := Out) fuel w219 ws w73 e244 n)) (funext fun x268 => funext fun x269 => funext fun x270 => funext fun x271 => funext fun x272 => (plcApp0F_s8_eq fuel k K w219 x271 x272 x268 ws w73 x269 e244 x270 n).trans (congr (Eq.refl (plcApp0F_s8 (R := Out) w219 x271 x272 x268 ws w73 x269 e244 x270 n)) (funext fun a273 => funext fun a274 => funext fun a275 => plcApp0F_l4_eq fuel ws w73 n K k a273 a274 a275)))) fuel) a264) a265) a266) a267))) (rfl))
noncomputable def plcApp0F_s5 {R : Type} (w74 : Int) (x196 : Nat) (x197 : List Int) (x193 : Int) (ws : List Int) (w73 : Int) (x194 : Bool) (e149 : Int) (x195 : Bool) (n : Int) (c0 : Int → Nat → List Int → Option R) : Option R :=
  c0 (IntKind.i64.wrap (w74 + 1)) x196 x197
theorem plcApp0F_s5_eq (fuel : Nat) (k : Nat) (K : Ex → St → Option Out) (w74 : Int) (x196 : Nat) (x197 : List Int) (x193 : Int) (ws : List Int) (w73 : Int) (x194 : Bool) (e149 : Int) (x195 : Bool) (n : Int) : (kont (itX Tryd.prog mode16 T_PlacesOwn fuel 3 28 3 2 (roundK (evC (sub (bodyOf Tryd.prog 125) [1, 0, 1, 0, 0])) (evC (sub (bodyOf Tryd.prog 125) [1, 0, 1, 0, 1])) (fnX Tryd.prog mode16 T_PlacesOwn fuel 13 1) #[7] 3876 [(2, .ptr 1 1 0 0), (4, .s (.slice none 0 0)), (6, .fn (.func 126) [] [.ptr 0 2 0 0])])) (sub (bodyOf Tryd.prog 126) [1, 0, 0]) [1, 1, 0, 0, 1, 0] 268435417 (rdK (sub (bodyOf Tryd.prog 126) [1, 0, 0]) (itX Tryd.prog mode16 T_PlacesOwn fuel 3 28 3 2 (roundK (evC (sub (bodyOf Tryd.prog 125) [1, 0, 1, 0, 0])) (evC (sub (bodyOf Tryd.prog 125) [1, 0, 1, 0, 1])) (fnX Tryd.prog mode16 T_PlacesOwn fuel 13 1) #[7] 3876 [(2, .ptr 1 1 0 0), (4, .s (.slice none 0 0)), (6, .fn (.func 126) [] [.ptr 0 2 0 0])])) 0 [0, 6, 7, 8] k K)) (.exit 2) ⟨[(0, .yl 2), (3, .s (.int .i64 w74)), (4, .s (.int .u64 x193)), (6, .li .u64 ws), (7, .s (.int .i64 w73)), (8, .s (.int .i64 w74)), (9, .s (.bool x194)), (10, .s (.int .i64 w74)), (11, .lp [.s (.int .u64 e149)] 0), (12, .s (.int .u64 e149)), (13, .s (.int .u64 x193)), (14, .s (.bool x195))], [(0, some ⟨29, .agg [.s (.int .i64 n), .li .u64 ws], true⟩), (1, some ⟨23, .agg [.sl 3 1 0 x196], true⟩), (2, none), (3, some ⟨3, .li .i64 x197, true⟩)], 4, none⟩ = plcApp0F_s5 w74 x196 x197 x193 ws w73 x194 e149 x195 n (fun (a278 : Int) (a279 : Nat) (a280 : List Int) => lpN (sub (bodyOf Tryd.prog 126) [1, 0, 0]) (itX Tryd.prog mode16 T_PlacesOwn fuel 3 28 3 2 (roundK (evC (sub (bodyOf Tryd.prog 125) [1, 0, 1, 0, 0])) (evC (sub (bodyOf Tryd.prog 125) [1, 0, 1, 0, 1])) (fnX Tryd.prog mode16 T_PlacesOwn fuel 13 1) #[7] 3876 [(2, .ptr 1 1 0 0), (4, .s (.slice none 0 0)), (6, .fn (.func 126) [] [.ptr 0 2 0 0])])) 0 [0, 6, 7, 8] k ⟨[(0, .yl 2), (6, .li .u64 ws), (7, .s (.int .i64 w73)), (8, .s (.int .i64 a278))], [(0, some ⟨29, .agg [.s (.int .i64 n), .li .u64 ws], true⟩), (1, some ⟨23, .agg [.sl 3 1 0 a279], true⟩), (2, none), (3, some ⟨3, .li .i64 a280, true⟩)], 4, none⟩ K) := by kernel_rfl
noncomputable def plcApp0F_s9 {R : Type} (w73 : Int) (w74 : Int) (e149 : Int) (ws : List Int) (x283 : Bool) (x284 : Bool) (n : Int) (c0 : Int → Int → Option R) : Option R :=
  c0 w73 (IntKind.i64.wrap (w74 + 1))
theorem plcApp0F_s9_eq (fuel : Nat) (k : Nat) (K : Ex → St → Option Out) (w73 : Int) (w74 : Int) (e149 : Int) (ws : List Int) (x283 : Bool) (x284 : Bool) (n : Int) : (kont (itX Tryd.prog mode16 T_PlacesOwn fuel 3 28 3 2 (roundK (evC (sub (bodyOf Tryd.prog 125) [1, 0, 1, 0, 0])) (evC (sub (bodyOf Tryd.prog 125) [1, 0, 1, 0, 1])) (fnX Tryd.prog mode16 T_PlacesOwn fuel 13 1) #[7] 3876 [(2, .ptr 1 1 0 0), (4, .s (.slice none 0 0)), (6, .fn (.func 126) [] [.ptr 0 2 0 0])])) (sub (bodyOf Tryd.prog 126) [1, 0, 0]) [1, 1, 0, 0, 1, 0] 268435417 (rdK (sub (bodyOf Tryd.prog 126) [1, 0, 0]) (itX Tryd.prog mode16 T_PlacesOwn fuel 3 28 3 2 (roundK (evC (sub (bodyOf Tryd.prog 125) [1, 0, 1, 0, 0])) (evC (sub (bodyOf Tryd.prog 125) [1, 0, 1, 0, 1])) (fnX Tryd.prog mode16 T_PlacesOwn fuel 13 1) #[7] 3876 [(2, .ptr 1 1 0 0), (4, .s (.slice none 0 0)), (6, .fn (.func 126) [] [.ptr 0 2 0 0])])) 0 [0, 6, 7, 8] k K)) (.exit 2) ⟨[(0, .yl 2), (3, .s (.int .i64 w74)), (4, .s (.int .u64 e149)), (6, .li .u64 ws), (7, .s (.int .i64 w73)), (8, .s (.int .i64 w74)), (9, .s (.bool x283)), (10, .s (.int .i64 w74)), (11, .lp [.s (.int .u64 e149)] 0), (12, .s (.int .u64 e149)), (13, .s (.int .u64 e149)), (14, .s (.bool x284))], [(0, some ⟨29, .agg [.s (.int .i64 n), .li .u64 ws], true⟩), (1, some ⟨23, .agg [.s (.slice none 0 0)], true⟩), (2, none)], 3, none⟩ = plcApp0F_s9 w73 w74 e149 ws x283 x284 n (fun (a285 : Int) (a286 : Int) => lpN (sub (bodyOf Tryd.prog 126) [1, 0, 0]) (itX Tryd.prog mode16 T_PlacesOwn fuel 3 28 3 2 (roundK (evC (sub (bodyOf Tryd.prog 125) [1, 0, 1, 0, 0])) (evC (sub (bodyOf Tryd.prog 125) [1, 0, 1, 0, 1])) (fnX Tryd.prog mode16 T_PlacesOwn fuel 13 1) #[7] 3876 [(2, .ptr 1 1 0 0), (4, .s (.slice none 0 0)), (6, .fn (.func 126) [] [.ptr 0 2 0 0])])) 0 [0, 6, 7, 8] k ⟨[(0, .yl 2), (6, .li .u64 ws), (7, .s (.int .i64 a285)), (8, .s (.int .i64 a286))], [(0, some ⟨29, .agg [.s (.int .i64 n), .li .u64 ws], true⟩), (1, some ⟨23, .agg [.s (.slice none 0 0)], true⟩), (2, none)], 3, none⟩ K) := by kernel_rfl
noncomputable def plcApp0F_s2 {R : Type} (w74 : Int) (w73 : Int) (ws : List Int) (n : Int) (c0 : Bool → Int → Option R) (c1 : Option R) : Option R :=
  br (decide (w74 < w73))
    (bnd (ix ws w74) fun e149 =>
    c0 (decide (w74 < w73)) e149)
    (c1)
theorem plcApp0F_s2_eq (fuel : Nat) (k : Nat) (K : Ex → St → Option Out) (w74 : Int) (w73 : Int) (ws : List Int) (n : Int) : lpN (sub (bodyOf Tryd.prog 126) [1, 0, 0]) (itX Tryd.prog mode16 T_PlacesOwn fuel 3 28 3 2 (roundK (evC (sub (bodyOf Tryd.prog 125) [1, 0, 1, 0, 0])) (evC (sub (bodyOf Tryd.prog 125) [1, 0, 1, 0, 1])) (fnX Tryd.prog mode16 T_PlacesOwn fuel 13 1) #[7] 3876 [(2, .ptr 1 1 0 0), (4, .s (.slice none 0 0)), (6, .fn (.func 126) [] [.ptr 0 2 0 0])])) 0 [0, 6, 7, 8] (k + 1) ⟨[(0, .yl 2), (6, .li .u64 ws), (7, .s (.int .i64 w73)), (8, .s (.int .i64 w74))], [(0, some ⟨29, .agg [.s (.int .i64 n), .li .u64 ws], true⟩), (1, some ⟨23, .agg [.s (.slice none 0 0)], true⟩), (2, none)], 3, none⟩ K = plcApp0F_s2 w74 w73 ws n (fun (a192 : Bool) (e149 : Int) => lpN (sub (sub (bodyOf Tryd.prog 126) [1, 0, 0]) [1, 1, 0, 0, 1, 0, 0]) (itX Tryd.prog mode16 T_PlacesOwn fuel 3 28 3 2 (roundK (evC (sub (bodyOf Tryd.prog 125) [1, 0, 1, 0, 0])) (evC (sub (bodyOf Tryd.prog 125) [1, 0, 1, 0, 1])) (fnX Tryd.prog mode16 T_PlacesOwn fuel 13 1) #[7] 3876 [(2, .ptr 1 1 0 0), (4, .s (.slice none 0 0)), (6, .fn (.func 126) [] [.ptr 0 2 0 0])])) 268435417 [0, 3, 4, 6, 7, 8, 9, 10, 11, 12] fuel ⟨[(0, .yl 2), (3, .s (.int .i64 w74)), (4, .s (.int .u64 e149)), (6, .li .u64 ws), (7, .s (.int .i64 w73)), (8, .s (.int .i64 w74)), (9, .s (.bool a192)), (10, .s (.int .i64 w74)), (11, .lp [.s (.int .u64 e149)] 0), (12, .s (.int .u64 e149))], [(0, some ⟨29, .agg [.s (.int .i64 n), .li .u64 ws], true⟩), (1, some ⟨23, .agg [.s (.slice none 0 0)], true⟩), (2, none)], 3, none⟩ (kont (itX Tryd.prog mode16 T_PlacesOwn fuel 3 28 3 2 (roundK (evC (sub (bodyOf Tryd.prog 125) [1, 0, 1, 0, 0])) (evC (sub (bodyOf Tryd.prog 125) [1, 0, 1, 0, 1])) (fnX Tryd.prog mode16 T_PlacesOwn fuel 13 1) #[7] 3876 [(2, .ptr 1 1 0 0), (4, .s (.slice none 0 0)), (6, .fn (.func 126) [] [.ptr 0 2 0 0])])) (sub (bodyOf Tryd.prog 126) [1, 0, 0]) [1, 1, 0, 0, 1, 0] 268435417 (rdK (sub (bodyOf Tryd.prog 126) [1, 0, 0]) (itX Tryd.prog mode16 T_PlacesOwn fuel 3 28 3 2 (roundK (evC (sub (bodyOf Tryd.prog 125) [1, 0, 1, 0, 0])) (evC (sub (bodyOf Tryd.prog 125) [1, 0, 1, 0, 1])) (fnX Tryd.prog mode16 T_PlacesOwn fuel 13 1) #[7] 3876 [(2, .ptr 1 1 0 0), (4, .s (.slice none 0 0)), (6, .fn (.func 126) [] [.ptr 0 2 0 0])])) 0 [0, 6, 7, 8] k K))) (K (.exit 0) ⟨[], [(0, some ⟨29, .agg [.s (.int .i64 n), .li .u64 ws], true⟩), (1, some ⟨23, .agg [.s (.slice none 0 0)], true⟩), (2, none)], 3, none⟩) := by kernel_rfl
noncomputable def plcApp0F_l1 {R : Type} (fuel : Nat) (ws : List Int) (n : Int) (k0 : Nat → List Int → Option R) (k1 : Option R) : Nat → Int → Int → Option R
  | 0, _, _ => none
  | k + 1, w73, w74 =>
    (plcApp0F_s2 w74 w73 ws n (fun (a192 : Bool) (e149 : Int) => (plcApp0F_l2 fuel w74 e149 ws w73 n (fun (x193 : Int) (x194 : Bool) (x195 : Bool) (x196 : Nat) (x197 : List Int) => (plcApp0F_s5 w74 x196 x197 x193 ws w73 x194 e149 x195 n (fun (a278 : Int) (a279 : Nat) (a280 : List Int) => (plcApp0F_l4 fuel ws w73 n (fun (x281 : Nat) (x282 : List Int) => k0 x281 x282) k a278 a279 a280)))) (fun (x283 : Bool) (x284 : Bool) => (plcApp0F_s9 w73 w74 e149 ws x283 x284 n (fun (a285 : Int) (a286 : Int) => ( plcApp0F_l1 fuel ws n k0 k1 k a285 a286 )))) fuel a192)) (k1))
theorem plcApp0F_l1_eq (fuel : Nat) (ws : List Int) (n : Int) (K : Ex → St → Option Out) : ∀ (k : Nat) (w73 : Int) (w74 : Int), lpN (sub (bodyOf Tryd.prog 126) [1, 0, 0]) (itX Tryd.prog mode16 T_PlacesOwn fuel 3 28 3 2 (roundK (evC (sub (bodyOf Tryd.prog 125) [1, 0, 1, 0, 0])) (evC (sub (bodyOf Tryd.prog 125) [1, 0, 1, 0, 1])) (fnX Tryd.prog mode16 T_PlacesOwn fuel 13 1) #[7] 3876 [(2, .ptr 1 1 0 0), (4, .s (.slice none 0 0)), (6, .fn (.func 126) [] [.ptr 0 2 0 0])])) 0 [0, 6, 7, 8] k ⟨[(0, .yl 2), (6, .li .u64 ws), (7, .s (.int .i64 w73)), (8, .s (.int .i64 w74))], [(0, some ⟨29, .agg [.s (.int .i64 n), .li .u64 ws], true⟩), (1, some ⟨23, .agg [.s (.slice none 0 0)], true⟩), (2, none)], 3, none⟩ K = plcApp0F_l1 fuel ws n (fun (y147 : Nat) (y148 : List Int) => K (.exit 0) ⟨[], [(0, some ⟨29, .agg [.s (.int .i64 n), .li .u64 ws], true⟩), (1, some ⟨23, .agg [.sl 3 1 0 y147], true⟩), (2, none), (3, some ⟨3, .li .i64 y148, true⟩)], 4, none⟩) (K (.exit 0) ⟨[], [(0, some ⟨29, .agg [.s (.int .i64 n), .li .u64 ws], true⟩), (1, some ⟨23, .agg [.s (.slice none 0 0)], true⟩), (2, none)], 3, none⟩) k w73 w74
  | 0, _, _ => rfl
  | k + 1, w73, w74 => by
    unfold plcApp0F_l1
    exact (plcApp0F_s2_eq fuel k K w74 w73 ws n).trans (congr (congr (Eq.refl (plcApp0F_s2 (R := Out) w74 w73 ws n)) (funext fun a192 => funext fun e149 => (plcApp0F_l2_eq fuel w74 e149 ws w73 n (kont (itX Tryd.prog mode16 T_PlacesOwn fuel 3 28 3 2 (roundK (evC (sub (bodyOf Tryd.prog 125) [1, 0, 1, 0, 0])) (evC (sub (bodyOf Tryd.prog 125) [1, 0, 1, 0, 1])) (fnX Tryd.prog mode16 T_PlacesOwn fuel 13 1) #[7] 3876 [(2, .ptr 1 1 0 0), (4, .s (.slice none 0 0)), (6, .fn (.func 126) [] [.ptr 0 2 0 0])])) (sub (bodyOf Tryd.prog 126) [1, 0, 0]) [1, 1, 0, 0, 1, 0] 268435417 (rdK (sub (bodyOf Tryd.prog 126) [1, 0, 0]) (itX Tryd.prog mode16 T_PlacesOwn fuel 3 28 3 2 (roundK (evC (sub (bodyOf Tryd.prog 125) [1, 0, 1, 0, 0])) (evC (sub (bodyOf Tryd.prog 125) [1, 0, 1, 0, 1])) (fnX Tryd.prog mode16 T_PlacesOwn fuel 13 1) #[7] 3876 [(2, .ptr 1 1 0 0), (4, .s (.slice none 0 0)), (6, .fn (.func 126) [] [.ptr 0 2 0 0])])) 0 [0, 6, 7, 8] k K)) fuel a192).trans (congrFun (congrFun (congr (congr (Eq.refl (plcApp0F_l2 (R := Out) fuel w74 e149 ws w73 n)) (funext fun x193 => funext fun x194 => funext fun x195 => funext fun x196 => funext fun x197 => (plcApp0F_s5_eq fuel k K w74 x196 x197 x193 ws w73 x194 e149 x195 n).trans (congr (Eq.refl (plcApp0F_s5 (R := Out) w74 x196 x197 x193 ws w73 x194 e149 x195 n)) (funext fun a278 => funext fun a279 => funext fun a280 => plcApp0F_l4_eq fuel ws w73 n K k a278 a279 a280)))) (funext fun x283 => funext fun x284 => (plcApp0F_s9_eq fuel k K w73 w74 e149 ws x283 x284 n).trans (congr (Eq.refl (plcApp0F_s9 (R := Out) w73 w74 e149 ws x283 x284 n)) (funext fun a285 => funext fun a286 => plcApp0F_l1_eq fuel ws n K k a285 a286)))) fuel) a192))) (rfl))
noncomputable def plcApp0F_s10 {R : Type} (x289 : Nat) (n : Int) (ws : List Int) (x290 : List Int) (c0 : Nat → Nat → Int → List Int → List Int → Option R) : Option R :=
  c0 0 x289 n ws x290
theorem plcApp0F_s10_eq (fuel : Nat)  (x289 : Nat) (n : Int) (ws : List Int) (x290 : List Int) : (kont (itX Tryd.prog mode16 T_PlacesOwn fuel 3 28 3 2 (roundK (evC (sub (bodyOf Tryd.prog 125) [1, 0, 1, 0, 0])) (evC (sub (bodyOf Tryd.prog 125) [1, 0, 1, 0, 1])) (fnX Tryd.prog mode16 T_PlacesOwn fuel 13 1) #[7] 3876 [(2, .ptr 1 1 0 0), (4, .s (.slice none 0 0)), (6, .fn (.func 126) [] [.ptr 0 2 0 0])])) (bodyOf Tryd.prog 126) [1, 0] 0 (itE (behind ⟨[(2, .ptr 1 1 0 0), (4, .s (.slice none 0 0)), (6, .fn (.func 126) [] [.ptr 0 2 0 0])], [(0, some ⟨29, .agg [.s (.int .i64 n), .li .u64 ws], true⟩), (1, some ⟨23, .agg [.s (.slice none 0 0)], true⟩)], 2, none⟩ (kont (fnX Tryd.prog mode16 T_PlacesOwn fuel 13 1) (bodyOf Tryd.prog 125) [1, 0, 1, 0] 16 (endK Tryd.prog 2 1 125))))) (.exit 0) ⟨[], [(0, some ⟨29, .agg [.s (.int .i64 n), .li .u64 ws], true⟩), (1, some ⟨23, .agg [.sl 3 1 0 x289], true⟩), (2, none), (3, some ⟨3, .li .i64 x290, true⟩)], 4, none⟩ = plcApp0F_s10 x289 n ws x290 (fun (a291 : Nat) (a292 : Nat) (a293 : Int) (a294 : List Int) (a295 : List Int) => some (.sl 1 1 a291 a292, [some ⟨29, .agg [.s (.int .i64 a293), .li .u64 a294], true⟩, some ⟨3, .li .i64 a295, true⟩])) := by kernel_rfl
noncomputable def plcApp0F_s11 {R : Type} (n : Int) (ws : List Int) (c0 : Int → List Int → Option R) : Option R :=
  c0 n ws
theorem plcApp0F_s11_eq (fuel : Nat)  (n : Int) (ws : List Int) : (kont (itX Tryd.prog mode16 T_PlacesOwn fuel 3 28 3 2 (roundK (evC (sub (bodyOf Tryd.prog 125) [1, 0, 1, 0, 0])) (evC (sub (bodyOf Tryd.prog 125) [1, 0, 1, 0, 1])) (fnX Tryd.prog mode16 T_PlacesOwn fuel 13 1) #[7] 3876 [(2, .ptr 1 1 0 0), (4, .s (.slice none 0 0)), (6, .fn (.func 126) [] [.ptr 0 2 0 0])])) (bodyOf Tryd.prog 126) [1, 0] 0 (itE (behind ⟨[(2, .ptr 1 1 0 0), (4, .s (.slice none 0 0)), (6, .fn (.func 126) [] [.ptr 0 2 0 0])], [(0, some ⟨29, .agg [.s (.int .i64 n), .li .u64 ws], true⟩), (1, some ⟨23, .agg [.s (.slice none 0 0)], true⟩)], 2, none⟩ (kont (fnX Tryd.prog mode16 T_PlacesOwn fuel 13 1) (bodyOf Tryd.prog 125) [1, 0, 1, 0] 16 (endK Tryd.prog 2 1 125))))) (.exit 0) ⟨[], [(0, some ⟨29, .agg [.s (.int .i64 n), .li .u64 ws], true⟩), (1, some ⟨23, .agg [.s (.slice none 0 0)], true⟩), (2, none)], 3, none⟩ = plcApp0F_s11 n ws (fun (a296 : Int) (a297 : List Int) => some (.s (.slice none 0 0), [some ⟨29, .agg [.s (.int .i64 a296), .li .u64 a297], true⟩])) := by kernel_rfl
noncomputable def plcApp0F_s1 {R : Type} (ws : List Int) (n : Int) (c0 : Int → Int → Option R) : Option R :=
  c0 ((ws.length : Nat) : Int) 0
theorem plcApp0F_s1_eq (fuel : Nat)  (ws : List Int) (n : Int) : callN Tryd.prog mode16 T_PlacesOwn fuel 125 [.s (.slice none 0 0), .fn (.func 126) [] [.ptr 0 2 0 0]] [⟨29, .agg [.s (.int .i64 n), .li .u64 ws], true⟩] = plcApp0F_s1 ws n (fun (a287 : Int) (a288 : Int) => lpN (sub (bodyOf Tryd.prog 126) [1, 0, 0]) (itX Tryd.prog mode16 T_PlacesOwn fuel 3 28 3 2 (roundK (evC (sub (bodyOf Tryd.prog 125) [1, 0, 1, 0, 0])) (evC (sub (bodyOf Tryd.prog 125) [1, 0, 1, 0, 1])) (fnX Tryd.prog mode16 T_PlacesOwn fuel 13 1) #[7] 3876 [(2, .ptr 1 1 0 0), (4, .s (.slice none 0 0)), (6, .fn (.func 126) [] [.ptr 0 2 0 0])])) 0 [0, 6, 7, 8] fuel ⟨[(0, .yl 2), (6, .li .u64 ws), (7, .s (.int .i64 a287)), (8, .s (.int .i64 a288))], [(0, some ⟨29, .agg [.s (.int .i64 n), .li .u64 ws], true⟩), (1, some ⟨23, .agg [.s (.slice none 0 0)], true⟩), (2, none)], 3, none⟩ (kont (itX Tryd.prog mode16 T_PlacesOwn fuel 3 28 3 2 (roundK (evC (sub (bodyOf Tryd.prog 125) [1, 0, 1, 0, 0])) (evC (sub (bodyOf Tryd.prog 125) [1, 0, 1, 0, 1])) (fnX Tryd.prog mode16 T_PlacesOwn fuel 13 1) #[7] 3876 [(2, .ptr 1 1 0 0), (4, .s (.slice none 0 0)), (6, .fn (.func 126) [] [.ptr 0 2 0 0])])) (bodyOf Tryd.prog 126) [1, 0] 0 (itE (behind ⟨[(2, .ptr 1 1 0 0), (4, .s (.slice none 0 0)), (6, .fn (.func 126) [] [.ptr 0 2 0 0])], [(0, some ⟨29, .agg [.s (.int .i64 n), .li .u64 ws], true⟩), (1, some ⟨23, .agg [.s (.slice none 0 0)], true⟩)], 2, none⟩ (kont (fnX Tryd.prog mode16 T_PlacesOwn fuel 13 1) (bodyOf Tryd.prog 125) [1, 0, 1, 0] 16 (endK Tryd.prog 2 1 125)))))) := by kernel_rfl
noncomputable def plcApp0F {R : Type} (fuel : Nat) (n : Int) (ws : List Int) (r0 : Nat → Nat → Int → List Int → List Int → Option R) (r1 : Int → List Int → Option R) : Option R :=
  (plcApp0F_s1 ws n (fun (a287 : Int) (a288 : Int) => (plcApp0F_l1 fuel ws n (fun (x289 : Nat) (x290 : List Int) => (plcApp0F_s10 x289 n ws x290 (fun (a291 : Nat) (a292 : Nat) (a293 : Int) (a294 : List Int) (a295 : List Int) => r0 a291 a292 a293 a294 a295))) ((plcApp0F_s11 n ws (fun (a296 : Int) (a297 : List Int) => r1 a296 a297))) fuel a287 a288)))
theorem plcApp0F_eq (fuel : Nat) (n : Int) (ws : List Int) : callN Tryd.prog mode16 T_PlacesOwn fuel 125 [.s (.slice none 0 0), .fn (.func 126) [] [.ptr 0 2 0 0]] [⟨29, .agg [.s (.int .i64 n), .li .u64 ws], true⟩] = plcApp0F fuel n ws (fun (z0 : Nat) (z1 : Nat) (z2 : Int) (z3 : List Int) (z4 : List Int) => some (.sl 1 1 z0 z1, [some ⟨29, .agg [.s (.int .i64 z2), .li .u64 z3], true⟩, some ⟨3, .li .i64 z4, true⟩])) (fun (z0 : Int) (z1 : List Int) => some (.s (.slice none 0 0), [some ⟨29, .agg [.s (.int .i64 z0), .li .u64 z1], true⟩])) := by
  unfold plcApp0F
  exact (plcApp0F_s1_eq fuel  ws n).trans (congr (Eq.refl (plcApp0F_s1 (R := Out) ws n)) (funext fun a287 => funext fun a288 => (plcApp0F_l1_eq fuel ws n (kont (itX Tryd.prog mode16 T_PlacesOwn fuel 3 28 3 2 (roundK (evC (sub (bodyOf Tryd.prog 125) [1, 0, 1, 0, 0])) (evC (sub (bodyOf Tryd.prog 125) [1, 0, 1, 0, 1])) (fnX Tryd.prog mode16 T_PlacesOwn fuel 13 1) #[7] 3876 [(2, .ptr 1 1 0 0), (4, .s (.slice none 0 0)), (6, .fn (.func 126) [] [.ptr 0 2 0 0])])) (bodyOf Tryd.prog 126) [1, 0] 0 (itE (behind ⟨[(2, .ptr 1 1 0 0), (4, .s (.slice none 0 0)), (6, .fn (.func 126) [] [.ptr 0 2 0 0])], [(0, some ⟨29, .agg [.s (.int .i64 n), .li .u64 ws], true⟩), (1, some ⟨23, .agg [.s (.slice none 0 0)], true⟩)], 2, none⟩ (kont (fnX Tryd.prog mode16 T_PlacesOwn fuel 13 1) (bodyOf Tryd.prog 125) [1, 0, 1, 0] 16 (endK Tryd.prog 2 1 125))))) fuel a287 a288).trans (congrFun (congrFun (congrFun (congr (congr (Eq.refl (plcApp0F_l1 (R := Out) fuel ws n)) (funext fun x289 => funext fun x290 => (plcApp0F_s10_eq fuel  x289 n ws x290))) ((plcApp0F_s11_eq fuel  n ws))) fuel) a287) a288)))
theorem plcApp0_first {R : Type} (fuel : Nat) (hf : 66 ≤ fuel) (ws : List Int) (hok : Ok ws) (hl : ws.length ≤ 8) (n : Int) (k0 : Nat → List Int → Option R) (k1 : Option R) : ∀ (k i : Nat), i ≤ ws.length → ws.length < i + k → wordsFrom ws (ws.length - i) i = [] →
    plcApp0F_l1 fuel ws n k0 k1 k (ws.length : Int) (i : Int) = k1
  | 0, i, h1, h2, h3 => by omega
  | k + 1, i, h1, h2, h3 => by
    unfold plcApp0F_l1 plcApp0F_s2
    rw [br_if]
    by_cases hc : i < ws.length
    · obtain ⟨hg, hlt⟩ := word_get hok hc
      rw [if_pos (by simpa using hc), bnd_of hg]
      dsimp only
      obtain ⟨f, rfl⟩ : ∃ f, fuel = f + 1 := ⟨fuel - 1, by omega⟩
      unfold plcApp0F_l2 plcApp0F_s3
      dsimp only
      rw [show ws.length - i = (ws.length - (i + 1)) + 1 by omega, wordsFrom, List.append_eq_nil_iff] at h3
      rw [br_if]
      have hw1 : IntKind.i64.wrap ((i : Int) + 1) = ((i + 1 : Nat) : Int) := by rw [wrap_i64 (by omega) (by omega)]; omega
      by_cases h0 : (ws.getD i 0).toNat = 0
      · rw [h0, if_neg (by decide)]
        unfold plcApp0F_s9
        rw [hw1]
        exact plcApp0_first (f + 1) hf ws hok hl n k0 k1 k (i + 1) (by omega) (by omega) h3.2
      · have hs := bitsAt_step (k := i) h0 hlt
        rw [hs] at h3
        exact absurd h3.1 (by simp)
    · rw [if_neg (by simpa using hc)]
theorem plcApp0_fact (n : Int) (ws : List Int) (hg : (okW ws && decide (ws.length ≤ 8) && decide ((plS ws).length = 0)) = true) : Fact Tryd.prog gTab 125 [.s (.slice none 0 0), .fn (.func 126) [] [.ptr 0 2 0 0]] [⟨29, .agg [.s (.int .i64 n), .li .u64 ws], true⟩] (.s (.slice none 0 0), [some ⟨29, .agg [.s (.int .i64 n), .li .u64 ws], true⟩]) := by
  simp only [Bool.and_eq_true, decide_eq_true_eq] at hg
  obtain ⟨⟨h1, h2⟩, h3⟩ := hg
  refine callN_fact hN hM T_PlacesOwn_ok (n := 100) (mode := mode16) ?_
  rw [plcApp0F_eq]
  unfold plcApp0F plcApp0F_s1
  have e : wordsFrom ws (ws.length - 0) 0 = [] := by rw [plS_eq] at h3; exact List.eq_nil_of_length_eq_zero h3
  have h := fun k0 k1 => plcApp0_first (R := Out) 100 (by omega) ws (okW_iff.1 h1) h2 n k0 k1 100 0 (by omega) (by omega) e
  rw [Int.natCast_zero] at h
  dsimp only
  rw [h]
  rfl
noncomputable def plcApp0_ent : List V → List Blk → Option (Bool × Out)
  | [.s (.slice none 0 0), .fn (.func 126) [] [.ptr 0 2 0 0]], [⟨29, .agg [.s (.int .i64 n), .li .u64 ws], true⟩] => some ((okW ws && decide (ws.length ≤ 8) && decide ((plS ws).length = 0)), (.s (.slice none 0 0), [some ⟨29, .agg [.s (.int .i64 n), .li .u64 ws], true⟩]))
  | _, _ => none
theorem plcApp0_ok : ∀ args bs out, plcApp0_ent args bs = some (true, out) → Fact Tryd.prog gTab 125 args bs out := by
  intro args bs out h
  unfold plcApp0_ent at h
  split at h
  · rename_i n ws
    simp only [Option.some.injEq, Prod.mk.injEq] at h
    obtain ⟨hg, rfl⟩ := h
    exact plcApp0_fact n ws hg
  · cases h
noncomputable def T_plcApp0 : Tbl := Tbl.cons 125 plcApp0_ent T_PlacesOwn
theorem T_plcApp0_ok : CallOk Tryd.prog gTab T_plcApp0 := cons_ok T_PlacesOwn_ok plcApp0_ok
/-! slices.Collect[int] -/
noncomputable def plcColl0F_s1 {R : Type} (ws : List Int) (n : Int) (c0 : Int → List Int → Option R) : Option R :=
  grd (okW ws && decide (ws.length ≤ 8) && decide ((plS ws).length = 0)) <|
  c0 n ws
theorem plcColl0F_s1_eq (fuel : Nat)  (ws : List Int) (n : Int) : callN Tryd.prog mode16 T_plcApp0 fuel 70 [.fn (.func 126) [] [.ptr 0 2 0 0]] [⟨29, .agg [.s (.int .i64 n), .li .u64 ws], true⟩] = plcColl0F_s1 ws n (fun (a1 : Int) (a2 : List Int) => some (.s (.slice none 0 0), [some ⟨29, .agg [.s (.int .i64 a1), .li .u64 a2], true⟩])) := by kernel_rfl
noncomputable def plcColl0F {R : Type} (fuel : Nat) (n : Int) (ws : List Int) (r0 : Int → List Int → Option R) : Option R :=
  (plcColl0F_s1 ws n (fun (a1 : Int) (a2 : List Int) => r0 a1 a2))
theorem plcColl0F_eq (fuel : Nat) (n : Int) (ws : List Int) : callN Tryd.prog mode16 T_plcApp0 fuel 70 [.fn (.func 126) [] [.ptr 0 2 0 0]] [⟨29, .agg [.s (.int .i64 n), .li .u64 ws], true⟩] = plcColl0F fuel n ws (fun (z0 : Int) (z1 : List Int) => some (.s (.slice none 0 0), [some ⟨29, .agg [.s (.int .i64 z0), .li .u64 z1], true⟩])) := by
  unfold plcColl0F
  exact (plcColl0F_s1_eq fuel  ws n)
theorem plcColl0_fact (n : Int) (ws : List Int) (hg : (okW ws && decide (ws.length ≤ 8) && decide ((plS ws).length = 0)) = true) : Fact Tryd.prog gTab 70 [.fn (.func 126) [] [.ptr 0 2 0 0]] [⟨29, .agg [.s (.int .i64 n), .li .u64 ws], true⟩] (.s (.slice none 0 0), [some ⟨29, .agg [.s (.int .i64 n), .li .u64 ws], true⟩]) := by
  refine callN_fact hN hM T_plcApp0_ok (n := 0) (mode := mode16) ?_
  rw [plcColl0F_eq]
  unfold plcColl0F plcColl0F_s1
  rw [grd_of hg]
noncomputable def plcColl0_ent : List V → List Blk → Option (Bool × Out)
  | [.fn (.func 126) [] [.ptr 0 2 0 0]], [⟨29, .agg [.s (.int .i64 n), .li .u64 ws], true⟩] => some ((okW ws && decide (ws.length ≤ 8) && decide ((plS ws).length = 0)), (.s (.slice none 0 0), [some ⟨29, .agg [.s (.int .i64 n), .li .u64 ws], true⟩]))
  | _, _ => none
theorem plcColl0_ok : ∀ args bs out, plcColl0_ent args bs = some (true, out) → Fact Tryd.prog gTab 70 args bs out := by
  intro args bs out h
  unfold plcColl0_ent at h
  split at h
  · rename_i n ws
    simp only [Option.some.injEq, Prod.mk.injEq] at h
    obtain ⟨hg, rfl⟩ := h
    exact plcColl0_fact n ws hg
  · cases h
noncomputable def T_plcColl0 : Tbl := Tbl.cons 70 plcColl0_ent T_plcApp0
theorem T_plcColl0_ok : CallOk Tryd.prog gTab T_plcColl0 := cons_ok T_plcApp0_ok plcColl0_ok
/-! downpour/bitrow.Places -/
noncomputable def PlacesF_s1 {R : Type} (ws : List Int) (n : Int) (c0 : Int → Option R) : Option R :=
  grd (okW ws) <|
  br (!(rtS n ws))
    (c0 1)
    (grd (okW ws && decide (ws.length ≤ 8) && decide ((plS ws).length = 0)) <|
    c0 0)
theorem PlacesF_s1_eq (fuel : Nat)  (ws : List Int) (n : Int) : callN Tryd.prog mode16 T_plcColl0 fuel 17 [.agg [.s (.int .i64 n), .li .u64 ws]] [] = PlacesF_s1 ws n (fun (a1 : Int) => some (.tup [.s (.slice none 0 0), .s (.int .i64 a1)], [])) := by kernel_rfl
noncomputable def PlacesF {R : Type} (fuel : Nat) (n : Int) (ws : List Int) (r0 : Int → Option R) : Option R :=
  (PlacesF_s1 ws n (fun (a1 : Int) => r0 a1))
theorem PlacesF_eq (fuel : Nat) (n : Int) (ws : List Int) : callN Tryd.prog mode16 T_plcColl0 fuel 17 [.agg [.s (.int .i64 n), .li .u64 ws]] [] = PlacesF fuel n ws (fun (z0 : Int) => some (.tup [.s (.slice none 0 0), .s (.int .i64 z0)], [])) := by
  unfold PlacesF
  exact (PlacesF_s1_eq fuel  ws n)
theorem Places_fact (n : Int) (ws : List Int) (hg : (okW ws) = true) : Fact Tryd.prog gTab 17 [.agg [.s (.int .i64 n), .li .u64 ws]] [] (.tup [.li .i64 (plcS n ws), .s (.int .i64 (if rtS n ws = true then 0 else 1))], []) := by
  rw [plcS_eq]
  unfold plcI
  have hnil : ∀ e : Int, Fact Tryd.prog gTab 17 [.agg [.s (.int .i64 n), .li .u64 ws]] [] (.tup [.s (.slice none 0 0), .s (.int .i64 e)], []) → Fact Tryd.prog gTab 17 [.agg [.s (.int .i64 n), .li .u64 ws]] [] (.tup [.li .i64 [], .s (.int .i64 e)], []) := fun e h =>
    h.out fun _ _ _ x h => RV_tup_two (fun _ h => RVs_two (fun _ h => RV_nil_li h) (fun _ h => h) h) h
  by_cases hr : rtS n ws = true
  · have hl := rt_len hr
    rw [if_pos hr, if_pos hr]
    by_cases h0 : (plS ws).length = 0
    · rw [List.eq_nil_of_length_eq_zero h0]
      refine hnil 0 ?_
      refine callN_fact hN hM T_plcColl0_ok (n := 0) (mode := mode16) ?_
      rw [PlacesF_eq]
      unfold PlacesF PlacesF_s1
      rw [grd_of hg, br_if, if_neg (by simp [hr]), grd_of (by simp [hg, h0]; omega)]
    · refine callN_fact hN hM T_plcColl_ok (n := 0) (mode := mode14) ?_
      rw [plcAF_eq]
      unfold plcAF plcAF_s1
      rw [grd_of hg, br_if, if_neg (by simp [hr]), grd_of (by simp [hg]; omega)]
      dsimp only
      rw [List.drop_zero, List.take_length]
  · rw [if_neg hr, if_neg hr]
    refine hnil 1 ?_
    refine callN_fact hN hM T_plcColl0_ok (n := 0) (mode := mode16) ?_
    rw [PlacesF_eq]
    unfold PlacesF PlacesF_s1
    rw [grd_of hg, br_if, if_pos (by simp [hr])]
noncomputable def Places_ent : List V → List Blk → Option (Bool × Out)
  | [.agg [.s (.int .i64 n), w0]], [] => (asSl (.int .u64) w0).bind fun ws => some ((okW ws), (.tup [.li .i64 (plcS n ws), .s (.int .i64 (if rtS n ws = true then 0 else 1))], []))
  | _, _ => none
theorem Places_ok : ∀ args bs out, Places_ent args bs = some (true, out) → Fact Tryd.prog gTab 17 args bs out := by
  intro args bs out h
  unfold Places_ent at h
  split at h
  · rename_i n w0
    obtain ⟨ws, h_ws, h⟩ := Option.bind_eq_some_iff.1 h
    simp only [Option.some.injEq, Prod.mk.injEq] at h
    obtain ⟨hg, rfl⟩ := h
    exact (Places_fact n ws hg).args (fun _ _ _ => fun _ h => RVs_two (fun _ h => RV_agg_two (fun _ h => RVs_two (fun _ h => h) (fun _ h => RVs_two (fun _ h => RV_li h_ws h) (fun _ h => h) h) h) h) (fun _ h => h) h)
  · cases h
noncomputable def T_Places : Tbl := Tbl.cons 17 Places_ent T_plcColl0
theorem T_Places_ok : CallOk Tryd.prog gTab T_Places := cons_ok T_plcColl0_ok Places_ok
/-! A row's places are the numbers that it is of. -/
theorem rise_eq {a b : List Int} (ha : a.Pairwise (· < ·)) (hb : b.Pairwise (· < ·)) (h : ∀ x, x ∈ a ↔ x ∈ b) : a = b := by
  have na : a.Nodup := ha.imp fun h e => by omega
  have nb : b.Nodup := hb.imp fun h e => by omega
  exact List.Perm.eq_of_pairwise (le := (· ≤ ·)) (fun a b _ _ h h' => by omega) (ha.imp fun h => by omega) (hb.imp fun h => by omega) ((List.perm_ext_iff_of_nodup na nb).2 h)
theorem val_of {n : Int} {l : List Int} (h : ∀ z ∈ l, 0 ≤ z ∧ z < n) (h0 : 0 ≤ n) : val (ofS n l) = mask l := by
  have hw := nw_cast h0
  obtain ⟨m, rfl⟩ : ∃ m : Nat, n = (m : Int) := ⟨n.toNat, by omega⟩
  have hm := mask_lt h
  rw [of_eq h, val_words, Nat.mod_eq_of_lt (Nat.lt_of_lt_of_le hm (Nat.pow_le_pow_right (by omega) (by omega)))]
theorem plc_rise (v n : Nat) : (plc v n).Pairwise (· < ·) := by
  unfold plc
  rw [List.pairwise_map]
  exact (List.pairwise_lt_range.filter _).imp fun h => by omega
theorem rt_of {n : Int} {l : List Int} (h : ∀ z ∈ l, 0 ≤ z ∧ z < n) (h0 : 0 ≤ n) (h1 : n ≤ 512) : rtS n (ofS n l) = true := by
  refine rtS_iff.2 ⟨⟨h0, h1⟩, of_len n l, ?_⟩
  rw [val_of h h0]
  obtain ⟨m, rfl⟩ : ∃ m : Nat, n = (m : Int) := ⟨n.toNat, by omega⟩
  rw [Int.toNat_natCast]
  exact mask_lt h
theorem pl_of {n : Int} {l : List Int} (h : ∀ z ∈ l, 0 ≤ z ∧ z < n) (h0 : 0 ≤ n) (h1 : n ≤ 512) (hs : l.Pairwise (· < ·)) : plcS n (ofS n l) = l := by
  have hr := rt_of h h0 h1
  rw [plcS_eq]
  unfold plcI
  rw [if_pos hr, pl_plc (okW_iff.2 (of_ok n l)) hr]
  refine rise_eq (plc_rise _ _) hs fun x => ?_
  rw [mem_plc, val_of h h0]
  constructor
  · rintro ⟨i, h1, h2, rfl⟩
    rw [testBit_mask (fun z hz => (h z hz).1)] at h2
    exact of_decide_eq_true h2
  · intro hx
    have := h x hx
    refine ⟨x.toNat, by omega, ?_, by omega⟩
    rw [testBit_mask (fun z hz => (h z hz).1)]
    exact decide_eq_true (by rw [Int.toNat_of_nonneg this.1]; exact hx)
theorem nb_rise {z d : Int} (hk : 1 ≤ z) (hk2 : z ≤ 64) : (nbS z d).Pairwise (· < ·) := by
  rw [nbS_eq]
  unfold nbI
  have hn := next_range (mixedS d)
  rw [some_pick hn.1 hn.2 hk (by omega)]
  exact pick_rise
theorem nb_pos {z d : Int} (hk : 1 ≤ z) (hk2 : z ≤ 64) : 1 ≤ (nbS z d).length ∧ (nbS z d).length ≤ z.toNat := by
  rw [nbS_eq]
  unfold nbI
  have hm := mixed_range (nextS (mixedS d))
  have hc := chosen_range hk hk2 hm.1
  rw [some_len (by omega) hc.2]
  omega
theorem tmod2 (a : Int) {b : Int} (hb : 0 < b) : -b < a.tmod b ∧ a.tmod b < b := by
  by_cases h : 0 ≤ a
  · rw [Int.tmod_eq_emod_of_nonneg h]
    have := Int.emod_nonneg a (show b ≠ 0 by omega)
    have := Int.emod_lt_of_pos a hb
    omega
  · have e : a = -(-a) := by omega
    rw [e, Int.neg_tmod, Int.tmod_eq_emod_of_nonneg (by omega)]
    have := Int.emod_nonneg (-a) (show b ≠ 0 by omega)
    have := Int.emod_lt_of_pos (-a) hb
    omega
theorem rem2 (a : Int) {b : Int} (hb : 0 < b) : ∃ v, divI .rem .i64 a b = some v ∧ -b < v ∧ v < b := ⟨_, divI_rem (by omega), tmod2 a hb⟩
theorem remn {a b : Int} (ha : 0 ≤ a) (hb : 0 < b) : ∃ v, divI .rem .i64 a b = some v ∧ 0 ≤ v ∧ v < b := ⟨_, rem_pos ha hb, Int.emod_nonneg _ (by omega), Int.emod_lt_of_pos _ hb⟩
def mode17 : FuncId → Nat := fun f => 0
/-! downpour/downpourlaw08.NeighboursFew -/
noncomputable def lawNbFewF_s2 {R : Type} (w21 : Int) (w20 : Int) (w19 : List Int) (w18 : Int) (w22 : Int) (w23 : List Int) (w24 : Int) (w25 : List (Int × List Int)) (c0 : Int → Int → List Int → Int → (List (Int × List Int)) → Option R) (c1 : Int → Int → List Int → Int → (List (Int × List Int)) → Option R) (c2 : Int → Int → List Int → Int → (List (Int × List Int)) → Option R) (c3 : Int → List Int → Int → Int → Int → List Int → Int → (List (Int × List Int)) → Option R) (c4 : Int → List Int → Int → Int → Int → List Int → Int → (List (Int × List Int)) → Option R) (c5 : Int → Int → List Int → Int → (List (Int × List Int)) → Option R) : Option R :=
  br (decide (w21 < w20))
    (bnd (ix w19 w21) fun e38 =>
    br (decide (e38 < 0))
      (c0 w18 w22 w23 w24 w25)
      (br (decide (e38 ≥ w18))
        (c1 w18 w22 w23 w24 w25)
        (br (decide (w21 > 0))
          (bnd (ix w19 (IntKind.i64.wrap (w21 - 1))) fun e49 =>
          br (decide (e49 ≥ e38))
            (c2 w18 w22 w23 w24 w25)
            (c3 w18 w19 w20 (IntKind.i64.wrap (w21 + 1)) w22 w23 w24 w25))
          (c4 w18 w19 w20 (IntKind.i64.wrap (w21 + 1)) w22 w23 w24 w25))))
    (c5 w18 w22 w23 w24 w25)
theorem lawNbFewF_s2_eq (fuel : Nat) (k : Nat) (K : Ex → St → Option Out) (w21 : Int) (w20 : Int) (w19 : List Int) (w18 : Int) (w22 : Int) (w23 : List Int) (w24 : Int) (w25 : List (Int × List Int)) : lpN (sub (bodyOf Tryd.prog 3) [1, 1, 1, 1, 1, 1, 1, 0, 1, 0, 0]) (fnX Tryd.prog mode17 T_Places fuel 136 0) 87112284633686032012916992369908579828369 [0, 4, 5, 7, 9, 82, 83, 84] (k + 1) ⟨[(0, .s (.int .i64 w18)), (4, .s (.bool false)), (5, .li .i64 w19), (7, .ptr 0 2 0 0), (9, .ptr 1 2 0 0), (82, .li .i64 w19), (83, .s (.int .i64 w20)), (84, .s (.int .i64 w21))], [(0, some ⟨29, .agg [.s (.int .i64 w22), .li .u64 w23], true⟩), (1, some ⟨34, .agg [.s (.int .i64 w24), .lt (.pair (.int .i64) (.sl (.int .u64))) w25], true⟩)], 2, none⟩ K = lawNbFewF_s2 w21 w20 w19 w18 w22 w23 w24 w25 (fun (a39 : Int) (a40 : Int) (a41 : List Int) (a42 : Int) (a43 : List (Int × List Int)) => K .ret ⟨[(0, .s (.int .i64 a39)), (4, .s (.bool false)), (7, .ptr 0 2 0 0), (9, .ptr 1 2 0 0)], [(0, some ⟨29, .agg [.s (.int .i64 a40), .li .u64 a41], true⟩), (1, some ⟨34, .agg [.s (.int .i64 a42), .lt (.pair (.int .i64) (.sl (.int .u64))) a43], true⟩)], 2, none⟩) (fun (a44 : Int) (a45 : Int) (a46 : List Int) (a47 : Int) (a48 : List (Int × List Int)) => K .ret ⟨[(0, .s (.int .i64 a44)), (4, .s (.bool false)), (7, .ptr 0 2 0 0), (9, .ptr 1 2 0 0)], [(0, some ⟨29, .agg [.s (.int .i64 a45), .li .u64 a46], true⟩), (1, some ⟨34, .agg [.s (.int .i64 a47), .lt (.pair (.int .i64) (.sl (.int .u64))) a48], true⟩)], 2, none⟩) (fun (a50 : Int) (a51 : Int) (a52 : List Int) (a53 : Int) (a54 : List (Int × List Int)) => K .ret ⟨[(0, .s (.int .i64 a50)), (4, .s (.bool false)), (7, .ptr 0 2 0 0), (9, .ptr 1 2 0 0)], [(0, some ⟨29, .agg [.s (.int .i64 a51), .li .u64 a52], true⟩), (1, some ⟨34, .agg [.s (.int .i64 a53), .lt (.pair (.int .i64) (.sl (.int .u64))) a54], true⟩)], 2, none⟩) (fun (a55 : Int) (a56 : List Int) (a57 : Int) (a58 : Int) (a59 : Int) (a60 : List Int) (a61 : Int) (a62 : List (Int × List Int)) => lpN (sub (bodyOf Tryd.prog 3) [1, 1, 1, 1, 1, 1, 1, 0, 1, 0, 0]) (fnX Tryd.prog mode17 T_Places fuel 136 0) 87112284633686032012916992369908579828369 [0, 4, 5, 7, 9, 82, 83, 84] k ⟨[(0, .s (.int .i64 a55)), (4, .s (.bool false)), (5, .li .i64 a56), (7, .ptr 0 2 0 0), (9, .ptr 1 2 0 0), (82, .li .i64 a56), (83, .s (.int .i64 a57)), (84, .s (.int .i64 a58))], [(0, some ⟨29, .agg [.s (.int .i64 a59), .li .u64 a60], true⟩), (1, some ⟨34, .agg [.s (.int .i64 a61), .lt (.pair (.int .i64) (.sl (.int .u64))) a62], true⟩)], 2, none⟩ K) (fun (a63 : Int) (a64 : List Int) (a65 : Int) (a66 : Int) (a67 : Int) (a68 : List Int) (a69 : Int) (a70 : List (Int × List Int)) => lpN (sub (bodyOf Tryd.prog 3) [1, 1, 1, 1, 1, 1, 1, 0, 1, 0, 0]) (fnX Tryd.prog mode17 T_Places fuel 136 0) 87112284633686032012916992369908579828369 [0, 4, 5, 7, 9, 82, 83, 84] k ⟨[(0, .s (.int .i64 a63)), (4, .s (.bool false)), (5, .li .i64 a64), (7, .ptr 0 2 0 0), (9, .ptr 1 2 0 0), (82, .li .i64 a64), (83, .s (.int .i64 a65)), (84, .s (.int .i64 a66))], [(0, some ⟨29, .agg [.s (.int .i64 a67), .li .u64 a68], true⟩), (1, some ⟨34, .agg [.s (.int .i64 a69), .lt (.pair (.int .i64) (.sl (.int .u64))) a70], true⟩)], 2, none⟩ K) (fun (a71 : Int) (a72 : Int) (a73 : List Int) (a74 : Int) (a75 : List (Int × List Int)) => K (.exit 0) ⟨[(0, .s (.int .i64 a71)), (4, .s (.bool false)), (7, .ptr 0 2 0 0), (9, .ptr 1 2 0 0)], [(0, some ⟨29, .agg [.s (.int .i64 a72), .li .u64 a73], true⟩), (1, some ⟨34, .agg [.s (.int .i64 a74), .lt (.pair (.int .i64) (.sl (.int .u64))) a75], true⟩)], 2, none⟩) := by kernel_rfl
noncomputable def lawNbFewF_l1 {R : Type} (fuel : Nat)  (k0 : Int → Int → List Int → Int → (List (Int × List Int)) → Option R) (k1 : Int → Int → List Int → Int → (List (Int × List Int)) → Option R) : Nat → Int → List Int → Int → Int → Int → List Int → Int → (List (Int × List Int)) → Option R
  | 0, _, _, _, _, _, _, _, _ => none
  | k + 1, w18, w19, w20, w21, w22, w23, w24, w25 =>
    (lawNbFewF_s2 w21 w20 w19 w18 w22 w23 w24 w25 (fun (a39 : Int) (a40 : Int) (a41 : List Int) (a42 : Int) (a43 : List (Int × List Int)) => k0 a39 a40 a41 a42 a43) (fun (a44 : Int) (a45 : Int) (a46 : List Int) (a47 : Int) (a48 : List (Int × List Int)) => k0 a44 a45 a46 a47 a48) (fun (a50 : Int) (a51 : Int) (a52 : List Int) (a53 : Int) (a54 : List (Int × List Int)) => k0 a50 a51 a52 a53 a54) (fun (a55 : Int) (a56 : List Int) (a57 : Int) (a58 : Int) (a59 : Int) (a60 : List Int) (a61 : Int) (a62 : List (Int × List Int)) => ( lawNbFewF_l1 fuel k0 k1 k a55 a56 a57 a58 a59 a60 a61 a62 )) (fun (a63 : Int) (a64 : List Int) (a65 : Int) (a66 : Int) (a67 : Int) (a68 : List Int) (a69 : Int) (a70 : List (Int × List Int)) => ( lawNbFewF_l1 fuel k0 k1 k a63 a64 a65 a66 a67 a68 a69 a70 )) (fun (a71 : Int) (a72 : Int) (a73 : List Int) (a74 : Int) (a75 : List (Int × List Int)) => k1 a71 a72 a73 a74 a75))
theorem lawNbFewF_l1_eq (fuel : Nat)  (K : Ex → St → Option Out) : ∀ (k : Nat) (w18 : Int) (w19 : List Int) (w20 : Int) (w21 : Int) (w22 : Int) (w23 : List Int) (w24 : Int) (w25 : List (Int × List Int)), lpN (sub (bodyOf Tryd.prog 3) [1, 1, 1, 1, 1, 1, 1, 0, 1, 0, 0]) (fnX Tryd.prog mode17 T_Places fuel 136 0) 87112284633686032012916992369908579828369 [0, 4, 5, 7, 9, 82, 83, 84] k ⟨[(0, .s (.int .i64 w18)), (4, .s (.bool false)), (5, .li .i64 w19), (7, .ptr 0 2 0 0), (9, .ptr 1 2 0 0), (82, .li .i64 w19), (83, .s (.int .i64 w20)), (84, .s (.int .i64 w21))], [(0, some ⟨29, .agg [.s (.int .i64 w22), .li .u64 w23], true⟩), (1, some ⟨34, .agg [.s (.int .i64 w24), .lt (.pair (.int .i64) (.sl (.int .u64))) w25], true⟩)], 2, none⟩ K = lawNbFewF_l1 fuel  (fun (y28 : Int) (y29 : Int) (y30 : List Int) (y31 : Int) (y32 : List (Int × List Int)) => K .ret ⟨[(0, .s (.int .i64 y28)), (4, .s (.bool false)), (7, .ptr 0 2 0 0), (9, .ptr 1 2 0 0)], [(0, some ⟨29, .agg [.s (.int .i64 y29), .li .u64 y30], true⟩), (1, some ⟨34, .agg [.s (.int .i64 y31), .lt (.pair (.int .i64) (.sl (.int .u64))) y32], true⟩)], 2, none⟩) (fun (y33 : Int) (y34 : Int) (y35 : List Int) (y36 : Int) (y37 : List (Int × List Int)) => K (.exit 0) ⟨[(0, .s (.int .i64 y33)), (4, .s (.bool false)), (7, .ptr 0 2 0 0), (9, .ptr 1 2 0 0)], [(0, some ⟨29, .agg [.s (.int .i64 y34), .li .u64 y35], true⟩), (1, some ⟨34, .agg [.s (.int .i64 y36), .lt (.pair (.int .i64) (.sl (.int .u64))) y37], true⟩)], 2, none⟩) k w18 w19 w20 w21 w22 w23 w24 w25
  | 0, _, _, _, _, _, _, _, _ => rfl
  | k + 1, w18, w19, w20, w21, w22, w23, w24, w25 => by
    unfold lawNbFewF_l1
    exact (lawNbFewF_s2_eq fuel k K w21 w20 w19 w18 w22 w23 w24 w25).trans (congr (congr (congr (congr (congr (congr (Eq.refl (lawNbFewF_s2 (R := Out) w21 w20 w19 w18 w22 w23 w24 w25)) (rfl)) (rfl)) (rfl)) (funext fun a55 => funext fun a56 => funext fun a57 => funext fun a58 => funext fun a59 => funext fun a60 => funext fun a61 => funext fun a62 => lawNbFewF_l1_eq fuel  K k a55 a56 a57 a58 a59 a60 a61 a62)) (funext fun a63 => funext fun a64 => funext fun a65 => funext fun a66 => funext fun a67 => funext fun a68 => funext fun a69 => funext fun a70 => lawNbFewF_l1_eq fuel  K k a63 a64 a65 a66 a67 a68 a69 a70)) (rfl))
noncomputable def lawNbFewF_s3 {R : Type} (x84 : Int) (x85 : Int) (x86 : List Int) (x87 : Int) (x88 : List (Int × List Int)) (c0 : Bool → Option R) : Option R :=
  c0 false
theorem lawNbFewF_s3_eq (fuel : Nat)  (x84 : Int) (x85 : Int) (x86 : List Int) (x87 : Int) (x88 : List (Int × List Int)) : (kont (fnX Tryd.prog mode17 T_Places fuel 136 0) (bodyOf Tryd.prog 3) [1, 1, 1, 1, 1, 1, 1, 0, 1, 0] 16 (endK Tryd.prog 0 0 3)) .ret ⟨[(0, .s (.int .i64 x84)), (4, .s (.bool false)), (7, .ptr 0 2 0 0), (9, .ptr 1 2 0 0)], [(0, some ⟨29, .agg [.s (.int .i64 x85), .li .u64 x86], true⟩), (1, some ⟨34, .agg [.s (.int .i64 x87), .lt (.pair (.int .i64) (.sl (.int .u64))) x88], true⟩)], 2, none⟩ = lawNbFewF_s3 x84 x85 x86 x87 x88 (fun (a89 : Bool) => some (.s (.bool a89), [])) := by kernel_rfl
noncomputable def lawNbFewF_s4 {R : Type} (x93 : Int) (x90 : Int) (x94 : List (Int × List Int)) (x91 : Int) (x92 : List Int) (c0 : Bool → Option R) : Option R :=
  br (x93 == x90)
    (br ((((x94.length : Nat) : Int) : Int) == 3)
      (bnd (ix x94 0) fun e95 =>
      grd (decide (e95.2.length ≤ 1000000)) <|
      br (eqRow e95.1 e95.2 x91 x92)
        (bnd (ix x94 2) fun e96 =>
        grd (decide (e96.2.length ≤ 1000000)) <|
        c0 (eqRow e96.1 e96.2 x91 x92))
        (c0 false))
      (c0 false))
    (c0 false)
theorem lawNbFewF_s4_eq (fuel : Nat)  (x93 : Int) (x90 : Int) (x94 : List (Int × List Int)) (x91 : Int) (x92 : List Int) : (kont (fnX Tryd.prog mode17 T_Places fuel 136 0) (bodyOf Tryd.prog 3) [1, 1, 1, 1, 1, 1, 1, 0, 1, 0] 16 (endK Tryd.prog 0 0 3)) (.exit 0) ⟨[(0, .s (.int .i64 x90)), (4, .s (.bool false)), (7, .ptr 0 2 0 0), (9, .ptr 1 2 0 0)], [(0, some ⟨29, .agg [.s (.int .i64 x91), .li .u64 x92], true⟩), (1, some ⟨34, .agg [.s (.int .i64 x93), .lt (.pair (.int .i64) (.sl (.int .u64))) x94], true⟩)], 2, none⟩ = lawNbFewF_s4 x93 x90 x94 x91 x92 (fun (a97 : Bool) => some (.s (.bool a97), [])) := by kernel_rfl
noncomputable def lawNbFewF_s1 {R : Type} (z : Int) (d : Int) (c0 : Bool → Option R) (c1 : Int → List Int → Int → Int → Int → List Int → Int → (List (Int × List Int)) → Option R) : Option R :=
  bnd (divI .rem .i64 z 64) fun v1 =>
  bnd (divI .rem .i64 (IntKind.i64.wrap (v1 + 64)) 64) fun v2 =>
  grd (decide (0 ≤ d) && decide (d < 18446744073709551616)) <|
  grd (decide (0 ≤ d) && decide (d < 18446744073709551616)) <|
  grd (okW ([d, (IntKind.u64.wrap (d + 1)), d])) <|
  grd (okW (if (decide (1 ≤ (IntKind.i64.wrap (v2 + 1))) && decide ((IntKind.i64.wrap (v2 + 1)) ≤ 64)) = true then ofS (IntKind.i64.wrap (v2 + 1)) (nbS (IntKind.i64.wrap (v2 + 1)) d) else [])) <|
  br (((if (decide (1 ≤ (IntKind.i64.wrap (v2 + 1))) && decide ((IntKind.i64.wrap (v2 + 1)) ≤ 64)) = true then 0 else 2) : Int) != 0)
    (c0 false)
    (br (((if (decide (1 ≤ (IntKind.i64.wrap (v2 + 1))) && decide ((IntKind.i64.wrap (v2 + 1)) ≤ 64)) = true then 0 else 2) : Int) != 0)
      (c0 false)
      (br (((if ((decide (1 ≤ (IntKind.i64.wrap (v2 + 1))) && decide ((IntKind.i64.wrap (v2 + 1)) ≤ 64)) && decide (([d, (IntKind.u64.wrap (d + 1)), d]).length ≤ 64)) = true then 0 else 2) : Int) != 0)
        (c0 false)
        (br (((if rtS (if (decide (1 ≤ (IntKind.i64.wrap (v2 + 1))) && decide ((IntKind.i64.wrap (v2 + 1)) ≤ 64)) = true then (IntKind.i64.wrap (v2 + 1)) else 0) (if (decide (1 ≤ (IntKind.i64.wrap (v2 + 1))) && decide ((IntKind.i64.wrap (v2 + 1)) ≤ 64)) = true then ofS (IntKind.i64.wrap (v2 + 1)) (nbS (IntKind.i64.wrap (v2 + 1)) d) else []) = true then 0 else 1) : Int) != 0)
          (c0 false)
          (br (decide (((((if (decide (1 ≤ (IntKind.i64.wrap (v2 + 1))) && decide ((IntKind.i64.wrap (v2 + 1)) ≤ 64)) = true then nbS (IntKind.i64.wrap (v2 + 1)) d else []).length : Nat) : Int) : Int) < 1))
            (c0 false)
            (br (decide ((((if (decide (1 ≤ (IntKind.i64.wrap (v2 + 1))) && decide ((IntKind.i64.wrap (v2 + 1)) ≤ 64)) = true then nbS (IntKind.i64.wrap (v2 + 1)) d else []).length : Nat) : Int) > (IntKind.i64.wrap (v2 + 1))))
              (c0 false)
              (grd (decide ((if (decide (1 ≤ (IntKind.i64.wrap (v2 + 1))) && decide ((IntKind.i64.wrap (v2 + 1)) ≤ 64)) = true then nbS (IntKind.i64.wrap (v2 + 1)) d else []).length ≤ 1000000)) <|
              br (!(eqS_li (if (decide (1 ≤ (IntKind.i64.wrap (v2 + 1))) && decide ((IntKind.i64.wrap (v2 + 1)) ≤ 64)) = true then nbS (IntKind.i64.wrap (v2 + 1)) d else []) (plcS (if (decide (1 ≤ (IntKind.i64.wrap (v2 + 1))) && decide ((IntKind.i64.wrap (v2 + 1)) ≤ 64)) = true then (IntKind.i64.wrap (v2 + 1)) else 0) (if (decide (1 ≤ (IntKind.i64.wrap (v2 + 1))) && decide ((IntKind.i64.wrap (v2 + 1)) ≤ 64)) = true then ofS (IntKind.i64.wrap (v2 + 1)) (nbS (IntKind.i64.wrap (v2 + 1)) d) else []))))
                (c0 false)
                (c1 (IntKind.i64.wrap (v2 + 1)) (if (decide (1 ≤ (IntKind.i64.wrap (v2 + 1))) && decide ((IntKind.i64.wrap (v2 + 1)) ≤ 64)) = true then nbS (IntKind.i64.wrap (v2 + 1)) d else []) (((if (decide (1 ≤ (IntKind.i64.wrap (v2 + 1))) && decide ((IntKind.i64.wrap (v2 + 1)) ≤ 64)) = true then nbS (IntKind.i64.wrap (v2 + 1)) d else []).length : Nat) : Int) 0 (if (decide (1 ≤ (IntKind.i64.wrap (v2 + 1))) && decide ((IntKind.i64.wrap (v2 + 1)) ≤ 64)) = true then (IntKind.i64.wrap (v2 + 1)) else 0) (if (decide (1 ≤ (IntKind.i64.wrap (v2 + 1))) && decide ((IntKind.i64.wrap (v2 + 1)) ≤ 64)) = true then ofS (IntKind.i64.wrap (v2 + 1)) (nbS (IntKind.i64.wrap (v2 + 1)) d) else []) (if ((decide (1 ≤ (IntKind.i64.wrap (v2 + 1))) && decide ((IntKind.i64.wrap (v2 + 1)) ≤ 64)) && decide (([d, (IntKind.u64.wrap (d + 1)), d]).length ≤ 64)) = true then (IntKind.i64.wrap (v2 + 1)) else 0) (if ((decide (1 ≤ (IntKind.i64.wrap (v2 + 1))) && decide ((IntKind.i64.wrap (v2 + 1)) ≤ 64)) && decide (([d, (IntKind.u64.wrap (d + 1)), d]).length ≤ 64)) = true then rowsS (IntKind.i64.wrap (v2 + 1)) ([d, (IntKind.u64.wrap (d + 1)), d]) else []))))))))
theorem lawNbFewF_s1_eq (fuel : Nat)  (z : Int) (d : Int) : callN Tryd.prog mode17 T_Places fuel 3 [.s (.int .i64 z), .s (.int .u64 d)] [] = lawNbFewF_s1 z d (fun (a3 : Bool) => some (.s (.bool a3), [])) (fun (a76 : Int) (a77 : List Int) (a78 : Int) (a79 : Int) (a80 : Int) (a81 : List Int) (a82 : Int) (a83 : List (Int × List Int)) => lpN (sub (bodyOf Tryd.prog 3) [1, 1, 1, 1, 1, 1, 1, 0, 1, 0, 0]) (fnX Tryd.prog mode17 T_Places fuel 136 0) 87112284633686032012916992369908579828369 [0, 4, 5, 7, 9, 82, 83, 84] fuel ⟨[(0, .s (.int .i64 a76)), (4, .s (.bool false)), (5, .li .i64 a77), (7, .ptr 0 2 0 0), (9, .ptr 1 2 0 0), (82, .li .i64 a77), (83, .s (.int .i64 a78)), (84, .s (.int .i64 a79))], [(0, some ⟨29, .agg [.s (.int .i64 a80), .li .u64 a81], true⟩), (1, some ⟨34, .agg [.s (.int .i64 a82), .lt (.pair (.int .i64) (.sl (.int .u64))) a83], true⟩)], 2, none⟩ (kont (fnX Tryd.prog mode17 T_Places fuel 136 0) (bodyOf Tryd.prog 3) [1, 1, 1, 1, 1, 1, 1, 0, 1, 0] 16 (endK Tryd.prog 0 0 3))) := by kernel_rfl
noncomputable def lawNbFewF {R : Type} (fuel : Nat) (z : Int) (d : Int) (r0 : Bool → Option R) : Option R :=
  (lawNbFewF_s1 z d (fun (a3 : Bool) => r0 a3) (fun (a76 : Int) (a77 : List Int) (a78 : Int) (a79 : Int) (a80 : Int) (a81 : List Int) (a82 : Int) (a83 : List (Int × List Int)) => (lawNbFewF_l1 fuel (fun (x84 : Int) (x85 : Int) (x86 : List Int) (x87 : Int) (x88 : List (Int × List Int)) => (lawNbFewF_s3 x84 x85 x86 x87 x88 (fun (a89 : Bool) => r0 a89))) (fun (x90 : Int) (x91 : Int) (x92 : List Int) (x93 : Int) (x94 : List (Int × List Int)) => (lawNbFewF_s4 x93 x90 x94 x91 x92 (fun (a97 : Bool) => r0 a97))) fuel a76 a77 a78 a79 a80 a81 a82 a83)))
theorem lawNbFewF_eq (fuel : Nat) (z : Int) (d : Int) : callN Tryd.prog mode17 T_Places fuel 3 [.s (.int .i64 z), .s (.int .u64 d)] [] = lawNbFewF fuel z d (fun (z0 : Bool) => some (.s (.bool z0), [])) := by
  unfold lawNbFewF
  exact (lawNbFewF_s1_eq fuel  z d).trans (congr (congr (Eq.refl (lawNbFewF_s1 (R := Out) z d)) (rfl)) (funext fun a76 => funext fun a77 => funext fun a78 => funext fun a79 => funext fun a80 => funext fun a81 => funext fun a82 => funext fun a83 => (lawNbFewF_l1_eq fuel  (kont (fnX Tryd.prog mode17 T_Places fuel 136 0) (bodyOf Tryd.prog 3) [1, 1, 1, 1, 1, 1, 1, 0, 1, 0] 16 (endK Tryd.prog 0 0 3)) fuel a76 a77 a78 a79 a80 a81 a82 a83).trans (congrFun (congrFun (congrFun (congrFun (congrFun (congrFun (congrFun (congrFun (congrFun (congr (congr (Eq.refl (lawNbFewF_l1 (R := Out) fuel )) (funext fun x84 => funext fun x85 => funext fun x86 => funext fun x87 => funext fun x88 => (lawNbFewF_s3_eq fuel  x84 x85 x86 x87 x88))) (funext fun x90 => funext fun x91 => funext fun x92 => funext fun x93 => funext fun x94 => (lawNbFewF_s4_eq fuel  x93 x90 x94 x91 x92))) fuel) a76) a77) a78) a79) a80) a81) a82) a83)))
theorem lawNbFew_in {R : Type} (fuel : Nat) (z : Int) (l : List Int) (hr : ∀ x ∈ l, 0 ≤ x ∧ x < z) (hs : l.Pairwise (· < ·)) (hx : l.length ≤ 64) (k0 k1 : Int → Int → List Int → Int → List (Int × List Int) → Option R) (a c : Int) (b : List Int) (m : List (Int × List Int)) : ∀ (k j : Nat), j ≤ l.length → l.length < j + k → lawNbFewF_l1 fuel k0 k1 k z l (l.length : Int) (j : Int) a b c m = k1 z a b c m
  | 0, j, h1, h2 => by omega
  | k + 1, j, h1, h2 => by
    unfold lawNbFewF_l1 lawNbFewF_s2
    rw [br_if]
    by_cases hc : j < l.length
    · have hm := hr _ (List.getElem_mem hc)
      have ih := lawNbFew_in fuel z l hr hs hx k0 k1 a c b m k (j + 1) (by omega) (by omega)
      rw [if_pos (by simpa using hc), bnd_of ((ix_nat l j).trans (List.getElem?_eq_getElem hc)), br_if, if_neg (by simp; omega), br_if, if_neg (by simp; omega), br_if]
      rw [wrap_i64 (x := (j : Int) + 1) (by omega) (by omega), show (j : Int) + 1 = ((j + 1 : Nat) : Int) by omega]
      cases j with
      | zero => rw [if_neg (by simp)]; exact ih
      | succ i =>
        have hlt := List.pairwise_iff_getElem.1 hs i (i + 1) (by omega) hc (by omega)
        rw [if_pos (by simp), wrap_i64 (by omega) (by omega), show ((i + 1 : Nat) : Int) - 1 = (i : Int) by omega, bnd_of ((ix_nat l i).trans (List.getElem?_eq_getElem (by omega))), br_if, if_neg (by simp; omega)]
        exact ih
    · rw [if_neg (by simpa using hc)]
theorem lawNbFew_fact (z : Int) (d : Int) (hg : (decide (-9223372036854775808 ≤ z) && decide (z ≤ 9223372036854775807) && (decide (0 ≤ d) && decide (d < 18446744073709551616))) = true) : Fact Tryd.prog gTab 3 [.s (.int .i64 z), .s (.int .u64 d)] [] (.s (.bool true), []) := by
  rw [Bool.and_eq_true] at hg
  obtain ⟨hz, hd⟩ := hg
  refine callN_fact hN hM T_Places_ok (n := 70) (mode := mode17) ?_
  rw [lawNbFewF_eq]
  unfold lawNbFewF lawNbFewF_s1
  obtain ⟨v, e1, h1, h2⟩ := rem2 z (b := 64) (by decide)
  obtain ⟨u, e2, h3, h4⟩ := remn (a := v + 64) (b := 64) (by omega) (by decide)
  rw [bnd_of e1, wrap_i64 (x := v + 64) (by omega) (by omega), bnd_of e2, wrap_i64 (x := u + 1) (by omega) (by omega)]
  clear e1 e2 hz
  obtain ⟨k, hk⟩ : ∃ k, k = u + 1 := ⟨_, rfl⟩
  rw [← hk]
  have k1 : 1 ≤ k := by omega
  have k2 : k ≤ 64 := by omega
  clear hk h1 h2 h3 h4
  have hkk : (decide (1 ≤ k) && decide (k ≤ 64)) = true := kk_iff.2 ⟨k1, k2⟩
  have hok : okW [d, IntKind.u64.wrap (d + 1), d] = true := by
    simp at hd
    have := u64_range (d + 1)
    refine okW_iff.2 fun w hw => ?_
    simp only [List.mem_cons, List.not_mem_nil, or_false] at hw
    rcases hw with rfl | rfl | rfl <;> omega
  have hr : ∀ x ∈ nbS k d, 0 ≤ x ∧ x < k := fun x hx => nb_range k1 k2 hx
  have hs := nb_rise (d := d) k1 k2
  have hp := nb_pos (d := d) k1 k2
  have hpl := pl_of hr (by omega) (by omega) hs
  have hrt := rt_of hr (by omega) (by omega)
  have hokr : okW (ofS k (nbS k d)) = true := okW_iff.2 (of_ok _ _)
  have hlen := nb_ofLen (z := k) (d := d) k2
  rw [grd_of hd, grd_of hd, grd_of hok]
  have h3 : (decide ([d, IntKind.u64.wrap (d + 1), d].length ≤ 64)) = true := rfl
  simp only [hkk, h3, Bool.true_and, if_true, hrt, hpl, bne_self_eq_false, br_ff, eqS_li_self, Bool.not_true]
  rw [grd_of hokr, br_if, if_neg (by simp; omega), br_if, if_neg (by simp; omega), grd_of (by simp; omega)]
  rw [show (0 : Int) = ((0 : Nat) : Int) from rfl, lawNbFew_in 70 k (nbS k d) hr hs (by omega) _ _ _ _ _ _ 70 0 (by omega) (by omega)]
  unfold lawNbFewF_s4
  have e0 : ix (rowsS k [d, IntKind.u64.wrap (d + 1), d]) 0 = some (k, ofS k (nbS k d)) := by rw [rowsS_eq]; rfl
  have e2 : ix (rowsS k [d, IntKind.u64.wrap (d + 1), d]) 2 = some (k, ofS k (nbS k d)) := by rw [rowsS_eq]; rfl
  rw [beq_self_eq_true, br_tt, rows_len, show ((([d, IntKind.u64.wrap (d + 1), d].length : Nat) : Int) == 3) = true from rfl, br_tt, bnd_of e0, grd_of (by simp; omega), eqRow_self, br_tt, bnd_of e2, grd_of (by simp; omega), eqRow_self]
noncomputable def lawNbFew_ent : List V → List Blk → Option (Bool × Out)
  | [.s (.int .i64 z), .s (.int .u64 d)], [] => some ((decide (-9223372036854775808 ≤ z) && decide (z ≤ 9223372036854775807) && (decide (0 ≤ d) && decide (d < 18446744073709551616))), (.s (.bool true), []))
  | _, _ => none
theorem lawNbFew_ok : ∀ args bs out, lawNbFew_ent args bs = some (true, out) → Fact Tryd.prog gTab 3 args bs out := by
  intro args bs out h
  unfold lawNbFew_ent at h
  split at h
  · rename_i z d
    simp only [Option.some.injEq, Prod.mk.injEq] at h
    obtain ⟨hg, rfl⟩ := h
    exact lawNbFew_fact z d hg
  · cases h
noncomputable def T_lawNbFew : Tbl := Tbl.cons 3 lawNbFew_ent T_Places
theorem T_lawNbFew_ok : CallOk Tryd.prog gTab T_lawNbFew := cons_ok T_Places_ok lawNbFew_ok
end Go.Proofs.YtleagoeimkcekaaDoor
