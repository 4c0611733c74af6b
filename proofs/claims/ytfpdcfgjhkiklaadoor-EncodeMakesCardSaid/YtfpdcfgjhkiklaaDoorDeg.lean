/- Weights of degrees: what each function tells. -/
import Derived.Test.YtfpdcfgjhkiklaaDoorPmTab
import Derived.KernelRfl
import Derived.Test.YtfpdcfgjhkiklaaDoorProg
import Derived.Test.YtfpdcfgjhkiklaaDoorBase
set_option autoImplicit false
set_option maxRecDepth 100000
set_option maxHeartbeats 4000000
set_option linter.unusedVariables false
set_option linter.unusedSimpArgs false
namespace Go.Proofs.YtfpdcfgjhkiklaaDoor
open Go Go.PM Go.Proofs Go.Shelf Go.PM.Row Go.PM.Bits Go.PM.Bit
/-! Weights of degrees. -/
def rootN (k : Nat) : Nat := ((List.range 9).filter fun x => Nat.ble (x * x) k).length - 1
def rootI (k : Int) : Int := (rootN k.toNat : Nat)
noncomputable def rootS : Int → Int := Classical.choose (⟨rootI, rfl⟩ : ∃ f, f = rootI)
theorem rootS_eq : rootS = rootI := Classical.choose_spec (⟨rootI, rfl⟩ : ∃ f, f = rootI)
def digI (t : Int) : Int := (Nat.log2 t.toNat + 1 : Nat)
noncomputable def digS : Int → Int := Classical.choose (⟨digI, rfl⟩ : ∃ f, f = digI)
theorem digS_eq : digS = digI := Classical.choose_spec (⟨digI, rfl⟩ : ∃ f, f = digI)
noncomputable def weightI (k d : Int) : Int := (if d > 1 then 4294967296 / (d * (d - 1)) else 4294967296 / k) + (if d < k / rootS k then 4294967296 * rootS k / (d * k) else if d = k / rootS k then 4294967296 * rootS k * digS (rootS k) / k else 0)
noncomputable def weightS : Int → Int → Int := Classical.choose (⟨weightI, rfl⟩ : ∃ f, f = weightI)
theorem weightS_eq : weightS = weightI := Classical.choose_spec (⟨weightI, rfl⟩ : ∃ f, f = weightI)
noncomputable def weightsN (k : Int) (n : Nat) : List Int := (List.range n).map fun (i : Nat) => weightS k ((i : Int) + 1)
noncomputable def weightsI (k : Int) : List Int := weightsN k k.toNat
noncomputable def weightsS : Int → List Int := Classical.choose (⟨weightsI, rfl⟩ : ∃ f, f = weightsI)
theorem weightsS_eq : weightsS = weightsI := Classical.choose_spec (⟨weightsI, rfl⟩ : ∃ f, f = weightsI)
noncomputable def sumN (k : Int) : Nat → Int
  | 0 => 0
  | n + 1 => sumN k n + weightS k ((n : Int) + 1)
noncomputable def tabN (k : Int) (n : Nat) : List Int := (List.range n).map fun (i : Nat) => sumN k (i + 1)
noncomputable def tabI (k : Int) : List Int := tabN k k.toNat
noncomputable def tabS : Int → List Int := Classical.choose (⟨tabI, rfl⟩ : ∃ f, f = tabI)
theorem tabS_eq : tabS = tabI := Classical.choose_spec (⟨tabI, rfl⟩ : ∃ f, f = tabI)
theorem root_all : (List.range 64).all (fun i => Nat.ble 1 (rootN (i + 1)) && Nat.ble (rootN (i + 1)) 8) = true := by kernel_rfl
theorem root_range {k : Int} (h : 1 ≤ k) (h2 : k ≤ 64) : 1 ≤ rootS k ∧ rootS k ≤ 8 := by
  have h := List.all_eq_true.1 root_all (k.toNat - 1) (by rw [List.mem_range]; omega)
  rw [show k.toNat - 1 + 1 = k.toNat by omega, Bool.and_eq_true] at h
  have a := Nat.le_of_ble_eq_true h.1
  have b := Nat.le_of_ble_eq_true h.2
  rw [rootS_eq]; unfold rootI
  omega
theorem dig_all : (List.range 8).all (fun i => Nat.ble (Nat.log2 (i + 1) + 1) 4) = true := by kernel_rfl
theorem dig_range {t : Int} (h : 1 ≤ t) (h2 : t ≤ 8) : 1 ≤ digS t ∧ digS t ≤ 4 := by
  have h := List.all_eq_true.1 dig_all (t.toNat - 1) (by rw [List.mem_range]; omega)
  rw [show t.toNat - 1 + 1 = t.toNat by omega] at h
  have a := Nat.le_of_ble_eq_true h
  rw [digS_eq]; unfold digI
  omega
theorem mul_small {a b : Int} (ha : 1 ≤ a) (ha2 : a ≤ 64) (hb : 1 ≤ b) (hb2 : b ≤ 64) : 1 ≤ a * b ∧ a * b ≤ 4096 := by
  have h1 := Int.mul_pos (show 0 < a by omega) (show 0 < b by omega)
  have h2 := Int.mul_le_mul ha2 hb2 (by omega) (show (0 : Int) ≤ 64 by decide)
  exact ⟨by omega, by omega⟩
theorem div_small {a b : Int} (ha : 0 ≤ a) (hb : 1 ≤ b) : 0 ≤ a / b ∧ a / b ≤ a := ⟨Int.ediv_nonneg ha (by omega), Int.ediv_le_self _ ha⟩
def isI64 (x : Int) : Option (Bool × Out) → Bool
  | some (true, .s (.int .i64 q), []) => decide (q = x)
  | _ => false
theorem isI64_eq {x : Int} {o : Option (Bool × Out)} (h : isI64 x o = true) : o = some (true, .s (.int .i64 x), []) := by
  unfold isI64 at h
  split at h
  · rw [of_decide_eq_true h]
  · cases h
theorem weight_range {k d : Int} (hk : 1 ≤ k) (hk2 : k ≤ 64) (hd : 1 ≤ d) (hd2 : d ≤ 64) : 0 ≤ weightS k d ∧ weightS k d ≤ 274877906944 := by
  have hr := root_range hk hk2
  have hg := dig_range hr.1 hr.2
  have a1 := div_small (a := 4294967296) (by decide) hk
  have a2 := div_small (a := 4294967296 * rootS k) (b := d * k) (by omega) (mul_small hd hd2 hk hk2).1
  have hm := mul_small (a := rootS k) (b := digS (rootS k)) hr.1 (by omega) hg.1 (by omega)
  have hm2 := Int.mul_le_mul hr.2 hg.2 (by omega) (show (0 : Int) ≤ 8 by decide)
  have a3 := div_small (a := 4294967296 * rootS k * digS (rootS k)) (b := k) (by rw [Int.mul_assoc]; omega) hk
  rw [Int.mul_assoc] at a3
  rw [weightS_eq]; unfold weightI
  rw [Int.mul_assoc 4294967296 (rootS k) (digS (rootS k))]
  have a4 : 1 < d → 0 ≤ 4294967296 / (d * (d - 1)) ∧ 4294967296 / (d * (d - 1)) ≤ 4294967296 := fun h => div_small (by decide) (mul_small hd hd2 (show 1 ≤ d - 1 by omega) (by omega)).1
  split
  · rename_i h
    have a4 := a4 h
    split
    · omega
    · split <;> omega
  · split
    · omega
    · split <;> omega
theorem sum_range {k : Int} (hk : 1 ≤ k) (hk2 : k ≤ 64) : ∀ n : Nat, n ≤ 64 → 0 ≤ sumN k n ∧ sumN k n ≤ 274877906944 * n
  | 0, _ => by simp [sumN]
  | n + 1, h => by
    have := sum_range hk hk2 n (by omega)
    have := weight_range hk hk2 (d := (n : Int) + 1) (by omega) (by omega)
    rw [sumN]
    omega
theorem tab_len (k : Int) (n : Nat) : (tabN k n).length = n := by unfold tabN; simp
theorem tab_succ (k : Int) (n : Nat) : tabN k (n + 1) = tabN k n ++ [sumN k (n + 1)] := by unfold tabN; rw [List.range_succ, List.map_append]; rfl
theorem ws_len (k : Int) (n : Nat) : (weightsN k n).length = n := by unfold weightsN; simp
theorem ws_succ (k : Int) (n : Nat) : weightsN k (n + 1) = weightsN k n ++ [weightS k ((n : Int) + 1)] := by unfold weightsN; rw [List.range_succ, List.map_append]; rfl
def mode5 : FuncId → Nat := fun f => bif Nat.beq f 187 then 2 else 0
/-! downpour/degree.sized -/
noncomputable def dsizedF_s1 {R : Type} (z : Int) (c0 : Bool → Option R) : Option R :=
  br (decide (z ≥ 1))
    (c0 (decide (z ≤ 64)))
    (c0 false)
theorem dsizedF_s1_eq (fuel : Nat)  (z : Int) : callN Tryd.prog mode5 T_refRight fuel 186 [vI z] [] = dsizedF_s1 z (fun a1 => some (vB a1, [])) := by kernel_rfl
noncomputable def dsizedF {R : Type} (fuel : Nat) (z : Int) (r0 : Bool → Option R) : Option R :=
  (dsizedF_s1 z (fun a1 => r0 a1))
theorem dsizedF_eq (fuel : Nat) (z : Int) : callN Tryd.prog mode5 T_refRight fuel 186 [.s (.int .i64 z)] [] = dsizedF fuel z (fun z0 => some (.s (.bool z0), [])) := by
  unfold dsizedF
  exact (dsizedF_s1_eq fuel  z)
theorem dsized_fact (z : Int) : Fact Tryd.prog gTab 186 [.s (.int .i64 z)] [] (.s (.bool (decide (1 ≤ z) && decide (z ≤ 64))), []) := by
  refine callN_fact hN hM T_refRight_ok (n := 0) (mode := mode5) ?_
  rw [dsizedF_eq]
  unfold dsizedF dsizedF_s1
  rw [br_if]
  by_cases h : 1 ≤ z
  · simp [h]
  · simp [h]
noncomputable def dsized_ent : List V → List Blk → Option (Bool × Out)
  | [.s (.int .i64 z)], [] => some (true, (.s (.bool (decide (1 ≤ z) && decide (z ≤ 64))), []))
  | _, _ => none
theorem dsized_ok : ∀ args bs out, dsized_ent args bs = some (true, out) → Fact Tryd.prog gTab 186 args bs out := by
  intro args bs out h
  unfold dsized_ent at h
  split at h
  · rename_i z
    simp only [Option.some.injEq, Prod.mk.injEq] at h
    obtain ⟨_, rfl⟩ := h
    exact dsized_fact z
  · cases h
noncomputable def T_dsized : Tbl := Tbl.cons 186 dsized_ent T_refRight
theorem T_dsized_ok : CallOk Tryd.prog gTab T_dsized := cons_ok T_refRight_ok dsized_ok
/-! downpour/degree.root -/
theorem droot_all : (List.range 64).all (fun i => isI64 ((rootN (i + 1) : Nat) : Int) (lv Tryd.prog mode5 Tbl.nil 40 211 [.s (.int .i64 ((i + 1 : Nat) : Int))] [])) = true := by kernel_rfl
theorem droot_fact (z : Int) (hg : (decide (1 ≤ z) && decide (z ≤ 64)) = true) : Fact Tryd.prog gTab 211 [.s (.int .i64 z)] [] (.s (.int .i64 (rootS z)), []) := by
  simp only [Bool.and_eq_true, decide_eq_true_eq] at hg
  have h := List.all_eq_true.1 droot_all (z.toNat - 1) (by rw [List.mem_range]; omega)
  have h := isI64_eq h
  rw [show z.toNat - 1 + 1 = z.toNat by omega, show ((z.toNat : Nat) : Int) = z by omega] at h
  rw [rootS_eq]
  unfold rootI
  exact lv_fact hN hM nil_ok h
noncomputable def droot_ent : List V → List Blk → Option (Bool × Out)
  | [.s (.int .i64 z)], [] => some ((decide (1 ≤ z) && decide (z ≤ 64)), (.s (.int .i64 (rootS z)), []))
  | _, _ => none
theorem droot_ok : ∀ args bs out, droot_ent args bs = some (true, out) → Fact Tryd.prog gTab 211 args bs out := by
  intro args bs out h
  unfold droot_ent at h
  split at h
  · rename_i z
    simp only [Option.some.injEq, Prod.mk.injEq] at h
    obtain ⟨hg, rfl⟩ := h
    exact droot_fact z hg
  · cases h
noncomputable def T_droot : Tbl := Tbl.cons 211 droot_ent T_dsized
theorem T_droot_ok : CallOk Tryd.prog gTab T_droot := cons_ok T_dsized_ok droot_ok
/-! downpour/downpourref07.Root -/
theorem refRoot_all : (List.range 64).all (fun i => isI64 ((rootN (i + 1) : Nat) : Int) (lv Tryd.prog mode5 Tbl.nil 40 229 [.s (.int .i64 ((i + 1 : Nat) : Int))] [])) = true := by kernel_rfl
theorem refRoot_fact (z : Int) (hg : (decide (1 ≤ z) && decide (z ≤ 64)) = true) : Fact Tryd.prog gTab 229 [.s (.int .i64 z)] [] (.s (.int .i64 (rootS z)), []) := by
  simp only [Bool.and_eq_true, decide_eq_true_eq] at hg
  have h := List.all_eq_true.1 refRoot_all (z.toNat - 1) (by rw [List.mem_range]; omega)
  have h := isI64_eq h
  rw [show z.toNat - 1 + 1 = z.toNat by omega, show ((z.toNat : Nat) : Int) = z by omega] at h
  rw [rootS_eq]
  unfold rootI
  exact lv_fact hN hM nil_ok h
noncomputable def refRoot_ent : List V → List Blk → Option (Bool × Out)
  | [.s (.int .i64 z)], [] => some ((decide (1 ≤ z) && decide (z ≤ 64)), (.s (.int .i64 (rootS z)), []))
  | _, _ => none
theorem refRoot_ok : ∀ args bs out, refRoot_ent args bs = some (true, out) → Fact Tryd.prog gTab 229 args bs out := by
  intro args bs out h
  unfold refRoot_ent at h
  split at h
  · rename_i z
    simp only [Option.some.injEq, Prod.mk.injEq] at h
    obtain ⟨hg, rfl⟩ := h
    exact refRoot_fact z hg
  · cases h
noncomputable def T_refRoot : Tbl := Tbl.cons 229 refRoot_ent T_droot
theorem T_refRoot_ok : CallOk Tryd.prog gTab T_refRoot := cons_ok T_droot_ok refRoot_ok
/-! downpour/downpourref07.digits -/
theorem refDigits_all : (List.range 8).all (fun i => isI64 ((Nat.log2 (i + 1) + 1 : Nat) : Int) (lv Tryd.prog mode5 Tbl.nil 40 230 [.s (.int .i64 ((i + 1 : Nat) : Int))] [])) = true := by kernel_rfl
theorem refDigits_fact (t : Int) (hg : (decide (1 ≤ t) && decide (t ≤ 8)) = true) : Fact Tryd.prog gTab 230 [.s (.int .i64 t)] [] (.s (.int .i64 (digS t)), []) := by
  simp only [Bool.and_eq_true, decide_eq_true_eq] at hg
  have h := List.all_eq_true.1 refDigits_all (t.toNat - 1) (by rw [List.mem_range]; omega)
  have h := isI64_eq h
  rw [show t.toNat - 1 + 1 = t.toNat by omega, show ((t.toNat : Nat) : Int) = t by omega] at h
  rw [digS_eq]
  unfold digI
  exact lv_fact hN hM nil_ok h
noncomputable def refDigits_ent : List V → List Blk → Option (Bool × Out)
  | [.s (.int .i64 t)], [] => some ((decide (1 ≤ t) && decide (t ≤ 8)), (.s (.int .i64 (digS t)), []))
  | _, _ => none
theorem refDigits_ok : ∀ args bs out, refDigits_ent args bs = some (true, out) → Fact Tryd.prog gTab 230 args bs out := by
  intro args bs out h
  unfold refDigits_ent at h
  split at h
  · rename_i t
    simp only [Option.some.injEq, Prod.mk.injEq] at h
    obtain ⟨hg, rfl⟩ := h
    exact refDigits_fact t hg
  · cases h
noncomputable def T_refDigits : Tbl := Tbl.cons 230 refDigits_ent T_refRoot
theorem T_refDigits_ok : CallOk Tryd.prog gTab T_refDigits := cons_ok T_refRoot_ok refDigits_ok
/-! math/bits.Len64 -/
theorem len64_all : (List.range 8).all (fun i => isI64 ((Nat.log2 (i + 1) + 1 : Nat) : Int) (lv Tryd.prog mode5 Tbl.nil 40 206 [.s (.int .u64 ((i + 1 : Nat) : Int))] [])) = true := by kernel_rfl
theorem len64_fact (t : Int) (hg : (decide (1 ≤ t) && decide (t ≤ 8)) = true) : Fact Tryd.prog gTab 206 [.s (.int .u64 t)] [] (.s (.int .i64 (digS t)), []) := by
  simp only [Bool.and_eq_true, decide_eq_true_eq] at hg
  have h := List.all_eq_true.1 len64_all (t.toNat - 1) (by rw [List.mem_range]; omega)
  have h := isI64_eq h
  rw [show t.toNat - 1 + 1 = t.toNat by omega, show ((t.toNat : Nat) : Int) = t by omega] at h
  rw [digS_eq]
  unfold digI
  exact lv_fact hN hM nil_ok h
noncomputable def len64_ent : List V → List Blk → Option (Bool × Out)
  | [.s (.int .u64 t)], [] => some ((decide (1 ≤ t) && decide (t ≤ 8)), (.s (.int .i64 (digS t)), []))
  | _, _ => none
theorem len64_ok : ∀ args bs out, len64_ent args bs = some (true, out) → Fact Tryd.prog gTab 206 args bs out := by
  intro args bs out h
  unfold len64_ent at h
  split at h
  · rename_i t
    simp only [Option.some.injEq, Prod.mk.injEq] at h
    obtain ⟨hg, rfl⟩ := h
    exact len64_fact t hg
  · cases h
noncomputable def T_len64 : Tbl := Tbl.cons 206 len64_ent T_refDigits
theorem T_len64_ok : CallOk Tryd.prog gTab T_len64 := cons_ok T_refDigits_ok len64_ok
/-! downpour/degree.weights -/
noncomputable def weightsF_s1 {R : Type} (z : Int) (c0 : Nat → Int → Option R) : Option R :=
  c0 0 z
theorem weightsF_s1_eq (fuel : Nat)  (z : Int) : callN Tryd.prog mode5 T_len64 fuel 187 [vI z] [] = weightsF_s1 z (fun a1 a2 => some (.fn (.func 210) [] [.ptr 0 1 a1 0], [some ⟨3, .agg [vI a2], true⟩])) := by kernel_rfl
noncomputable def weightsF {R : Type} (fuel : Nat) (z : Int) (r0 : Nat → Int → Option R) : Option R :=
  (weightsF_s1 z (fun a1 a2 => r0 a1 a2))
theorem weightsF_eq (fuel : Nat) (z : Int) : callN Tryd.prog mode5 T_len64 fuel 187 [.s (.int .i64 z)] [] = weightsF fuel z (fun z0 z1 => some (.fn (.func 210) [] [.ptr 0 1 z0 0], [some ⟨3, .agg [.s (.int .i64 z1)], true⟩])) := by
  unfold weightsF
  exact (weightsF_s1_eq fuel  z)
theorem weights_fact (z : Int) : Fact Tryd.prog gTab 187 [.s (.int .i64 z)] [] (.fn (.func 210) [] [.ptr 0 1 0 0], [some ⟨3, .agg [.s (.int .i64 z)], true⟩]) := by
  refine callN_fact hN hM T_len64_ok (n := 0) (mode := mode5) ?_
  rw [weightsF_eq]
  rfl
noncomputable def weights_ent : List V → List Blk → Option (Bool × Out)
  | [.s (.int .i64 z)], [] => some (true, (.fn (.func 210) [] [.ptr 0 1 0 0], [some ⟨3, .agg [.s (.int .i64 z)], true⟩]))
  | _, _ => none
theorem weights_ok : ∀ args bs out, weights_ent args bs = some (true, out) → Fact Tryd.prog gTab 187 args bs out := by
  intro args bs out h
  unfold weights_ent at h
  split at h
  · rename_i z
    simp only [Option.some.injEq, Prod.mk.injEq] at h
    obtain ⟨_, rfl⟩ := h
    exact weights_fact z
  · cases h
noncomputable def T_weights : Tbl := Tbl.cons 187 weights_ent T_len64
theorem T_weights_ok : CallOk Tryd.prog gTab T_weights := cons_ok T_len64_ok weights_ok
def mode6 : FuncId → Nat := fun f => 0
/-! downpour/downpourref07.Weight -/
noncomputable def refWeightF_s1 {R : Type} (z d : Int) (c0 : Int → Option R) : Option R :=
  grd (decide (1 ≤ z) && decide (z ≤ 64)) <|
  bnd (divI .quo .i64 z (rootS z)) fun v1 =>
  bnd (divI .quo .u64 4294967296 (IntKind.u64.wrap z)) fun v2 =>
  br (decide (d > 1))
    (bnd (divI .quo .u64 4294967296 (IntKind.u64.wrap (IntKind.i64.wrap (d * (IntKind.i64.wrap (d - 1)))))) fun v3 =>
    br (decide (d < v1))
      (bnd (divI .quo .u64 (IntKind.u64.wrap (4294967296 * (IntKind.u64.wrap (rootS z)))) (IntKind.u64.wrap (IntKind.i64.wrap (d * z)))) fun v4 =>
      br (d == v1)
        (grd (decide (1 ≤ (rootS z)) && decide ((rootS z) ≤ 8)) <|
        bnd (divI .quo .u64 (IntKind.u64.wrap ((IntKind.u64.wrap (4294967296 * (IntKind.u64.wrap (rootS z)))) * (IntKind.u64.wrap (digS (rootS z))))) (IntKind.u64.wrap z)) fun v5 =>
        c0 (IntKind.u64.wrap ((IntKind.u64.wrap (v3 + v4)) + v5)))
        (c0 (IntKind.u64.wrap (v3 + v4))))
      (br (d == v1)
        (grd (decide (1 ≤ (rootS z)) && decide ((rootS z) ≤ 8)) <|
        bnd (divI .quo .u64 (IntKind.u64.wrap ((IntKind.u64.wrap (4294967296 * (IntKind.u64.wrap (rootS z)))) * (IntKind.u64.wrap (digS (rootS z))))) (IntKind.u64.wrap z)) fun v8 =>
        c0 (IntKind.u64.wrap (v3 + v8)))
        (c0 v3)))
    (br (decide (d < v1))
      (bnd (divI .quo .u64 (IntKind.u64.wrap (4294967296 * (IntKind.u64.wrap (rootS z)))) (IntKind.u64.wrap (IntKind.i64.wrap (d * z)))) fun v11 =>
      br (d == v1)
        (grd (decide (1 ≤ (rootS z)) && decide ((rootS z) ≤ 8)) <|
        bnd (divI .quo .u64 (IntKind.u64.wrap ((IntKind.u64.wrap (4294967296 * (IntKind.u64.wrap (rootS z)))) * (IntKind.u64.wrap (digS (rootS z))))) (IntKind.u64.wrap z)) fun v12 =>
        c0 (IntKind.u64.wrap ((IntKind.u64.wrap (v2 + v11)) + v12)))
        (c0 (IntKind.u64.wrap (v2 + v11))))
      (br (d == v1)
        (grd (decide (1 ≤ (rootS z)) && decide ((rootS z) ≤ 8)) <|
        bnd (divI .quo .u64 (IntKind.u64.wrap ((IntKind.u64.wrap (4294967296 * (IntKind.u64.wrap (rootS z)))) * (IntKind.u64.wrap (digS (rootS z))))) (IntKind.u64.wrap z)) fun v15 =>
        c0 (IntKind.u64.wrap (v2 + v15)))
        (c0 v2)))
theorem refWeightF_s1_eq (fuel : Nat)  (z d : Int) : callN Tryd.prog mode6 T_weights fuel 217 [vI z, vI d] [] = refWeightF_s1 z d (fun a6 => some (vU a6, [])) := by kernel_rfl
noncomputable def refWeightF {R : Type} (fuel : Nat) (z d : Int) (r0 : Int → Option R) : Option R :=
  (refWeightF_s1 z d (fun a6 => r0 a6))
theorem refWeightF_eq (fuel : Nat) (z d : Int) : callN Tryd.prog mode6 T_weights fuel 217 [.s (.int .i64 z), .s (.int .i64 d)] [] = refWeightF fuel z d (fun z0 => some (.s (.int .u64 z0), [])) := by
  unfold refWeightF
  exact (refWeightF_s1_eq fuel  z d)
theorem refWeight_fact (z : Int) (d : Int) (hg : ((decide (1 ≤ z) && decide (z ≤ 64)) && decide (1 ≤ d) && decide (d ≤ z)) = true) : Fact Tryd.prog gTab 217 [.s (.int .i64 z), .s (.int .i64 d)] [] (.s (.int .u64 (weightS z d)), []) := by
  simp only [Bool.and_eq_true, decide_eq_true_eq] at hg
  obtain ⟨⟨⟨hk, hk2⟩, hd⟩, hd2⟩ := hg
  refine callN_fact hN hM T_weights_ok (n := 0) (mode := mode6) ?_
  rw [refWeightF_eq]
  unfold refWeightF refWeightF_s1
  have hr := root_range hk hk2
  have hdg := dig_range hr.1 hr.2
  have hw := weight_range hk hk2 hd (by omega)
  rw [weightS_eq] at hw ⊢
  unfold weightI at hw ⊢
  generalize rootS z = r at *
  generalize digS r = g at *
  have m1 := mul_small hd (show d ≤ 64 by omega) hk hk2
  have hm2 := Int.mul_le_mul hr.2 hdg.2 (by omega) (show (0 : Int) ≤ 8 by decide)
  have hm := mul_small (a := r) (b := g) hr.1 (by omega) hdg.1 (by omega)
  have e0 : IntKind.u64.wrap z = z := wrap_u64 (by omega) (by omega)
  have e1 : IntKind.u64.wrap r = r := wrap_u64 (by omega) (by omega)
  have e2 : IntKind.u64.wrap (4294967296 * r) = 4294967296 * r := wrap_u64 (by omega) (by omega)
  have e3 : IntKind.u64.wrap g = g := wrap_u64 (by omega) (by omega)
  have e4 : IntKind.u64.wrap (4294967296 * r * g) = 4294967296 * r * g := by rw [Int.mul_assoc]; exact wrap_u64 (by omega) (by omega)
  have e5 : IntKind.u64.wrap (IntKind.i64.wrap (d * z)) = d * z := by rw [wrap_i64 (by omega) (by omega), wrap_u64 (by omega) (by omega)]
  have q1 : divI .quo .i64 z r = some (z / r) := quo_i64 (by omega) (by omega) (by omega)
  have q2 : divI .quo .u64 4294967296 z = some (4294967296 / z) := quo_u64 (by decide) (by decide) (by omega)
  have q3 : divI .quo .u64 (4294967296 * r) (d * z) = some (4294967296 * r / (d * z)) := quo_u64 (by omega) (by omega) (by omega)
  have q4 : divI .quo .u64 (4294967296 * r * g) z = some (4294967296 * r * g / z) := by rw [Int.mul_assoc]; exact quo_u64 (by omega) (by omega) (by omega)
  have a2 := div_small (a := 4294967296 * r) (b := d * z) (by omega) m1.1
  have a3 := div_small (a := 4294967296 * r * g) (b := z) (by rw [Int.mul_assoc]; omega) hk
  have a1 := div_small (a := 4294967296) (by decide) hk
  rw [Int.mul_assoc] at a3
  have hgr : (decide (1 ≤ r) && decide (r ≤ 8)) = true := by simp; omega
  have hgk : (decide (1 ≤ z) && decide (z ≤ 64)) = true := by simp; omega
  simp only [grd_of hgk, e0, e1, e2, e3, e4, e5, q1, q2, q3, q4, bnd_some, grd_of hgr, br_if, decide_eq_true_eq, beq_iff_eq]
  rw [Int.mul_assoc 4294967296 r g] at *
  generalize hp : z / r = p at *
  generalize 4294967296 * r / (d * z) = x at *
  generalize 4294967296 * (r * g) / z = y at *
  generalize 4294967296 / z = u at *
  by_cases hd1 : d > 1
  · have m2 := mul_small hd (show d ≤ 64 by omega) (show 1 ≤ d - 1 by omega) (by omega)
    have e6 : IntKind.u64.wrap (IntKind.i64.wrap (d * IntKind.i64.wrap (d - 1))) = d * (d - 1) := by rw [wrap_i64 (x := d - 1) (by omega) (by omega), wrap_i64 (by omega) (by omega), wrap_u64 (by omega) (by omega)]
    have q5 : divI .quo .u64 4294967296 (d * (d - 1)) = some (4294967296 / (d * (d - 1))) := quo_u64 (by decide) (by decide) (by omega)
    have a4 := div_small (a := 4294967296) (b := d * (d - 1)) (by decide) m2.1
    simp only [if_pos hd1, e6, q5, bnd_some] at hw ⊢
    generalize 4294967296 / (d * (d - 1)) = v at *
    by_cases h1 : d < p
    · have h2 : ¬ d = p := by omega
      simp only [if_pos h1, if_neg h2] at hw ⊢
      rw [wrap_u64 (by omega) (by omega)]
    · by_cases h2 : d = p
      · simp only [if_neg h1, if_pos h2] at hw ⊢
        rw [wrap_u64 (by omega) (by omega)]
      · simp only [if_neg h1, if_neg h2, Int.add_zero]
  · simp only [if_neg hd1] at hw ⊢
    by_cases h1 : d < p
    · have h2 : ¬ d = p := by omega
      simp only [if_pos h1, if_neg h2] at hw ⊢
      rw [wrap_u64 (by omega) (by omega)]
    · by_cases h2 : d = p
      · simp only [if_neg h1, if_pos h2] at hw ⊢
        rw [wrap_u64 (by omega) (by omega)]
      · simp only [if_neg h1, if_neg h2, Int.add_zero]
noncomputable def refWeight_ent : List V → List Blk → Option (Bool × Out)
  | [.s (.int .i64 z), .s (.int .i64 d)], [] => some (((decide (1 ≤ z) && decide (z ≤ 64)) && decide (1 ≤ d) && decide (d ≤ z)), (.s (.int .u64 (weightS z d)), []))
  | _, _ => none
theorem refWeight_ok : ∀ args bs out, refWeight_ent args bs = some (true, out) → Fact Tryd.prog gTab 217 args bs out := by
  intro args bs out h
  unfold refWeight_ent at h
  split at h
  · rename_i z d
    simp only [Option.some.injEq, Prod.mk.injEq] at h
    obtain ⟨hg, rfl⟩ := h
    exact refWeight_fact z d hg
  · cases h
noncomputable def T_refWeight : Tbl := Tbl.cons 217 refWeight_ent T_weights
theorem T_refWeight_ok : CallOk Tryd.prog gTab T_refWeight := cons_ok T_weights_ok refWeight_ok
end Go.Proofs.YtfpdcfgjhkiklaaDoor
