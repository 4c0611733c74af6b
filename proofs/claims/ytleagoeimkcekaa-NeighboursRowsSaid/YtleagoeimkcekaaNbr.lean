/- Rows of several symbols: what each function tells. -/
import Derived.Test.YtleagoeimkcekaaPmTab
import Derived.KernelRfl
import Derived.Test.YtleagoeimkcekaaProg
import Derived.Test.YtleagoeimkcekaaNb
set_option autoImplicit false
set_option maxRecDepth 100000
set_option maxHeartbeats 4000000
set_option linter.unusedVariables false
set_option linter.unusedSimpArgs false
namespace Go.Proofs.Ytleagoeimkcekaa
open Go Go.PM Go.Proofs Go.Shelf Go.PM.Row Go.PM.Bits Go.PM.Bit
def mode12 : FuncId → Nat := fun f => 0
/-! Matrices: which are the same. -/
def eqMI (n : Int) (a : List (Int × List Int)) (m : Int) (b : List (Int × List Int)) : Bool := decide (n = m ∧ a = b)
noncomputable def eqM : Int → List (Int × List Int) → Int → List (Int × List Int) → Bool := Classical.choose (⟨eqMI, rfl⟩ : ∃ f, f = eqMI)
theorem eqM_eq : eqM = eqMI := Classical.choose_spec (⟨eqMI, rfl⟩ : ∃ f, f = eqMI)
def shMI (a : List (Int × List Int)) : Bool := decide (a.length ≤ 1000000) && a.all fun r => decide (r.2.length ≤ 1000000)
noncomputable def shM : List (Int × List Int) → Bool := Classical.choose (⟨shMI, rfl⟩ : ∃ f, f = shMI)
theorem shM_eq : shM = shMI := Classical.choose_spec (⟨shMI, rfl⟩ : ∃ f, f = shMI)
theorem shM_iff {a : List (Int × List Int)} : shM a = true ↔ a.length ≤ 1000000 ∧ ∀ r, r ∈ a → r.2.length ≤ 1000000 := by rw [shM_eq]; unfold shMI; simp
theorem eqM_self (n : Int) (a : List (Int × List Int)) : eqM n a n a = true := by rw [eqM_eq]; unfold eqMI; simp
/-! downpour/downpourref03.Same -/
noncomputable def refMSameF_s2 {R : Type} (w7 : Int) (w6 : Int) (a : List (Int × List Int)) (b : List (Int × List Int)) (n : Int) (m : Int) (c0 : Option R) (c1 : Int → Int → Option R) (c2 : Option R) : Option R :=
  br (decide (w7 < w6))
    (bnd (ix a w7) fun e10 =>
    bnd (ix b w7) fun e11 =>
    grd (decide (e10.2.length ≤ 1000000)) <|
    br (!(eqRow e10.1 e10.2 e11.1 e11.2))
      (c0)
      (c1 w6 (IntKind.i64.wrap (w7 + 1))))
    (c2)
theorem refMSameF_s2_eq (fuel : Nat) (k : Nat) (K : Ex → St → Option Out) (w7 : Int) (w6 : Int) (a : List (Int × List Int)) (b : List (Int × List Int)) (n : Int) (m : Int) : lpN (sub (bodyOf Try.prog 14) [1, 1, 0, 1, 0, 0]) (fnX Try.prog mode12 T_lawNbTell fuel 39 0) 16 [2, 3, 4, 22, 23] (k + 1) ⟨[(2, .ptr 0 2 0 0), (3, .ptr 1 2 0 0), (4, .s (.bool false)), (22, .s (.int .i64 w6)), (23, .s (.int .i64 w7))], [(0, some ⟨40, .agg [.s (.int .i64 n), .lt (.pair (.int .i64) (.sl (.int .u64))) a], true⟩), (1, some ⟨40, .agg [.s (.int .i64 m), .lt (.pair (.int .i64) (.sl (.int .u64))) b], true⟩)], 2, none⟩ K = refMSameF_s2 w7 w6 a b n m (K .ret ⟨[(4, .s (.bool false))], [], 0, none⟩) (fun (a12 : Int) (a13 : Int) => lpN (sub (bodyOf Try.prog 14) [1, 1, 0, 1, 0, 0]) (fnX Try.prog mode12 T_lawNbTell fuel 39 0) 16 [2, 3, 4, 22, 23] k ⟨[(2, .ptr 0 2 0 0), (3, .ptr 1 2 0 0), (4, .s (.bool false)), (22, .s (.int .i64 a12)), (23, .s (.int .i64 a13))], [(0, some ⟨40, .agg [.s (.int .i64 n), .lt (.pair (.int .i64) (.sl (.int .u64))) a], true⟩), (1, some ⟨40, .agg [.s (.int .i64 m), .lt (.pair (.int .i64) (.sl (.int .u64))) b], true⟩)], 2, none⟩ K) (K (.exit 0) ⟨[(4, .s (.bool false))], [], 0, none⟩) := by kernel_rfl
noncomputable def refMSameF_l1 {R : Type} (fuel : Nat) (n : Int) (a : List (Int × List Int)) (m : Int) (b : List (Int × List Int)) (k0 : Option R) (k1 : Option R) : Nat → Int → Int → Option R
  | 0, _, _ => none
  | k + 1, w6, w7 =>
    (refMSameF_s2 w7 w6 a b n m (k0) (fun (a12 : Int) (a13 : Int) => ( refMSameF_l1 fuel n a m b k0 k1 k a12 a13 )) (k1))
theorem refMSameF_l1_eq (fuel : Nat) (n : Int) (a : List (Int × List Int)) (m : Int) (b : List (Int × List Int)) (K : Ex → St → Option Out) : ∀ (k : Nat) (w6 : Int) (w7 : Int), lpN (sub (bodyOf Try.prog 14) [1, 1, 0, 1, 0, 0]) (fnX Try.prog mode12 T_lawNbTell fuel 39 0) 16 [2, 3, 4, 22, 23] k ⟨[(2, .ptr 0 2 0 0), (3, .ptr 1 2 0 0), (4, .s (.bool false)), (22, .s (.int .i64 w6)), (23, .s (.int .i64 w7))], [(0, some ⟨40, .agg [.s (.int .i64 n), .lt (.pair (.int .i64) (.sl (.int .u64))) a], true⟩), (1, some ⟨40, .agg [.s (.int .i64 m), .lt (.pair (.int .i64) (.sl (.int .u64))) b], true⟩)], 2, none⟩ K = refMSameF_l1 fuel n a m b (K .ret ⟨[(4, .s (.bool false))], [], 0, none⟩) (K (.exit 0) ⟨[(4, .s (.bool false))], [], 0, none⟩) k w6 w7
  | 0, _, _ => rfl
  | k + 1, w6, w7 => by
    unfold refMSameF_l1
    exact (refMSameF_s2_eq fuel k K w7 w6 a b n m).trans (congr (congr (congr (Eq.refl (refMSameF_s2 (R := Out) w7 w6 a b n m)) (rfl)) (funext fun a12 => funext fun a13 => refMSameF_l1_eq fuel n a m b K k a12 a13)) (rfl))
noncomputable def refMSameF_s3 {R : Type}  (c0 : Bool → Option R) : Option R :=
  c0 false
theorem refMSameF_s3_eq (fuel : Nat)   : (kont (fnX Try.prog mode12 T_lawNbTell fuel 39 0) (bodyOf Try.prog 14) [1, 1, 0, 1, 0] 16 (endK Try.prog 0 0 14)) .ret ⟨[(4, .s (.bool false))], [], 0, none⟩ = refMSameF_s3  (fun (a16 : Bool) => some (.s (.bool a16), [])) := by kernel_rfl
noncomputable def refMSameF_s4 {R : Type}  (c0 : Bool → Option R) : Option R :=
  c0 true
theorem refMSameF_s4_eq (fuel : Nat)   : (kont (fnX Try.prog mode12 T_lawNbTell fuel 39 0) (bodyOf Try.prog 14) [1, 1, 0, 1, 0] 16 (endK Try.prog 0 0 14)) (.exit 0) ⟨[(4, .s (.bool false))], [], 0, none⟩ = refMSameF_s4  (fun (a17 : Bool) => some (.s (.bool a17), [])) := by kernel_rfl
noncomputable def refMSameF_s1 {R : Type} (n : Int) (m : Int) (a : List (Int × List Int)) (b : List (Int × List Int)) (c0 : Bool → Option R) (c1 : Int → Int → Option R) : Option R :=
  br (n != m)
    (c0 false)
    (br ((((a.length : Nat) : Int) : Int) != ((b.length : Nat) : Int))
      (c0 false)
      (c1 ((a.length : Nat) : Int) 0))
theorem refMSameF_s1_eq (fuel : Nat)  (n : Int) (m : Int) (a : List (Int × List Int)) (b : List (Int × List Int)) : callN Try.prog mode12 T_lawNbTell fuel 14 [.agg [.s (.int .i64 n), .lt (.pair (.int .i64) (.sl (.int .u64))) a], .agg [.s (.int .i64 m), .lt (.pair (.int .i64) (.sl (.int .u64))) b]] [] = refMSameF_s1 n m a b (fun (a1 : Bool) => some (.s (.bool a1), [])) (fun (a14 : Int) (a15 : Int) => lpN (sub (bodyOf Try.prog 14) [1, 1, 0, 1, 0, 0]) (fnX Try.prog mode12 T_lawNbTell fuel 39 0) 16 [2, 3, 4, 22, 23] fuel ⟨[(2, .ptr 0 2 0 0), (3, .ptr 1 2 0 0), (4, .s (.bool false)), (22, .s (.int .i64 a14)), (23, .s (.int .i64 a15))], [(0, some ⟨40, .agg [.s (.int .i64 n), .lt (.pair (.int .i64) (.sl (.int .u64))) a], true⟩), (1, some ⟨40, .agg [.s (.int .i64 m), .lt (.pair (.int .i64) (.sl (.int .u64))) b], true⟩)], 2, none⟩ (kont (fnX Try.prog mode12 T_lawNbTell fuel 39 0) (bodyOf Try.prog 14) [1, 1, 0, 1, 0] 16 (endK Try.prog 0 0 14))) := by kernel_rfl
noncomputable def refMSameF {R : Type} (fuel : Nat) (n : Int) (a : List (Int × List Int)) (m : Int) (b : List (Int × List Int)) (r0 : Bool → Option R) : Option R :=
  (refMSameF_s1 n m a b (fun (a1 : Bool) => r0 a1) (fun (a14 : Int) (a15 : Int) => (refMSameF_l1 fuel n a m b ((refMSameF_s3 (fun (a16 : Bool) => r0 a16))) ((refMSameF_s4 (fun (a17 : Bool) => r0 a17))) fuel a14 a15)))
theorem refMSameF_eq (fuel : Nat) (n : Int) (a : List (Int × List Int)) (m : Int) (b : List (Int × List Int)) : callN Try.prog mode12 T_lawNbTell fuel 14 [.agg [.s (.int .i64 n), .lt (.pair (.int .i64) (.sl (.int .u64))) a], .agg [.s (.int .i64 m), .lt (.pair (.int .i64) (.sl (.int .u64))) b]] [] = refMSameF fuel n a m b (fun (z0 : Bool) => some (.s (.bool z0), [])) := by
  unfold refMSameF
  exact (refMSameF_s1_eq fuel  n m a b).trans (congr (congr (Eq.refl (refMSameF_s1 (R := Out) n m a b)) (rfl)) (funext fun a14 => funext fun a15 => (refMSameF_l1_eq fuel n a m b (kont (fnX Try.prog mode12 T_lawNbTell fuel 39 0) (bodyOf Try.prog 14) [1, 1, 0, 1, 0] 16 (endK Try.prog 0 0 14)) fuel a14 a15).trans (congrFun (congrFun (congrFun (congr (congr (Eq.refl (refMSameF_l1 (R := Out) fuel n a m b)) ((refMSameF_s3_eq fuel  ))) ((refMSameF_s4_eq fuel  ))) fuel) a14) a15)))
theorem refMSame_loop {R : Type} (fuel : Nat) (n m : Int) (a b : List (Int × List Int)) (hab : a.length = b.length) (hs : shM a = true) (k0 k1 : Option R) : ∀ (k j : Nat), j ≤ a.length → a.length < j + k → refMSameF_l1 fuel n a m b k0 k1 k (a.length : Int) (j : Int) = if a.drop j = b.drop j then k1 else k0
  | 0, j, h1, h2 => by omega
  | k + 1, j, h1, h2 => by
    obtain ⟨hx, hr⟩ := shM_iff.1 hs
    unfold refMSameF_l1 refMSameF_s2
    rw [br_if]
    by_cases hc : j < a.length
    · have hc2 : j < b.length := by omega
      rw [if_pos (by simpa using hc), bnd_of ((ix_nat a j).trans (List.getElem?_eq_getElem hc)), bnd_of ((ix_nat b j).trans (List.getElem?_eq_getElem hc2)), grd_of (decide_eq_true (hr _ (List.getElem_mem hc))), br_if, List.drop_eq_getElem_cons hc, List.drop_eq_getElem_cons hc2, wrap_i64 (by omega) (by omega), show (j : Int) + 1 = ((j + 1 : Nat) : Int) by omega]
      dsimp only
      rw [refMSame_loop fuel n m a b hab hs k0 k1 k (j + 1) (by omega) (by omega), eqRow_eq]
      unfold eqRowI
      generalize a[j] = x
      generalize b[j] = y
      generalize a.drop (j + 1) = t
      generalize b.drop (j + 1) = u
      obtain ⟨x1, x2⟩ := x
      obtain ⟨y1, y2⟩ := y
      by_cases he : x1 = y1
      · by_cases he2 : x2 = y2 <;> simp [he, he2]
      · simp [he]
    · rw [if_neg (by simpa using hc), List.drop_eq_nil_of_le (by omega), List.drop_eq_nil_of_le (by omega)]
      simp
theorem refMSame_fact (n : Int) (a : List (Int × List Int)) (m : Int) (b : List (Int × List Int)) (hg : (shM a) = true) : Fact Try.prog noG 14 [.agg [.s (.int .i64 n), .lt (.pair (.int .i64) (.sl (.int .u64))) a], .agg [.s (.int .i64 m), .lt (.pair (.int .i64) (.sl (.int .u64))) b]] [] (.s (.bool (eqM n a m b)), []) := by
  have hx := (shM_iff.1 hg).1
  refine callN_fact hN hM T_lawNbTell_ok (n := a.length + 1) (mode := mode12) ?_
  rw [refMSameF_eq]
  unfold refMSameF refMSameF_s1
  rw [br_if, br_if, eqM_eq]
  unfold eqMI
  by_cases hn : n = m
  · rw [if_neg (by simpa using hn)]
    by_cases hab : a.length = b.length
    · rw [if_neg (by simp; omega)]
      dsimp only
      have := refMSame_loop (R := Out) (a.length + 1) n m a b hab hg
      rw [show (0 : Int) = ((0 : Nat) : Int) from rfl, this _ _ _ _ (by omega) (by omega), List.drop_zero, List.drop_zero]
      unfold refMSameF_s3 refMSameF_s4
      by_cases h : a = b <;> simp [h, hn]
    · rw [if_pos (by simp; omega)]
      have : a ≠ b := by rintro rfl; exact hab rfl
      simp [this]
  · rw [if_pos (by simpa using hn)]
    simp [hn]
noncomputable def refMSame_ent : List V → List Blk → Option (Bool × Out)
  | [.agg [.s (.int .i64 n), w0], .agg [.s (.int .i64 m), w1]], [] => (asSl (.pair (.int .i64) (.sl (.int .u64))) w0).bind fun a => (asSl (.pair (.int .i64) (.sl (.int .u64))) w1).bind fun b => some ((shM a), (.s (.bool (eqM n a m b)), []))
  | _, _ => none
theorem refMSame_ok : ∀ args bs out, refMSame_ent args bs = some (true, out) → Fact Try.prog noG 14 args bs out := by
  intro args bs out h
  unfold refMSame_ent at h
  split at h
  · rename_i n w0 m w1
    obtain ⟨a, h_a, h⟩ := Option.bind_eq_some_iff.1 h
    obtain ⟨b, h_b, h⟩ := Option.bind_eq_some_iff.1 h
    simp only [Option.some.injEq, Prod.mk.injEq] at h
    obtain ⟨hg, rfl⟩ := h
    exact (refMSame_fact n a m b hg).args (fun _ _ _ => fun _ h => RVs_two (fun _ h => RV_agg_two (fun _ h => RVs_two (fun _ h => h) (fun _ h => RVs_two (fun _ h => RV_sl (s := (.pair (.int .i64) (.sl (.int .u64)))) h_a h) (fun _ h => h) h) h) h) (fun _ h => RVs_two (fun _ h => RV_agg_two (fun _ h => RVs_two (fun _ h => h) (fun _ h => RVs_two (fun _ h => RV_sl (s := (.pair (.int .i64) (.sl (.int .u64)))) h_b h) (fun _ h => h) h) h) h) (fun _ h => h) h) h)
  · cases h
noncomputable def T_refMSame : Tbl := Tbl.cons 14 refMSame_ent T_lawNbTell
theorem T_refMSame_ok : CallOk Try.prog noG T_refMSame := cons_ok T_lawNbTell_ok refMSame_ok
/-! Rows of several symbols. -/
noncomputable def rowsI (z : Int) (l : List Int) : List (Int × List Int) := l.map fun d => (z, ofS z (nbS z d))
noncomputable def rowsS : Int → List Int → List (Int × List Int) := Classical.choose (⟨rowsI, rfl⟩ : ∃ f, f = rowsI)
theorem rowsS_eq : rowsS = rowsI := Classical.choose_spec (⟨rowsI, rfl⟩ : ∃ f, f = rowsI)
theorem rows_nil (z : Int) : rowsS z [] = [] := by rw [rowsS_eq]; rfl
theorem rows_len (z : Int) (l : List Int) : (rowsS z l).length = l.length := by rw [rowsS_eq]; unfold rowsI; exact List.length_map _
theorem rows_snoc (z : Int) (l : List Int) (d : Int) : rowsS z (l ++ [d]) = rowsS z l ++ [(z, ofS z (nbS z d))] := by rw [rowsS_eq]; unfold rowsI; rw [List.map_append]; rfl
theorem sh_nil : shM [] = true := by rw [shM_iff]; simp
theorem sh_rows {z : Int} {l : List Int} (hz : z ≤ 64) (hl : l.length ≤ 1000000) : shM (rowsS z l) = true := by
  rw [shM_iff, rows_len]
  refine ⟨hl, fun r hr => ?_⟩
  rw [rowsS_eq] at hr
  obtain ⟨d, _, rfl⟩ := List.mem_map.1 hr
  have := nb_ofLen (z := z) (d := d) hz
  show (ofS z (nbS z d)).length ≤ 1000000
  omega
theorem ok_u {l : List Int} (h : okW l = true) {j : Nat} (hj : j < l.length) : (decide (0 ≤ l[j]) && decide (l[j] < 18446744073709551616)) = true := by
  have := okW_iff.1 h _ (List.getElem_mem hj)
  simp; omega
def mode13 : FuncId → Nat := fun f => 0
/-! downpour/neighbours.Rows -/
noncomputable def NbRowsF_s3 {R : Type} (w21 : Int) (w6 : Int) (l : List Int) (z : Int) (w5 : List Int) (w23 : List (Int × List Int)) (w22 : Nat) (c0 : Int → Nat → (List (Int × List Int)) → Option R) (c1 : Nat → (List (Int × List Int)) → Option R) : Option R :=
  br (decide (w21 < w6))
    (bnd (ix l w21) fun e27 =>
    grd ((decide (1 ≤ z) && decide (z ≤ 64)) && eqS_li w5 (tabS z) && (decide (0 ≤ e27) && decide (e27 < 18446744073709551616))) <|
    grd (Nat.beq w23.length w22) <|
    grd (okN (w22 + 1) 32) <|
    c0 (IntKind.i64.wrap (w21 + 1)) ((w23 ++ [(z, (ofS z (nbS z e27)))]).length) (w23 ++ [(z, (ofS z (nbS z e27)))]))
    (c1 w22 w23)
theorem NbRowsF_s3_eq (fuel : Nat) (k : Nat) (K : Ex → St → Option Out) (w21 : Int) (w6 : Int) (l : List Int) (z : Int) (w5 : List Int) (w23 : List (Int × List Int)) (w22 : Nat) : lpN (sub (bodyOf Try.prog 13) [1, 1, 1, 1, 1, 0, 1, 0, 0]) (fnX Try.prog mode13 T_refMSame fuel 45 0) 17592186044976 [4, 5, 8, 9, 29, 30, 31] (k + 1) ⟨[(4, .ptr 0 2 0 0), (5, .s (.int .i64 0)), (8, .fn (.func 29) [.agg [.s (.int .i64 z), .li .u64 w5]] []), (9, .ptr 1 2 0 0), (29, .li .u64 l), (30, .s (.int .i64 w6)), (31, .s (.int .i64 w21))], [(0, some ⟨40, .agg [.s (.int .i64 0), .s (.slice none 0 0)], true⟩), (1, some ⟨40, .agg [.s (.int .i64 z), .sl 2 2 0 w22], true⟩), (2, some ⟨29, .lt (.pair (.int .i64) (.sl (.int .u64))) w23, true⟩)], 3, none⟩ K = NbRowsF_s3 w21 w6 l z w5 w23 w22 (fun (a28 : Int) (a29 : Nat) (a30 : List (Int × List Int)) => lpN (sub (bodyOf Try.prog 13) [1, 1, 1, 1, 1, 0, 1, 0, 0]) (fnX Try.prog mode13 T_refMSame fuel 45 0) 17592186044976 [4, 5, 8, 9, 29, 30, 31] k ⟨[(4, .ptr 0 2 0 0), (5, .s (.int .i64 0)), (8, .fn (.func 29) [.agg [.s (.int .i64 z), .li .u64 w5]] []), (9, .ptr 1 2 0 0), (29, .li .u64 l), (30, .s (.int .i64 w6)), (31, .s (.int .i64 a28))], [(0, some ⟨40, .agg [.s (.int .i64 0), .s (.slice none 0 0)], true⟩), (1, some ⟨40, .agg [.s (.int .i64 z), .sl 2 2 0 a29], true⟩), (2, some ⟨29, .lt (.pair (.int .i64) (.sl (.int .u64))) a30, true⟩)], 3, none⟩ K) (fun (a31 : Nat) (a32 : List (Int × List Int)) => K (.exit 0) ⟨[(4, .ptr 0 2 0 0), (5, .s (.int .i64 0)), (9, .ptr 1 2 0 0)], [(0, some ⟨40, .agg [.s (.int .i64 0), .s (.slice none 0 0)], true⟩), (1, some ⟨40, .agg [.s (.int .i64 z), .sl 2 2 0 a31], true⟩), (2, some ⟨29, .lt (.pair (.int .i64) (.sl (.int .u64))) a32, true⟩)], 3, none⟩) := by kernel_rfl
noncomputable def NbRowsF_l2 {R : Type} (fuel : Nat) (z : Int) (w5 : List Int) (l : List Int) (w6 : Int) (k0 : Nat → (List (Int × List Int)) → Option R) : Nat → Int → Nat → (List (Int × List Int)) → Option R
  | 0, _, _, _ => none
  | k + 1, w21, w22, w23 =>
    (NbRowsF_s3 w21 w6 l z w5 w23 w22 (fun (a28 : Int) (a29 : Nat) (a30 : List (Int × List Int)) => ( NbRowsF_l2 fuel z w5 l w6 k0 k a28 a29 a30 )) (fun (a31 : Nat) (a32 : List (Int × List Int)) => k0 a31 a32))
theorem NbRowsF_l2_eq (fuel : Nat) (z : Int) (w5 : List Int) (l : List Int) (w6 : Int) (K : Ex → St → Option Out) : ∀ (k : Nat) (w21 : Int) (w22 : Nat) (w23 : List (Int × List Int)), lpN (sub (bodyOf Try.prog 13) [1, 1, 1, 1, 1, 0, 1, 0, 0]) (fnX Try.prog mode13 T_refMSame fuel 45 0) 17592186044976 [4, 5, 8, 9, 29, 30, 31] k ⟨[(4, .ptr 0 2 0 0), (5, .s (.int .i64 0)), (8, .fn (.func 29) [.agg [.s (.int .i64 z), .li .u64 w5]] []), (9, .ptr 1 2 0 0), (29, .li .u64 l), (30, .s (.int .i64 w6)), (31, .s (.int .i64 w21))], [(0, some ⟨40, .agg [.s (.int .i64 0), .s (.slice none 0 0)], true⟩), (1, some ⟨40, .agg [.s (.int .i64 z), .sl 2 2 0 w22], true⟩), (2, some ⟨29, .lt (.pair (.int .i64) (.sl (.int .u64))) w23, true⟩)], 3, none⟩ K = NbRowsF_l2 fuel z w5 l w6 (fun (y25 : Nat) (y26 : List (Int × List Int)) => K (.exit 0) ⟨[(4, .ptr 0 2 0 0), (5, .s (.int .i64 0)), (9, .ptr 1 2 0 0)], [(0, some ⟨40, .agg [.s (.int .i64 0), .s (.slice none 0 0)], true⟩), (1, some ⟨40, .agg [.s (.int .i64 z), .sl 2 2 0 y25], true⟩), (2, some ⟨29, .lt (.pair (.int .i64) (.sl (.int .u64))) y26, true⟩)], 3, none⟩) k w21 w22 w23
  | 0, _, _, _ => rfl
  | k + 1, w21, w22, w23 => by
    unfold NbRowsF_l2
    exact (NbRowsF_s3_eq fuel k K w21 w6 l z w5 w23 w22).trans (congr (congr (Eq.refl (NbRowsF_s3 (R := Out) w21 w6 l z w5 w23 w22)) (funext fun a28 => funext fun a29 => funext fun a30 => NbRowsF_l2_eq fuel z w5 l w6 K k a28 a29 a30)) (rfl))
noncomputable def NbRowsF_s2 {R : Type} (w6 : Int) (l : List Int) (z : Int) (w5 : List Int) (c0 : Int → Nat → (List (Int × List Int)) → Option R) (c1 : Option R) : Option R :=
  br (decide (0 < w6))
    (bnd (ix l 0) fun e18 =>
    grd ((decide (1 ≤ z) && decide (z ≤ 64)) && eqS_li w5 (tabS z) && (decide (0 ≤ e18) && decide (e18 < 18446744073709551616))) <|
    c0 1 1 ([(z, (ofS z (nbS z e18)))]))
    (c1)
theorem NbRowsF_s2_eq (fuel : Nat) (k : Nat) (K : Ex → St → Option Out) (w6 : Int) (l : List Int) (z : Int) (w5 : List Int) : lpN (sub (bodyOf Try.prog 13) [1, 1, 1, 1, 1, 0, 1, 0, 0]) (fnX Try.prog mode13 T_refMSame fuel 45 0) 17592186044976 [4, 5, 8, 9, 29, 30, 31] (k + 1) ⟨[(4, .ptr 0 2 0 0), (5, .s (.int .i64 0)), (8, .fn (.func 29) [.agg [.s (.int .i64 z), .li .u64 w5]] []), (9, .ptr 1 2 0 0), (29, .li .u64 l), (30, .s (.int .i64 w6)), (31, .s (.int .i64 0))], [(0, some ⟨40, .agg [.s (.int .i64 0), .s (.slice none 0 0)], true⟩), (1, some ⟨40, .agg [.s (.int .i64 z), .s (.slice none 0 0)], true⟩)], 2, none⟩ K = NbRowsF_s2 w6 l z w5 (fun (a33 : Int) (a34 : Nat) (a35 : List (Int × List Int)) => lpN (sub (bodyOf Try.prog 13) [1, 1, 1, 1, 1, 0, 1, 0, 0]) (fnX Try.prog mode13 T_refMSame fuel 45 0) 17592186044976 [4, 5, 8, 9, 29, 30, 31] k ⟨[(4, .ptr 0 2 0 0), (5, .s (.int .i64 0)), (8, .fn (.func 29) [.agg [.s (.int .i64 z), .li .u64 w5]] []), (9, .ptr 1 2 0 0), (29, .li .u64 l), (30, .s (.int .i64 w6)), (31, .s (.int .i64 a33))], [(0, some ⟨40, .agg [.s (.int .i64 0), .s (.slice none 0 0)], true⟩), (1, some ⟨40, .agg [.s (.int .i64 z), .sl 2 2 0 a34], true⟩), (2, some ⟨29, .lt (.pair (.int .i64) (.sl (.int .u64))) a35, true⟩)], 3, none⟩ K) (K (.exit 0) ⟨[(4, .ptr 0 2 0 0), (5, .s (.int .i64 0)), (9, .ptr 1 2 0 0)], [(0, some ⟨40, .agg [.s (.int .i64 0), .s (.slice none 0 0)], true⟩), (1, some ⟨40, .agg [.s (.int .i64 z), .s (.slice none 0 0)], true⟩)], 2, none⟩) := by kernel_rfl
noncomputable def NbRowsF_l1 {R : Type} (fuel : Nat) (z : Int) (l : List Int) (k0 : Nat → (List (Int × List Int)) → Option R) (k1 : Option R) : Nat → List Int → Int → Option R
  | 0, _, _ => none
  | k + 1, w5, w6 =>
    (NbRowsF_s2 w6 l z w5 (fun (a33 : Int) (a34 : Nat) (a35 : List (Int × List Int)) => (NbRowsF_l2 fuel z w5 l w6 (fun (x36 : Nat) (x37 : List (Int × List Int)) => k0 x36 x37) k a33 a34 a35)) (k1))
theorem NbRowsF_l1_eq (fuel : Nat) (z : Int) (l : List Int) (K : Ex → St → Option Out) : ∀ (k : Nat) (w5 : List Int) (w6 : Int), lpN (sub (bodyOf Try.prog 13) [1, 1, 1, 1, 1, 0, 1, 0, 0]) (fnX Try.prog mode13 T_refMSame fuel 45 0) 17592186044976 [4, 5, 8, 9, 29, 30, 31] k ⟨[(4, .ptr 0 2 0 0), (5, .s (.int .i64 0)), (8, .fn (.func 29) [.agg [.s (.int .i64 z), .li .u64 w5]] []), (9, .ptr 1 2 0 0), (29, .li .u64 l), (30, .s (.int .i64 w6)), (31, .s (.int .i64 0))], [(0, some ⟨40, .agg [.s (.int .i64 0), .s (.slice none 0 0)], true⟩), (1, some ⟨40, .agg [.s (.int .i64 z), .s (.slice none 0 0)], true⟩)], 2, none⟩ K = NbRowsF_l1 fuel z l (fun (y16 : Nat) (y17 : List (Int × List Int)) => K (.exit 0) ⟨[(4, .ptr 0 2 0 0), (5, .s (.int .i64 0)), (9, .ptr 1 2 0 0)], [(0, some ⟨40, .agg [.s (.int .i64 0), .s (.slice none 0 0)], true⟩), (1, some ⟨40, .agg [.s (.int .i64 z), .sl 2 2 0 y16], true⟩), (2, some ⟨29, .lt (.pair (.int .i64) (.sl (.int .u64))) y17, true⟩)], 3, none⟩) (K (.exit 0) ⟨[(4, .ptr 0 2 0 0), (5, .s (.int .i64 0)), (9, .ptr 1 2 0 0)], [(0, some ⟨40, .agg [.s (.int .i64 0), .s (.slice none 0 0)], true⟩), (1, some ⟨40, .agg [.s (.int .i64 z), .s (.slice none 0 0)], true⟩)], 2, none⟩) k w5 w6
  | 0, _, _ => rfl
  | k + 1, w5, w6 => by
    unfold NbRowsF_l1
    exact (NbRowsF_s2_eq fuel k K w6 l z w5).trans (congr (congr (Eq.refl (NbRowsF_s2 (R := Out) w6 l z w5)) (funext fun a33 => funext fun a34 => funext fun a35 => NbRowsF_l2_eq fuel z w5 l w6 K k a33 a34 a35)) (rfl))
noncomputable def NbRowsF_s4 {R : Type} (z : Int) (x41 : List (Int × List Int)) (x40 : Nat) (c0 : Int → (List (Int × List Int)) → Int → Option R) : Option R :=
  c0 z ((x41.drop 0).take x40) 0
theorem NbRowsF_s4_eq (fuel : Nat)  (z : Int) (x41 : List (Int × List Int)) (x40 : Nat) : (kont (fnX Try.prog mode13 T_refMSame fuel 45 0) (bodyOf Try.prog 13) [1, 1, 1, 1, 1, 0, 1, 0] 48 (endK Try.prog 0 0 13)) (.exit 0) ⟨[(4, .ptr 0 2 0 0), (5, .s (.int .i64 0)), (9, .ptr 1 2 0 0)], [(0, some ⟨40, .agg [.s (.int .i64 0), .s (.slice none 0 0)], true⟩), (1, some ⟨40, .agg [.s (.int .i64 z), .sl 2 2 0 x40], true⟩), (2, some ⟨29, .lt (.pair (.int .i64) (.sl (.int .u64))) x41, true⟩)], 3, none⟩ = NbRowsF_s4 z x41 x40 (fun (a42 : Int) (a43 : List (Int × List Int)) (a44 : Int) => some (.tup [.agg [.s (.int .i64 a42), .lt (.pair (.int .i64) (.sl (.int .u64))) a43], .s (.int .i64 a44)], [])) := by kernel_rfl
noncomputable def NbRowsF_s5 {R : Type} (z : Int) (c0 : Int → Int → Option R) : Option R :=
  c0 z 0
theorem NbRowsF_s5_eq (fuel : Nat)  (z : Int) : (kont (fnX Try.prog mode13 T_refMSame fuel 45 0) (bodyOf Try.prog 13) [1, 1, 1, 1, 1, 0, 1, 0] 48 (endK Try.prog 0 0 13)) (.exit 0) ⟨[(4, .ptr 0 2 0 0), (5, .s (.int .i64 0)), (9, .ptr 1 2 0 0)], [(0, some ⟨40, .agg [.s (.int .i64 0), .s (.slice none 0 0)], true⟩), (1, some ⟨40, .agg [.s (.int .i64 z), .s (.slice none 0 0)], true⟩)], 2, none⟩ = NbRowsF_s5 z (fun (a45 : Int) (a46 : Int) => some (.tup [.agg [.s (.int .i64 a45), .s (.slice none 0 0)], .s (.int .i64 a46)], [])) := by kernel_rfl
noncomputable def NbRowsF_s1 {R : Type} (z : Int) (l : List Int) (c0 : Int → Int → Option R) (c1 : List Int → Int → Option R) : Option R :=
  br (((if (decide (1 ≤ z) && decide (z ≤ 64)) = true then 0 else 2) : Int) != 0)
    (c0 0 2)
    (br (decide ((((l.length : Nat) : Int) : Int) > 64))
      (c0 0 2)
      (c1 (if (decide (1 ≤ z) && decide (z ≤ 64)) = true then tabS z else []) ((l.length : Nat) : Int)))
theorem NbRowsF_s1_eq (fuel : Nat)  (z : Int) (l : List Int) : callN Try.prog mode13 T_refMSame fuel 13 [.s (.int .i64 z), .li .u64 l] [] = NbRowsF_s1 z l (fun (a1 : Int) (a2 : Int) => some (.tup [.agg [.s (.int .i64 a1), .s (.slice none 0 0)], .s (.int .i64 a2)], [])) (fun (a38 : List Int) (a39 : Int) => lpN (sub (bodyOf Try.prog 13) [1, 1, 1, 1, 1, 0, 1, 0, 0]) (fnX Try.prog mode13 T_refMSame fuel 45 0) 17592186044976 [4, 5, 8, 9, 29, 30, 31] fuel ⟨[(4, .ptr 0 2 0 0), (5, .s (.int .i64 0)), (8, .fn (.func 29) [.agg [.s (.int .i64 z), .li .u64 a38]] []), (9, .ptr 1 2 0 0), (29, .li .u64 l), (30, .s (.int .i64 a39)), (31, .s (.int .i64 0))], [(0, some ⟨40, .agg [.s (.int .i64 0), .s (.slice none 0 0)], true⟩), (1, some ⟨40, .agg [.s (.int .i64 z), .s (.slice none 0 0)], true⟩)], 2, none⟩ (kont (fnX Try.prog mode13 T_refMSame fuel 45 0) (bodyOf Try.prog 13) [1, 1, 1, 1, 1, 0, 1, 0] 48 (endK Try.prog 0 0 13))) := by kernel_rfl
noncomputable def NbRowsF {R : Type} (fuel : Nat) (z : Int) (l : List Int) (r0 : Int → Int → Option R) (r1 : Int → (List (Int × List Int)) → Int → Option R) : Option R :=
  (NbRowsF_s1 z l (fun (a1 : Int) (a2 : Int) => r0 a1 a2) (fun (a38 : List Int) (a39 : Int) => (NbRowsF_l1 fuel z l (fun (x40 : Nat) (x41 : List (Int × List Int)) => (NbRowsF_s4 z x41 x40 (fun (a42 : Int) (a43 : List (Int × List Int)) (a44 : Int) => r1 a42 a43 a44))) ((NbRowsF_s5 z (fun (a45 : Int) (a46 : Int) => r0 a45 a46))) fuel a38 a39)))
theorem NbRowsF_eq (fuel : Nat) (z : Int) (l : List Int) : callN Try.prog mode13 T_refMSame fuel 13 [.s (.int .i64 z), .li .u64 l] [] = NbRowsF fuel z l (fun (z0 : Int) (z1 : Int) => some (.tup [.agg [.s (.int .i64 z0), .s (.slice none 0 0)], .s (.int .i64 z1)], [])) (fun (z0 : Int) (z1 : List (Int × List Int)) (z2 : Int) => some (.tup [.agg [.s (.int .i64 z0), .lt (.pair (.int .i64) (.sl (.int .u64))) z1], .s (.int .i64 z2)], [])) := by
  unfold NbRowsF
  exact (NbRowsF_s1_eq fuel  z l).trans (congr (congr (Eq.refl (NbRowsF_s1 (R := Out) z l)) (rfl)) (funext fun a38 => funext fun a39 => (NbRowsF_l1_eq fuel z l (kont (fnX Try.prog mode13 T_refMSame fuel 45 0) (bodyOf Try.prog 13) [1, 1, 1, 1, 1, 0, 1, 0] 48 (endK Try.prog 0 0 13)) fuel a38 a39).trans (congrFun (congrFun (congrFun (congr (congr (Eq.refl (NbRowsF_l1 (R := Out) fuel z l)) (funext fun x40 => funext fun x41 => (NbRowsF_s4_eq fuel  z x41 x40))) ((NbRowsF_s5_eq fuel  z))) fuel) a38) a39)))
theorem NbRows_more {R : Type} (fuel : Nat) (z : Int) (l : List Int) (hz : (decide (1 ≤ z) && decide (z ≤ 64)) = true) (hok : okW l = true) (hx : l.length ≤ 64) (k0 : Nat → List (Int × List Int) → Option R) : ∀ (k j : Nat), j ≤ l.length → l.length < j + k → NbRowsF_l2 fuel z (tabS z) l (l.length : Int) k0 k (j : Int) j (rowsS z (l.take j)) = k0 l.length (rowsS z l)
  | 0, j, h1, h2 => by omega
  | k + 1, j, h1, h2 => by
    unfold NbRowsF_l2 NbRowsF_s3
    rw [br_if]
    by_cases hc : j < l.length
    · rw [if_pos (by simpa using hc), bnd_of ((ix_nat l j).trans (List.getElem?_eq_getElem hc)), grd_of (by rw [hz, ok_u hok hc]; simp only [Bool.true_and, Bool.and_true]; exact eqS_li_self _), grd_of (by rw [rows_len, List.length_take, Nat.min_eq_left (by omega)]; exact beq_self j), grd_of (okN_of (by omega) (by omega)), wrap_i64 (by omega) (by omega), show (j : Int) + 1 = ((j + 1 : Nat) : Int) by omega]
      dsimp only
      rw [← rows_snoc, ← List.take_succ_eq_append_getElem hc, rows_len, List.length_take, Nat.min_eq_left (by omega)]
      exact NbRows_more fuel z l hz hok hx k0 k (j + 1) (by omega) (by omega)
    · have e : j = l.length := by omega
      subst e
      rw [if_neg (by simp), List.take_length]
theorem NbRows_first {R : Type} (fuel : Nat) (z : Int) (l : List Int) (hz : (decide (1 ≤ z) && decide (z ≤ 64)) = true) (hok : okW l = true) (hx : l.length ≤ 64) (k0 : Nat → List (Int × List Int) → Option R) (k1 : Option R) (k : Nat) (hk : l.length < k) : NbRowsF_l1 fuel z l k0 k1 (k + 1) (tabS z) (l.length : Int) = if l.length = 0 then k1 else k0 l.length (rowsS z l) := by
  unfold NbRowsF_l1 NbRowsF_s2
  dsimp only
  rw [br_if]
  by_cases hc : 0 < l.length
  · have e : rowsS z (l.take 1) = [(z, ofS z (nbS z l[0]))] := by
      rw [show (1 : Nat) = 0 + 1 from rfl, List.take_succ_eq_append_getElem hc, List.take_zero, rows_snoc, rows_nil]; rfl
    have e0 : ix l 0 = some l[0] := (ix_nat l 0).trans (List.getElem?_eq_getElem hc)
    rw [if_pos (by simpa using hc), bnd_of e0, grd_of (by rw [hz, ok_u hok hc]; simp only [Bool.true_and, Bool.and_true]; exact eqS_li_self _), if_neg (by omega)]
    rw [← e]
    exact NbRows_more fuel z l hz hok hx k0 k 1 (by omega) (by omega)
  · rw [if_neg (by simpa using hc), if_pos (by omega)]
theorem NbRows_fact (z : Int) (l : List Int) (hg : (okW l) = true) : Fact Try.prog noG 13 [.s (.int .i64 z), .li .u64 l] [] (.tup [.agg [.s (.int .i64 (if ((decide (1 ≤ z) && decide (z ≤ 64)) && decide (l.length ≤ 64)) = true then z else 0)), .lt (.pair (.int .i64) (.sl (.int .u64))) ((if ((decide (1 ≤ z) && decide (z ≤ 64)) && decide (l.length ≤ 64)) = true then rowsS z l else []) : List (Int × List Int))], .s (.int .i64 (if ((decide (1 ≤ z) && decide (z ≤ 64)) && decide (l.length ≤ 64)) = true then 0 else 2))], []) := by
  by_cases hk : ((decide (1 ≤ z) && decide (z ≤ 64)) && decide (l.length ≤ 64)) = true
  · have hk' := hk
    rw [Bool.and_eq_true] at hk'
    obtain ⟨hz, hx⟩ := hk'
    have hx := of_decide_eq_true hx
    rw [if_pos hk, if_pos hk, if_pos hk]
    have hf := fun k0 k1 => @NbRows_first Out 70 z l hz hg hx k0 k1 69 (by omega)
    by_cases h0 : l.length = 0
    · rw [List.eq_nil_of_length_eq_zero h0] at hf ⊢
      rw [rows_nil]
      refine Fact.out (v := .tup [.agg [.s (.int .i64 z), .s (.slice none 0 0)], .s (.int .i64 0)]) (bs' := []) ?_ (fun _ _ _ x h => RV_tup_two (fun _ h => RVs_two (fun _ h => RV_agg_two (fun _ h => RVs_two (fun _ h => h) (fun _ h => RVs_two (fun _ h => RV_nil_sl (s := .pair (.int .i64) (.sl (.int .u64))) h) (fun _ h => h) h) h) h) (fun _ h => h) h) h)
      refine callN_fact hN hM T_refMSame_ok (n := 70) (mode := mode13) ?_
      rw [NbRowsF_eq]
      unfold NbRowsF NbRowsF_s1
      rw [br_if, if_pos hz, if_neg (by decide), br_if, if_neg (by decide), if_pos hz]
      dsimp only
      rw [hf, if_pos (List.length_nil (α := Int))]
      rfl
    · refine callN_fact hN hM T_refMSame_ok (n := 70) (mode := mode13) ?_
      rw [NbRowsF_eq]
      unfold NbRowsF NbRowsF_s1
      rw [br_if, if_pos hz, if_neg (by decide), br_if, if_neg (by simp; omega), if_pos hz]
      dsimp only
      rw [hf, if_neg h0]
      unfold NbRowsF_s4
      rw [List.drop_zero, ← rows_len z l, List.take_length]
  · rw [if_neg hk, if_neg hk, if_neg hk]
    refine Fact.out (v := .tup [.agg [.s (.int .i64 0), .s (.slice none 0 0)], .s (.int .i64 2)]) (bs' := []) ?_ (fun _ _ _ x h => RV_tup_two (fun _ h => RVs_two (fun _ h => RV_agg_two (fun _ h => RVs_two (fun _ h => h) (fun _ h => RVs_two (fun _ h => RV_nil_sl (s := .pair (.int .i64) (.sl (.int .u64))) h) (fun _ h => h) h) h) h) (fun _ h => h) h) h)
    refine callN_fact hN hM T_refMSame_ok (n := 70) (mode := mode13) ?_
    rw [NbRowsF_eq]
    unfold NbRowsF NbRowsF_s1
    by_cases hz : (decide (1 ≤ z) && decide (z ≤ 64)) = true
    · rw [hz, Bool.true_and] at hk
      rw [if_pos hz, br_if, if_neg (by decide), br_if, if_pos (by simp at hk ⊢; omega)]
    · rw [if_neg hz, br_if, if_pos (by decide)]
noncomputable def NbRows_ent : List V → List Blk → Option (Bool × Out)
  | [.s (.int .i64 z), w0], [] => (asSl (.int .u64) w0).bind fun l => some ((okW l), (.tup [.agg [.s (.int .i64 (if ((decide (1 ≤ z) && decide (z ≤ 64)) && decide (l.length ≤ 64)) = true then z else 0)), .lt (.pair (.int .i64) (.sl (.int .u64))) ((if ((decide (1 ≤ z) && decide (z ≤ 64)) && decide (l.length ≤ 64)) = true then rowsS z l else []) : List (Int × List Int))], .s (.int .i64 (if ((decide (1 ≤ z) && decide (z ≤ 64)) && decide (l.length ≤ 64)) = true then 0 else 2))], []))
  | _, _ => none
theorem NbRows_ok : ∀ args bs out, NbRows_ent args bs = some (true, out) → Fact Try.prog noG 13 args bs out := by
  intro args bs out h
  unfold NbRows_ent at h
  split at h
  · rename_i z w0
    obtain ⟨l, h_l, h⟩ := Option.bind_eq_some_iff.1 h
    simp only [Option.some.injEq, Prod.mk.injEq] at h
    obtain ⟨hg, rfl⟩ := h
    exact (NbRows_fact z l hg).args (fun _ _ _ => fun _ h => RVs_two (fun _ h => h) (fun _ h => RVs_two (fun _ h => RV_li h_l h) (fun _ h => h) h) h)
  · cases h
noncomputable def T_NbRows : Tbl := Tbl.cons 13 NbRows_ent T_refMSame
theorem T_NbRows_ok : CallOk Try.prog noG T_NbRows := cons_ok T_refMSame_ok NbRows_ok
/-! downpour/downpourref08.Rows -/
noncomputable def refNbRowsF_s3 {R : Type} (w16 : Int) (w1 : Int) (l : List Int) (z : Int) (w18 : List (Int × List Int)) (w17 : Nat) (c0 : Int → Nat → (List (Int × List Int)) → Option R) (c1 : Nat → (List (Int × List Int)) → Option R) : Option R :=
  br (decide (w16 < w1))
    (bnd (ix l w16) fun e22 =>
    grd ((decide (1 ≤ z) && decide (z ≤ 64)) && (decide (0 ≤ e22) && decide (e22 < 18446744073709551616))) <|
    grd (Nat.beq w18.length w17) <|
    grd (okN (w17 + 1) 32) <|
    c0 (IntKind.i64.wrap (w16 + 1)) ((w18 ++ [(z, (ofS z (nbS z e22)))]).length) (w18 ++ [(z, (ofS z (nbS z e22)))]))
    (c1 w17 w18)
theorem refNbRowsF_s3_eq (fuel : Nat) (k : Nat) (K : Ex → St → Option Out) (w16 : Int) (w1 : Int) (l : List Int) (z : Int) (w18 : List (Int × List Int)) (w17 : Nat) : lpN (sub (bodyOf Try.prog 15) [1, 1, 0, 1, 0, 0]) (fnX Try.prog mode13 T_NbRows fuel 26 0) 33554480 [0, 4, 5, 10, 11, 12] (k + 1) ⟨[(0, .s (.int .i64 z)), (4, .ptr 0 2 0 0), (5, .ptr 1 2 0 0), (10, .li .u64 l), (11, .s (.int .i64 w1)), (12, .s (.int .i64 w16))], [(0, some ⟨40, .agg [.s (.int .i64 0), .s (.slice none 0 0)], true⟩), (1, some ⟨40, .agg [.s (.int .i64 z), .sl 2 2 0 w17], true⟩), (2, some ⟨29, .lt (.pair (.int .i64) (.sl (.int .u64))) w18, true⟩)], 3, none⟩ K = refNbRowsF_s3 w16 w1 l z w18 w17 (fun (a23 : Int) (a24 : Nat) (a25 : List (Int × List Int)) => lpN (sub (bodyOf Try.prog 15) [1, 1, 0, 1, 0, 0]) (fnX Try.prog mode13 T_NbRows fuel 26 0) 33554480 [0, 4, 5, 10, 11, 12] k ⟨[(0, .s (.int .i64 z)), (4, .ptr 0 2 0 0), (5, .ptr 1 2 0 0), (10, .li .u64 l), (11, .s (.int .i64 w1)), (12, .s (.int .i64 a23))], [(0, some ⟨40, .agg [.s (.int .i64 0), .s (.slice none 0 0)], true⟩), (1, some ⟨40, .agg [.s (.int .i64 z), .sl 2 2 0 a24], true⟩), (2, some ⟨29, .lt (.pair (.int .i64) (.sl (.int .u64))) a25, true⟩)], 3, none⟩ K) (fun (a26 : Nat) (a27 : List (Int × List Int)) => K (.exit 0) ⟨[(4, .ptr 0 2 0 0), (5, .ptr 1 2 0 0)], [(0, some ⟨40, .agg [.s (.int .i64 0), .s (.slice none 0 0)], true⟩), (1, some ⟨40, .agg [.s (.int .i64 z), .sl 2 2 0 a26], true⟩), (2, some ⟨29, .lt (.pair (.int .i64) (.sl (.int .u64))) a27, true⟩)], 3, none⟩) := by kernel_rfl
noncomputable def refNbRowsF_l2 {R : Type} (fuel : Nat) (z : Int) (l : List Int) (w1 : Int) (k0 : Nat → (List (Int × List Int)) → Option R) : Nat → Int → Nat → (List (Int × List Int)) → Option R
  | 0, _, _, _ => none
  | k + 1, w16, w17, w18 =>
    (refNbRowsF_s3 w16 w1 l z w18 w17 (fun (a23 : Int) (a24 : Nat) (a25 : List (Int × List Int)) => ( refNbRowsF_l2 fuel z l w1 k0 k a23 a24 a25 )) (fun (a26 : Nat) (a27 : List (Int × List Int)) => k0 a26 a27))
theorem refNbRowsF_l2_eq (fuel : Nat) (z : Int) (l : List Int) (w1 : Int) (K : Ex → St → Option Out) : ∀ (k : Nat) (w16 : Int) (w17 : Nat) (w18 : List (Int × List Int)), lpN (sub (bodyOf Try.prog 15) [1, 1, 0, 1, 0, 0]) (fnX Try.prog mode13 T_NbRows fuel 26 0) 33554480 [0, 4, 5, 10, 11, 12] k ⟨[(0, .s (.int .i64 z)), (4, .ptr 0 2 0 0), (5, .ptr 1 2 0 0), (10, .li .u64 l), (11, .s (.int .i64 w1)), (12, .s (.int .i64 w16))], [(0, some ⟨40, .agg [.s (.int .i64 0), .s (.slice none 0 0)], true⟩), (1, some ⟨40, .agg [.s (.int .i64 z), .sl 2 2 0 w17], true⟩), (2, some ⟨29, .lt (.pair (.int .i64) (.sl (.int .u64))) w18, true⟩)], 3, none⟩ K = refNbRowsF_l2 fuel z l w1 (fun (y20 : Nat) (y21 : List (Int × List Int)) => K (.exit 0) ⟨[(4, .ptr 0 2 0 0), (5, .ptr 1 2 0 0)], [(0, some ⟨40, .agg [.s (.int .i64 0), .s (.slice none 0 0)], true⟩), (1, some ⟨40, .agg [.s (.int .i64 z), .sl 2 2 0 y20], true⟩), (2, some ⟨29, .lt (.pair (.int .i64) (.sl (.int .u64))) y21, true⟩)], 3, none⟩) k w16 w17 w18
  | 0, _, _, _ => rfl
  | k + 1, w16, w17, w18 => by
    unfold refNbRowsF_l2
    exact (refNbRowsF_s3_eq fuel k K w16 w1 l z w18 w17).trans (congr (congr (Eq.refl (refNbRowsF_s3 (R := Out) w16 w1 l z w18 w17)) (funext fun a23 => funext fun a24 => funext fun a25 => refNbRowsF_l2_eq fuel z l w1 K k a23 a24 a25)) (rfl))
noncomputable def refNbRowsF_s2 {R : Type} (w1 : Int) (l : List Int) (z : Int) (c0 : Int → Nat → (List (Int × List Int)) → Option R) (c1 : Option R) : Option R :=
  br (decide (0 < w1))
    (bnd (ix l 0) fun e13 =>
    grd ((decide (1 ≤ z) && decide (z ≤ 64)) && (decide (0 ≤ e13) && decide (e13 < 18446744073709551616))) <|
    c0 1 1 ([(z, (ofS z (nbS z e13)))]))
    (c1)
theorem refNbRowsF_s2_eq (fuel : Nat) (k : Nat) (K : Ex → St → Option Out) (w1 : Int) (l : List Int) (z : Int) : lpN (sub (bodyOf Try.prog 15) [1, 1, 0, 1, 0, 0]) (fnX Try.prog mode13 T_NbRows fuel 26 0) 33554480 [0, 4, 5, 10, 11, 12] (k + 1) ⟨[(0, .s (.int .i64 z)), (4, .ptr 0 2 0 0), (5, .ptr 1 2 0 0), (10, .li .u64 l), (11, .s (.int .i64 w1)), (12, .s (.int .i64 0))], [(0, some ⟨40, .agg [.s (.int .i64 0), .s (.slice none 0 0)], true⟩), (1, some ⟨40, .agg [.s (.int .i64 z), .s (.slice none 0 0)], true⟩)], 2, none⟩ K = refNbRowsF_s2 w1 l z (fun (a28 : Int) (a29 : Nat) (a30 : List (Int × List Int)) => lpN (sub (bodyOf Try.prog 15) [1, 1, 0, 1, 0, 0]) (fnX Try.prog mode13 T_NbRows fuel 26 0) 33554480 [0, 4, 5, 10, 11, 12] k ⟨[(0, .s (.int .i64 z)), (4, .ptr 0 2 0 0), (5, .ptr 1 2 0 0), (10, .li .u64 l), (11, .s (.int .i64 w1)), (12, .s (.int .i64 a28))], [(0, some ⟨40, .agg [.s (.int .i64 0), .s (.slice none 0 0)], true⟩), (1, some ⟨40, .agg [.s (.int .i64 z), .sl 2 2 0 a29], true⟩), (2, some ⟨29, .lt (.pair (.int .i64) (.sl (.int .u64))) a30, true⟩)], 3, none⟩ K) (K (.exit 0) ⟨[(4, .ptr 0 2 0 0), (5, .ptr 1 2 0 0)], [(0, some ⟨40, .agg [.s (.int .i64 0), .s (.slice none 0 0)], true⟩), (1, some ⟨40, .agg [.s (.int .i64 z), .s (.slice none 0 0)], true⟩)], 2, none⟩) := by kernel_rfl
noncomputable def refNbRowsF_l1 {R : Type} (fuel : Nat) (z : Int) (l : List Int) (k0 : Nat → (List (Int × List Int)) → Option R) (k1 : Option R) : Nat → Int → Option R
  | 0, _ => none
  | k + 1, w1 =>
    (refNbRowsF_s2 w1 l z (fun (a28 : Int) (a29 : Nat) (a30 : List (Int × List Int)) => (refNbRowsF_l2 fuel z l w1 (fun (x31 : Nat) (x32 : List (Int × List Int)) => k0 x31 x32) k a28 a29 a30)) (k1))
theorem refNbRowsF_l1_eq (fuel : Nat) (z : Int) (l : List Int) (K : Ex → St → Option Out) : ∀ (k : Nat) (w1 : Int), lpN (sub (bodyOf Try.prog 15) [1, 1, 0, 1, 0, 0]) (fnX Try.prog mode13 T_NbRows fuel 26 0) 33554480 [0, 4, 5, 10, 11, 12] k ⟨[(0, .s (.int .i64 z)), (4, .ptr 0 2 0 0), (5, .ptr 1 2 0 0), (10, .li .u64 l), (11, .s (.int .i64 w1)), (12, .s (.int .i64 0))], [(0, some ⟨40, .agg [.s (.int .i64 0), .s (.slice none 0 0)], true⟩), (1, some ⟨40, .agg [.s (.int .i64 z), .s (.slice none 0 0)], true⟩)], 2, none⟩ K = refNbRowsF_l1 fuel z l (fun (y11 : Nat) (y12 : List (Int × List Int)) => K (.exit 0) ⟨[(4, .ptr 0 2 0 0), (5, .ptr 1 2 0 0)], [(0, some ⟨40, .agg [.s (.int .i64 0), .s (.slice none 0 0)], true⟩), (1, some ⟨40, .agg [.s (.int .i64 z), .sl 2 2 0 y11], true⟩), (2, some ⟨29, .lt (.pair (.int .i64) (.sl (.int .u64))) y12, true⟩)], 3, none⟩) (K (.exit 0) ⟨[(4, .ptr 0 2 0 0), (5, .ptr 1 2 0 0)], [(0, some ⟨40, .agg [.s (.int .i64 0), .s (.slice none 0 0)], true⟩), (1, some ⟨40, .agg [.s (.int .i64 z), .s (.slice none 0 0)], true⟩)], 2, none⟩) k w1
  | 0, _ => rfl
  | k + 1, w1 => by
    unfold refNbRowsF_l1
    exact (refNbRowsF_s2_eq fuel k K w1 l z).trans (congr (congr (Eq.refl (refNbRowsF_s2 (R := Out) w1 l z)) (funext fun a28 => funext fun a29 => funext fun a30 => refNbRowsF_l2_eq fuel z l w1 K k a28 a29 a30)) (rfl))
noncomputable def refNbRowsF_s4 {R : Type} (z : Int) (x35 : List (Int × List Int)) (x34 : Nat) (c0 : Int → (List (Int × List Int)) → Option R) : Option R :=
  c0 z ((x35.drop 0).take x34)
theorem refNbRowsF_s4_eq (fuel : Nat)  (z : Int) (x35 : List (Int × List Int)) (x34 : Nat) : (kont (fnX Try.prog mode13 T_NbRows fuel 26 0) (bodyOf Try.prog 15) [1, 1, 0, 1, 0] 16 (endK Try.prog 0 0 15)) (.exit 0) ⟨[(4, .ptr 0 2 0 0), (5, .ptr 1 2 0 0)], [(0, some ⟨40, .agg [.s (.int .i64 0), .s (.slice none 0 0)], true⟩), (1, some ⟨40, .agg [.s (.int .i64 z), .sl 2 2 0 x34], true⟩), (2, some ⟨29, .lt (.pair (.int .i64) (.sl (.int .u64))) x35, true⟩)], 3, none⟩ = refNbRowsF_s4 z x35 x34 (fun (a36 : Int) (a37 : List (Int × List Int)) => some (.agg [.s (.int .i64 a36), .lt (.pair (.int .i64) (.sl (.int .u64))) a37], [])) := by kernel_rfl
noncomputable def refNbRowsF_s5 {R : Type} (z : Int) (c0 : Int → Option R) : Option R :=
  c0 z
theorem refNbRowsF_s5_eq (fuel : Nat)  (z : Int) : (kont (fnX Try.prog mode13 T_NbRows fuel 26 0) (bodyOf Try.prog 15) [1, 1, 0, 1, 0] 16 (endK Try.prog 0 0 15)) (.exit 0) ⟨[(4, .ptr 0 2 0 0), (5, .ptr 1 2 0 0)], [(0, some ⟨40, .agg [.s (.int .i64 0), .s (.slice none 0 0)], true⟩), (1, some ⟨40, .agg [.s (.int .i64 z), .s (.slice none 0 0)], true⟩)], 2, none⟩ = refNbRowsF_s5 z (fun (a38 : Int) => some (.agg [.s (.int .i64 a38), .s (.slice none 0 0)], [])) := by kernel_rfl
noncomputable def refNbRowsF_s1 {R : Type} (l : List Int) (z : Int) (c0 : Int → Option R) : Option R :=
  c0 ((l.length : Nat) : Int)
theorem refNbRowsF_s1_eq (fuel : Nat)  (l : List Int) (z : Int) : callN Try.prog mode13 T_NbRows fuel 15 [.s (.int .i64 z), .li .u64 l] [] = refNbRowsF_s1 l z (fun (a33 : Int) => lpN (sub (bodyOf Try.prog 15) [1, 1, 0, 1, 0, 0]) (fnX Try.prog mode13 T_NbRows fuel 26 0) 33554480 [0, 4, 5, 10, 11, 12] fuel ⟨[(0, .s (.int .i64 z)), (4, .ptr 0 2 0 0), (5, .ptr 1 2 0 0), (10, .li .u64 l), (11, .s (.int .i64 a33)), (12, .s (.int .i64 0))], [(0, some ⟨40, .agg [.s (.int .i64 0), .s (.slice none 0 0)], true⟩), (1, some ⟨40, .agg [.s (.int .i64 z), .s (.slice none 0 0)], true⟩)], 2, none⟩ (kont (fnX Try.prog mode13 T_NbRows fuel 26 0) (bodyOf Try.prog 15) [1, 1, 0, 1, 0] 16 (endK Try.prog 0 0 15))) := by kernel_rfl
noncomputable def refNbRowsF {R : Type} (fuel : Nat) (z : Int) (l : List Int) (r0 : Int → (List (Int × List Int)) → Option R) (r1 : Int → Option R) : Option R :=
  (refNbRowsF_s1 l z (fun (a33 : Int) => (refNbRowsF_l1 fuel z l (fun (x34 : Nat) (x35 : List (Int × List Int)) => (refNbRowsF_s4 z x35 x34 (fun (a36 : Int) (a37 : List (Int × List Int)) => r0 a36 a37))) ((refNbRowsF_s5 z (fun (a38 : Int) => r1 a38))) fuel a33)))
theorem refNbRowsF_eq (fuel : Nat) (z : Int) (l : List Int) : callN Try.prog mode13 T_NbRows fuel 15 [.s (.int .i64 z), .li .u64 l] [] = refNbRowsF fuel z l (fun (z0 : Int) (z1 : List (Int × List Int)) => some (.agg [.s (.int .i64 z0), .lt (.pair (.int .i64) (.sl (.int .u64))) z1], [])) (fun (z0 : Int) => some (.agg [.s (.int .i64 z0), .s (.slice none 0 0)], [])) := by
  unfold refNbRowsF
  exact (refNbRowsF_s1_eq fuel  l z).trans (congr (Eq.refl (refNbRowsF_s1 (R := Out) l z)) (funext fun a33 => (refNbRowsF_l1_eq fuel z l (kont (fnX Try.prog mode13 T_NbRows fuel 26 0) (bodyOf Try.prog 15) [1, 1, 0, 1, 0] 16 (endK Try.prog 0 0 15)) fuel a33).trans (congrFun (congrFun (congr (congr (Eq.refl (refNbRowsF_l1 (R := Out) fuel z l)) (funext fun x34 => funext fun x35 => (refNbRowsF_s4_eq fuel  z x35 x34))) ((refNbRowsF_s5_eq fuel  z))) fuel) a33)))
theorem refNbRows_more {R : Type} (fuel : Nat) (z : Int) (l : List Int) (hz : (decide (1 ≤ z) && decide (z ≤ 64)) = true) (hok : okW l = true) (hx : l.length ≤ 64) (k0 : Nat → List (Int × List Int) → Option R) : ∀ (k j : Nat), j ≤ l.length → l.length < j + k → refNbRowsF_l2 fuel z l (l.length : Int) k0 k (j : Int) j (rowsS z (l.take j)) = k0 l.length (rowsS z l)
  | 0, j, h1, h2 => by omega
  | k + 1, j, h1, h2 => by
    unfold refNbRowsF_l2 refNbRowsF_s3
    rw [br_if]
    by_cases hc : j < l.length
    · rw [if_pos (by simpa using hc), bnd_of ((ix_nat l j).trans (List.getElem?_eq_getElem hc)), grd_of (by rw [hz, ok_u hok hc]; rfl), grd_of (by rw [rows_len, List.length_take, Nat.min_eq_left (by omega)]; exact beq_self j), grd_of (okN_of (by omega) (by omega)), wrap_i64 (by omega) (by omega), show (j : Int) + 1 = ((j + 1 : Nat) : Int) by omega]
      dsimp only
      rw [← rows_snoc, ← List.take_succ_eq_append_getElem hc, rows_len, List.length_take, Nat.min_eq_left (by omega)]
      exact refNbRows_more fuel z l hz hok hx k0 k (j + 1) (by omega) (by omega)
    · have e : j = l.length := by omega
      subst e
      rw [if_neg (by simp), List.take_length]
theorem refNbRows_first {R : Type} (fuel : Nat) (z : Int) (l : List Int) (hz : (decide (1 ≤ z) && decide (z ≤ 64)) = true) (hok : okW l = true) (hx : l.length ≤ 64) (k0 : Nat → List (Int × List Int) → Option R) (k1 : Option R) (k : Nat) (hk : l.length < k) : refNbRowsF_l1 fuel z l k0 k1 (k + 1) (l.length : Int) = if l.length = 0 then k1 else k0 l.length (rowsS z l) := by
  unfold refNbRowsF_l1 refNbRowsF_s2
  dsimp only
  rw [br_if]
  by_cases hc : 0 < l.length
  · have e : rowsS z (l.take 1) = [(z, ofS z (nbS z l[0]))] := by
      rw [show (1 : Nat) = 0 + 1 from rfl, List.take_succ_eq_append_getElem hc, List.take_zero, rows_snoc, rows_nil]; rfl
    have e0 : ix l 0 = some l[0] := (ix_nat l 0).trans (List.getElem?_eq_getElem hc)
    rw [if_pos (by simpa using hc), bnd_of e0, grd_of (by rw [hz, ok_u hok hc]; rfl), if_neg (by omega)]
    rw [← e]
    exact refNbRows_more fuel z l hz hok hx k0 k 1 (by omega) (by omega)
  · rw [if_neg (by simpa using hc), if_pos (by omega)]
theorem refNbRows_fact (z : Int) (l : List Int) (hg : ((decide (1 ≤ z) && decide (z ≤ 64)) && decide (l.length ≤ 64) && okW l) = true) : Fact Try.prog noG 15 [.s (.int .i64 z), .li .u64 l] [] (.agg [.s (.int .i64 z), .lt (.pair (.int .i64) (.sl (.int .u64))) ((rowsS z l) : List (Int × List Int))], []) := by
  rw [Bool.and_eq_true, Bool.and_eq_true] at hg
  obtain ⟨⟨hz, hx⟩, hok⟩ := hg
  have hx := of_decide_eq_true hx
  have hf := fun k0 k1 => @refNbRows_first Out 70 z l hz hok hx k0 k1 69 (by omega)
  by_cases h0 : l.length = 0
  · rw [List.eq_nil_of_length_eq_zero h0] at hf ⊢
    rw [rows_nil]
    refine Fact.out (v := .agg [.s (.int .i64 z), .s (.slice none 0 0)]) (bs' := []) ?_ (fun _ _ _ x h => RV_agg_two (fun _ h => RVs_two (fun _ h => h) (fun _ h => RVs_two (fun _ h => RV_nil_sl (s := .pair (.int .i64) (.sl (.int .u64))) h) (fun _ h => h) h) h) h)
    refine callN_fact hN hM T_NbRows_ok (n := 70) (mode := mode13) ?_
    rw [refNbRowsF_eq]
    unfold refNbRowsF refNbRowsF_s1
    dsimp only
    rw [hf, if_pos (List.length_nil (α := Int))]
    rfl
  · refine callN_fact hN hM T_NbRows_ok (n := 70) (mode := mode13) ?_
    rw [refNbRowsF_eq]
    unfold refNbRowsF refNbRowsF_s1
    dsimp only
    rw [hf, if_neg h0]
    unfold refNbRowsF_s4
    rw [List.drop_zero, ← rows_len z l, List.take_length]
noncomputable def refNbRows_ent : List V → List Blk → Option (Bool × Out)
  | [.s (.int .i64 z), w0], [] => (asSl (.int .u64) w0).bind fun l => some (((decide (1 ≤ z) && decide (z ≤ 64)) && decide (l.length ≤ 64) && okW l), (.agg [.s (.int .i64 z), .lt (.pair (.int .i64) (.sl (.int .u64))) ((rowsS z l) : List (Int × List Int))], []))
  | _, _ => none
theorem refNbRows_ok : ∀ args bs out, refNbRows_ent args bs = some (true, out) → Fact Try.prog noG 15 args bs out := by
  intro args bs out h
  unfold refNbRows_ent at h
  split at h
  · rename_i z w0
    obtain ⟨l, h_l, h⟩ := Option.bind_eq_some_iff.1 h
    simp only [Option.some.injEq, Prod.mk.injEq] at h
    obtain ⟨hg, rfl⟩ := h
    exact (refNbRows_fact z l hg).args (fun _ _ _ => fun _ h => RVs_two (fun _ h => h) (fun _ h => RVs_two (fun _ h => RV_li h_l h) (fun _ h => h) h) h)
  · cases h
noncomputable def T_refNbRows : Tbl := Tbl.cons 15 refNbRows_ent T_NbRows
theorem T_refNbRows_ok : CallOk Try.prog noG T_refNbRows := cons_ok T_NbRows_ok refNbRows_ok
/-! downpour/downpourlaw08.NeighboursRows -/
noncomputable def lawNbRowsF_s1 {R : Type} (l : List Int) (z : Int) (c0 : Bool → Option R) : Option R :=
  br (decide ((((l.length : Nat) : Int) : Int) ≤ 64))
    (bnd (upTo (min ((l.length : Nat) : Int) 12) l.length) fun j1 =>
    grd (okW ((l.drop 0).take (j1 - 0))) <|
    br (decide (z < 1))
      (br (((if ((decide (1 ≤ z) && decide (z ≤ 64)) && decide (((l.drop 0).take (j1 - 0)).length ≤ 64)) = true then 0 else 2) : Int) == 2)
        (grd (shM (if ((decide (1 ≤ z) && decide (z ≤ 64)) && decide (((l.drop 0).take (j1 - 0)).length ≤ 64)) = true then rowsS z ((l.drop 0).take (j1 - 0)) else [])) <|
        c0 (eqM (if ((decide (1 ≤ z) && decide (z ≤ 64)) && decide (((l.drop 0).take (j1 - 0)).length ≤ 64)) = true then z else 0) (if ((decide (1 ≤ z) && decide (z ≤ 64)) && decide (((l.drop 0).take (j1 - 0)).length ≤ 64)) = true then rowsS z ((l.drop 0).take (j1 - 0)) else []) 0 ([])))
        (c0 false))
      (br (decide (z > 64))
        (br (((if ((decide (1 ≤ z) && decide (z ≤ 64)) && decide (((l.drop 0).take (j1 - 0)).length ≤ 64)) = true then 0 else 2) : Int) == 2)
          (grd (shM (if ((decide (1 ≤ z) && decide (z ≤ 64)) && decide (((l.drop 0).take (j1 - 0)).length ≤ 64)) = true then rowsS z ((l.drop 0).take (j1 - 0)) else [])) <|
          c0 (eqM (if ((decide (1 ≤ z) && decide (z ≤ 64)) && decide (((l.drop 0).take (j1 - 0)).length ≤ 64)) = true then z else 0) (if ((decide (1 ≤ z) && decide (z ≤ 64)) && decide (((l.drop 0).take (j1 - 0)).length ≤ 64)) = true then rowsS z ((l.drop 0).take (j1 - 0)) else []) 0 ([])))
          (c0 false))
        (br (decide ((((((l.drop 0).take (j1 - 0)).length : Nat) : Int) : Int) > 64))
          (br (((if ((decide (1 ≤ z) && decide (z ≤ 64)) && decide (((l.drop 0).take (j1 - 0)).length ≤ 64)) = true then 0 else 2) : Int) == 2)
            (grd (shM (if ((decide (1 ≤ z) && decide (z ≤ 64)) && decide (((l.drop 0).take (j1 - 0)).length ≤ 64)) = true then rowsS z ((l.drop 0).take (j1 - 0)) else [])) <|
            c0 (eqM (if ((decide (1 ≤ z) && decide (z ≤ 64)) && decide (((l.drop 0).take (j1 - 0)).length ≤ 64)) = true then z else 0) (if ((decide (1 ≤ z) && decide (z ≤ 64)) && decide (((l.drop 0).take (j1 - 0)).length ≤ 64)) = true then rowsS z ((l.drop 0).take (j1 - 0)) else []) 0 ([])))
            (c0 false))
          (br (((if ((decide (1 ≤ z) && decide (z ≤ 64)) && decide (((l.drop 0).take (j1 - 0)).length ≤ 64)) = true then 0 else 2) : Int) == 0)
            (grd ((decide (1 ≤ z) && decide (z ≤ 64)) && decide (((l.drop 0).take (j1 - 0)).length ≤ 64) && okW ((l.drop 0).take (j1 - 0))) <|
            grd (shM (if ((decide (1 ≤ z) && decide (z ≤ 64)) && decide (((l.drop 0).take (j1 - 0)).length ≤ 64)) = true then rowsS z ((l.drop 0).take (j1 - 0)) else [])) <|
            c0 (eqM (if ((decide (1 ≤ z) && decide (z ≤ 64)) && decide (((l.drop 0).take (j1 - 0)).length ≤ 64)) = true then z else 0) (if ((decide (1 ≤ z) && decide (z ≤ 64)) && decide (((l.drop 0).take (j1 - 0)).length ≤ 64)) = true then rowsS z ((l.drop 0).take (j1 - 0)) else []) z (rowsS z ((l.drop 0).take (j1 - 0)))))
            (c0 false)))))
    (grd (okW l) <|
    br (decide (z < 1))
      (br (((if ((decide (1 ≤ z) && decide (z ≤ 64)) && decide (l.length ≤ 64)) = true then 0 else 2) : Int) == 2)
        (grd (shM (if ((decide (1 ≤ z) && decide (z ≤ 64)) && decide (l.length ≤ 64)) = true then rowsS z l else [])) <|
        c0 (eqM (if ((decide (1 ≤ z) && decide (z ≤ 64)) && decide (l.length ≤ 64)) = true then z else 0) (if ((decide (1 ≤ z) && decide (z ≤ 64)) && decide (l.length ≤ 64)) = true then rowsS z l else []) 0 ([])))
        (c0 false))
      (br (decide (z > 64))
        (br (((if ((decide (1 ≤ z) && decide (z ≤ 64)) && decide (l.length ≤ 64)) = true then 0 else 2) : Int) == 2)
          (grd (shM (if ((decide (1 ≤ z) && decide (z ≤ 64)) && decide (l.length ≤ 64)) = true then rowsS z l else [])) <|
          c0 (eqM (if ((decide (1 ≤ z) && decide (z ≤ 64)) && decide (l.length ≤ 64)) = true then z else 0) (if ((decide (1 ≤ z) && decide (z ≤ 64)) && decide (l.length ≤ 64)) = true then rowsS z l else []) 0 ([])))
          (c0 false))
        (br (decide ((((l.length : Nat) : Int) : Int) > 64))
          (br (((if ((decide (1 ≤ z) && decide (z ≤ 64)) && decide (l.length ≤ 64)) = true then 0 else 2) : Int) == 2)
            (grd (shM (if ((decide (1 ≤ z) && decide (z ≤ 64)) && decide (l.length ≤ 64)) = true then rowsS z l else [])) <|
            c0 (eqM (if ((decide (1 ≤ z) && decide (z ≤ 64)) && decide (l.length ≤ 64)) = true then z else 0) (if ((decide (1 ≤ z) && decide (z ≤ 64)) && decide (l.length ≤ 64)) = true then rowsS z l else []) 0 ([])))
            (c0 false))
          (br (((if ((decide (1 ≤ z) && decide (z ≤ 64)) && decide (l.length ≤ 64)) = true then 0 else 2) : Int) == 0)
            (grd ((decide (1 ≤ z) && decide (z ≤ 64)) && decide (l.length ≤ 64) && okW l) <|
            grd (shM (if ((decide (1 ≤ z) && decide (z ≤ 64)) && decide (l.length ≤ 64)) = true then rowsS z l else [])) <|
            c0 (eqM (if ((decide (1 ≤ z) && decide (z ≤ 64)) && decide (l.length ≤ 64)) = true then z else 0) (if ((decide (1 ≤ z) && decide (z ≤ 64)) && decide (l.length ≤ 64)) = true then rowsS z l else []) z (rowsS z l)))
            (c0 false)))))
theorem lawNbRowsF_s1_eq (fuel : Nat)  (l : List Int) (z : Int) : callN Try.prog mode13 T_refNbRows fuel 4 [.s (.int .i64 z), .li .u64 l] [] = lawNbRowsF_s1 l z (fun (a2 : Bool) => some (.s (.bool a2), [])) := by kernel_rfl
noncomputable def lawNbRowsF {R : Type} (fuel : Nat) (z : Int) (l : List Int) (r0 : Bool → Option R) : Option R :=
  (lawNbRowsF_s1 l z (fun (a2 : Bool) => r0 a2))
theorem lawNbRowsF_eq (fuel : Nat) (z : Int) (l : List Int) : callN Try.prog mode13 T_refNbRows fuel 4 [.s (.int .i64 z), .li .u64 l] [] = lawNbRowsF fuel z l (fun (z0 : Bool) => some (.s (.bool z0), [])) := by
  unfold lawNbRowsF
  exact (lawNbRowsF_s1_eq fuel  l z)
theorem lawNbRows_fact (z : Int) (l : List Int) (hg : (okW l) = true) : Fact Try.prog noG 4 [.s (.int .i64 z), .li .u64 l] [] (.s (.bool true), []) := by
  refine callN_fact hN hM T_refNbRows_ok (n := 0) (mode := mode13) ?_
  rw [lawNbRowsF_eq]
  unfold lawNbRowsF lawNbRowsF_s1
  rw [br_if]
  have hn : (decide (1 ≤ z) && decide (z ≤ 64)) = true ∨ (decide (1 ≤ z) && decide (z ≤ 64)) = false ∧ (z < 1 ∨ z > 64) := by
    by_cases h : 1 ≤ z ∧ z ≤ 64
    · exact .inl (by simp; omega)
    · exact .inr ⟨by simp; omega, by omega⟩
  have hs0 := sh_nil
  have he0 := eqM_self 0 []
  by_cases hx : l.length ≤ 64
  · rw [if_pos (by simp; omega), bnd_of (upTo_of (by omega) (by omega)), List.drop_zero, Nat.sub_zero]
    have hg' : okW (l.take (min ((l.length : Nat) : Int) 12).toNat) = true := okW_iff.2 (ok_take (okW_iff.1 hg) _)
    have hx' : (l.take (min ((l.length : Nat) : Int) 12).toNat).length ≤ 64 := by rw [List.length_take]; omega
    generalize l.take (min ((l.length : Nat) : Int) 12).toNat = u at *
    rw [grd_of hg']
    rcases hn with hz | ⟨hz, h⟩
    · obtain ⟨z1, z2⟩ := kk_iff.1 hz
      have hs := sh_rows (z := z) (l := u) z2 (by omega)
      have he := eqM_self z (rowsS z u)
      simp only [br_if, hz, decide_eq_true hx', Bool.true_and, if_true, decide_eq_false (show ¬ z < 1 by omega), decide_eq_false (show ¬ z > 64 by omega), decide_eq_false (show ¬ (((u.length : Nat) : Int) : Int) > 64 by omega), Bool.false_eq_true, if_false]
      rw [if_pos (by decide), grd_of hg', grd_of hs, he]
    · simp only [br_if, hz, Bool.false_and, Bool.false_eq_true, if_false, show ((2 : Int) == 2) = true from rfl, if_true]
      rcases h with h | h
      · simp [h, hs0, he0, grd_tt]
      · simp [h, show ¬ z < 1 by omega, hs0, he0, grd_tt]
  · rw [if_neg (by simp; omega), grd_of hg]
    have hk : ((decide (1 ≤ z) && decide (z ≤ 64)) && decide (l.length ≤ 64)) = false := by simp [hx]
    simp only [br_if, hk, Bool.false_eq_true, if_false, show ((2 : Int) == 2) = true from rfl, if_true, hs0, grd_tt, he0, decide_eq_true (show (((l.length : Nat) : Int) : Int) > 64 by omega), ite_self]
noncomputable def lawNbRows_ent : List V → List Blk → Option (Bool × Out)
  | [.s (.int .i64 z), w0], [] => (asSl (.int .u64) w0).bind fun l => some ((okW l), (.s (.bool true), []))
  | _, _ => none
theorem lawNbRows_ok : ∀ args bs out, lawNbRows_ent args bs = some (true, out) → Fact Try.prog noG 4 args bs out := by
  intro args bs out h
  unfold lawNbRows_ent at h
  split at h
  · rename_i z w0
    obtain ⟨l, h_l, h⟩ := Option.bind_eq_some_iff.1 h
    simp only [Option.some.injEq, Prod.mk.injEq] at h
    obtain ⟨hg, rfl⟩ := h
    exact (lawNbRows_fact z l hg).args (fun _ _ _ => fun _ h => RVs_two (fun _ h => h) (fun _ h => RVs_two (fun _ h => RV_li h_l h) (fun _ h => h) h) h)
  · cases h
noncomputable def T_lawNbRows : Tbl := Tbl.cons 4 lawNbRows_ent T_refNbRows
theorem T_lawNbRows_ok : CallOk Try.prog noG T_lawNbRows := cons_ok T_refNbRows_ok lawNbRows_ok
end Go.Proofs.Ytleagoeimkcekaa
