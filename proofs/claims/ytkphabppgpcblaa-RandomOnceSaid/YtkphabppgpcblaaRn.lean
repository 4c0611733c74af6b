/- Random numbers: what each function tells. -/
import Derived.Test.YtkphabppgpcblaaPmTab
import Derived.KernelRfl
import Derived.Test.YtkphabppgpcblaaProg
set_option autoImplicit false
set_option maxRecDepth 100000
set_option maxHeartbeats 4000000
set_option linter.unusedVariables false
set_option linter.unusedSimpArgs false
namespace Go.Proofs.Ytkphabppgpcblaa
open Go Go.PM Go.Proofs
def noG : Glob := fun _ => none
def mode : FuncId → Nat := fun f => bif Nat.beq f 59 then 2 else 0
theorem hN : namesOk Try.prog = true := by kernel_rfl
theorem hM : Try.prog.follows .mixedOrders = true := by kernel_rfl
/-! Random numbers: what they are. -/
def mixA (z : Int) : Int := IntKind.u64.wrap ((xorI .u64 z (z / 1073741824)) * 13787848793156543929)
def mixB (z : Int) : Int := IntKind.u64.wrap ((xorI .u64 z (z / 134217728)) * 10723151780598845931)
def mixI (z : Int) : Int := xorI .u64 (mixB (mixA z)) (mixB (mixA z) / 2147483648)
noncomputable def mixedS : Int → Int := Classical.choose (⟨mixI, rfl⟩ : ∃ f, f = mixI)
theorem mixedS_eq : mixedS = mixI := Classical.choose_spec (⟨mixI, rfl⟩ : ∃ f, f = mixI)
def nextI (s : Int) : Int := IntKind.u64.wrap (s + 11400714819323198485)
noncomputable def nextS : Int → Int := Classical.choose (⟨nextI, rfl⟩ : ∃ f, f = nextI)
theorem nextS_eq : nextS = nextI := Classical.choose_spec (⟨nextI, rfl⟩ : ∃ f, f = nextI)
def sizedS (n : Int) : Bool := decide (1 ≤ n) && decide (n ≤ 512)
def lzS (y : Int) : Int := 63 - ((Nat.log2 y.toNat : Nat) : Int)
/-- The first number that is let in, within k. -/
noncomputable def search (rest n : Int) : Nat → Int → Option (Int × Int)
  | 0, _ => none
  | k + 1, s => if mixedS (nextS s) + rest < 18446744073709551616 then some (nextS s, mixedS (nextS s) % n) else search rest n k (nextS s)
open Classical in
noncomputable def belowI (s n : Int) : Int × Int := if h : ∃ r k, search (18446744073709551616 % n) n k s = some r then Classical.choose h else (0, 0)
noncomputable def belowS : Int → Int → Int × Int := Classical.choose (⟨belowI, rfl⟩ : ∃ f, f = belowI)
theorem belowS_eq : belowS = belowI := Classical.choose_spec (⟨belowI, rfl⟩ : ∃ f, f = belowI)
theorem mixed_range (z : Int) : 0 ≤ mixedS z ∧ mixedS z < 18446744073709551616 := by rw [mixedS_eq]; exact xor_range _ _
theorem mixed_zero : mixedS 0 = 0 := by rw [mixedS_eq]; kernel_rfl
theorem next_range (z : Int) : 0 ≤ nextS z ∧ nextS z < 18446744073709551616 := by rw [nextS_eq]; exact u64_range _
theorem search_more {rest n : Int} {r : Int × Int} : ∀ {k : Nat} {s : Int}, search rest n k s = some r → ∀ d, search rest n (k + d) s = some r
  | 0, s, h, d => by cases h
  | k + 1, s, h, d => by
    rw [show k + 1 + d = (k + d) + 1 by omega]
    simp only [search] at h ⊢
    split at h
    · rename_i hc; rw [if_pos hc]; exact h
    · rename_i hc; rw [if_neg hc]; exact search_more h d
theorem search_one {rest n : Int} {r r' : Int × Int} {k k' : Nat} {s : Int} (h : search rest n k s = some r) (h' : search rest n k' s = some r') : r = r' := by
  have h1 := search_more h k'
  have h2 := search_more h' k
  rw [Nat.add_comm] at h2
  exact Option.some.inj (h1.symm.trans h2)
theorem below_of_search {s n : Int} {k : Nat} {r : Int × Int} (h : search (18446744073709551616 % n) n k s = some r) : belowS s n = r := by
  rw [belowS_eq]
  unfold belowI
  have hx : ∃ r k, search (18446744073709551616 % n) n k s = some r := ⟨r, k, h⟩
  rw [dif_pos hx]
  obtain ⟨k', h'⟩ := Classical.choose_spec hx
  exact search_one h' h
/-- Some state is nought in the end. -/
theorem search_some {rest n : Int} (hr : rest < 18446744073709551616) : ∀ (j : Nat) (s : Int), (s + ((j : Int) + 1) * 11400714819323198485) % 18446744073709551616 = 0 → ∃ r, search rest n (j + 1) s = some r
  | 0, s, h => by
    have e : nextS s = 0 := by
      rw [nextS_eq]; unfold nextI; rw [wrap_u64_mod, ← h]; congr 1
    simp only [search]
    rw [e, mixed_zero, if_pos (by omega)]
    exact ⟨_, rfl⟩
  | j + 1, s, h => by
    have e : (nextS s + ((j : Int) + 1) * 11400714819323198485) % 18446744073709551616 = 0 := by
      rw [nextS_eq]; unfold nextI; rw [wrap_u64_mod, Int.emod_add_emod, ← h]; congr 1
      rw [Int.natCast_add, Int.add_mul, Int.add_mul, Int.add_mul]
      simp only [Int.one_mul, Int.natCast_one, Int.add_assoc]
      rw [Int.add_comm (11400714819323198485 : Int) _]
      simp only [Int.add_assoc]
    obtain ⟨r, hr'⟩ := search_some hr j _ e
    rw [search]
    by_cases hc : mixedS (nextS s) + rest < 18446744073709551616
    · rw [if_pos hc]; exact ⟨_, rfl⟩
    · rw [if_neg hc]; exact ⟨r, hr'⟩
theorem inv_step : (17428512612931826493 * 11400714819323198485 : Int) % 18446744073709551616 = 1 := by decide
theorem search_ends {s rest n : Int} (h0 : 0 ≤ s) (h1 : s < 18446744073709551616) (hr : rest < 18446744073709551616) : ∃ k r, search rest n k s = some r := by
  obtain ⟨j, hj⟩ : ∃ j : Nat, (j : Int) + 1 = (18446744073709551616 - s) * 17428512612931826493 := by
    refine ⟨((18446744073709551616 - s) * 17428512612931826493 - 1).toNat, ?_⟩
    have : 1 ≤ (18446744073709551616 - s) * 17428512612931826493 := by
      have := Int.mul_le_mul_of_nonneg_right (show (1 : Int) ≤ 18446744073709551616 - s by omega) (show (0 : Int) ≤ 17428512612931826493 by decide)
      rw [Int.one_mul] at this
      exact Int.le_trans (by decide) this
    rw [Int.toNat_of_nonneg (by omega)]; omega
  obtain ⟨r, h⟩ := search_some (rest := rest) (n := n) hr j s (by
    rw [hj, Int.mul_assoc, Int.add_emod, Int.mul_emod, inv_step, Int.mul_one, Int.emod_emod_of_dvd _ (Int.dvd_refl _), ← Int.add_emod]
    have : s + (18446744073709551616 - s) = 18446744073709551616 := by omega
    rw [this]; decide)
  exact ⟨_, r, h⟩
theorem rest_range {n : Int} (h : 1 ≤ n) (h2 : n ≤ 512) : 0 ≤ 18446744073709551616 % n ∧ 18446744073709551616 % n < 512 :=
  ⟨Int.emod_nonneg _ (by omega), Int.lt_of_lt_of_le (Int.emod_lt_of_pos _ (by omega)) h2⟩
/-! downpour/random.mixed -/
noncomputable def mixedF_s1 {R : Type} (z : Int) (c0 : Int → Option R) : Option R :=
  bnd (shfI .shr .u64 z 30) fun v1 =>
  bnd (shfI .shr .u64 (IntKind.u64.wrap ((xorI .u64 z v1) * 13787848793156543929)) 27) fun v2 =>
  bnd (shfI .shr .u64 (IntKind.u64.wrap ((xorI .u64 (IntKind.u64.wrap ((xorI .u64 z v1) * 13787848793156543929)) v2) * 10723151780598845931)) 31) fun v3 =>
  c0 (xorI .u64 (IntKind.u64.wrap ((xorI .u64 (IntKind.u64.wrap ((xorI .u64 z v1) * 13787848793156543929)) v2) * 10723151780598845931)) v3)
theorem mixedF_s1_eq (fuel : Nat)  (z : Int) : callN Try.prog mode Tbl.nil fuel 33 [.s (.int .u64 z)] [] = mixedF_s1 z (fun (a4 : Int) => some (.s (.int .u64 a4), [])) := by kernel_rfl
noncomputable def mixedF {R : Type} (fuel : Nat) (z : Int) (r0 : Int → Option R) : Option R :=
  (mixedF_s1 z (fun (a4 : Int) => r0 a4))
theorem mixedF_eq (fuel : Nat) (z : Int) : callN Try.prog mode Tbl.nil fuel 33 [.s (.int .u64 z)] [] = mixedF fuel z (fun (z0 : Int) => some (.s (.int .u64 z0), [])) := by
  unfold mixedF
  exact (mixedF_s1_eq fuel  z)
theorem mixed_fact (z : Int) (hg : (decide (0 ≤ z) && decide (z < 18446744073709551616)) = true) : Fact Try.prog noG 33 [.s (.int .u64 z)] [] (.s (.int .u64 (mixedS z)), []) := by
  refine callN_fact hN hM nil_ok (n := 0) (mode := mode) ?_
  rw [mixedF_eq]
  unfold mixedF mixedF_s1
  rw [bnd_of (shr_u64 (c := 1073741824) (by decide) (by decide)), bnd_of (shr_u64 (c := 134217728) (by decide) (by decide)), bnd_of (shr_u64 (c := 2147483648) (by decide) (by decide)), mixedS_eq]
  rfl
noncomputable def mixed_ent : List V → List Blk → Option (Bool × Out)
  | [.s (.int .u64 z)], [] => some ((decide (0 ≤ z) && decide (z < 18446744073709551616)), (.s (.int .u64 (mixedS z)), []))
  | _, _ => none
theorem mixed_ok : ∀ args bs out, mixed_ent args bs = some (true, out) → Fact Try.prog noG 33 args bs out := by
  intro args bs out h
  unfold mixed_ent at h
  split at h
  · rename_i z
    simp only [Option.some.injEq, Prod.mk.injEq] at h
    obtain ⟨hg, rfl⟩ := h
    exact mixed_fact z hg
  · cases h
noncomputable def T_mixed : Tbl := Tbl.cons 33 mixed_ent Tbl.nil
theorem T_mixed_ok : CallOk Try.prog noG T_mixed := cons_ok nil_ok mixed_ok
/-! downpour/downpourref06.Mixed -/
noncomputable def refMixedF_s1 {R : Type} (z : Int) (c0 : Int → Option R) : Option R :=
  bnd (divI .quo .u64 z 1073741824) fun v1 =>
  bnd (divI .quo .u64 (IntKind.u64.wrap ((xorI .u64 z v1) * 13787848793156543929)) 134217728) fun v2 =>
  bnd (divI .quo .u64 (IntKind.u64.wrap ((xorI .u64 (IntKind.u64.wrap ((xorI .u64 z v1) * 13787848793156543929)) v2) * 10723151780598845931)) 2147483648) fun v3 =>
  c0 (xorI .u64 (IntKind.u64.wrap ((xorI .u64 (IntKind.u64.wrap ((xorI .u64 z v1) * 13787848793156543929)) v2) * 10723151780598845931)) v3)
theorem refMixedF_s1_eq (fuel : Nat)  (z : Int) : callN Try.prog mode T_mixed fuel 11 [.s (.int .u64 z)] [] = refMixedF_s1 z (fun (a4 : Int) => some (.s (.int .u64 a4), [])) := by kernel_rfl
noncomputable def refMixedF {R : Type} (fuel : Nat) (z : Int) (r0 : Int → Option R) : Option R :=
  (refMixedF_s1 z (fun (a4 : Int) => r0 a4))
theorem refMixedF_eq (fuel : Nat) (z : Int) : callN Try.prog mode T_mixed fuel 11 [.s (.int .u64 z)] [] = refMixedF fuel z (fun (z0 : Int) => some (.s (.int .u64 z0), [])) := by
  unfold refMixedF
  exact (refMixedF_s1_eq fuel  z)
theorem refMixed_fact (z : Int) (hg : (decide (0 ≤ z) && decide (z < 18446744073709551616)) = true) : Fact Try.prog noG 11 [.s (.int .u64 z)] [] (.s (.int .u64 (mixedS z)), []) := by
  simp only [Bool.and_eq_true, decide_eq_true_eq] at hg
  refine callN_fact hN hM T_mixed_ok (n := 0) (mode := mode) ?_
  rw [refMixedF_eq]
  unfold refMixedF refMixedF_s1
  rw [bnd_of (quo_u64 hg.1 hg.2 (by decide)), bnd_of (quo_u64 (u64_range _).1 (u64_range _).2 (by decide)), bnd_of (quo_u64 (u64_range _).1 (u64_range _).2 (by decide)), mixedS_eq]
  rfl
noncomputable def refMixed_ent : List V → List Blk → Option (Bool × Out)
  | [.s (.int .u64 z)], [] => some ((decide (0 ≤ z) && decide (z < 18446744073709551616)), (.s (.int .u64 (mixedS z)), []))
  | _, _ => none
theorem refMixed_ok : ∀ args bs out, refMixed_ent args bs = some (true, out) → Fact Try.prog noG 11 args bs out := by
  intro args bs out h
  unfold refMixed_ent at h
  split at h
  · rename_i z
    simp only [Option.some.injEq, Prod.mk.injEq] at h
    obtain ⟨hg, rfl⟩ := h
    exact refMixed_fact z hg
  · cases h
noncomputable def T_refMixed : Tbl := Tbl.cons 11 refMixed_ent T_mixed
theorem T_refMixed_ok : CallOk Try.prog noG T_refMixed := cons_ok T_mixed_ok refMixed_ok
/-! downpour/random.Start -/
noncomputable def startF_s1 {R : Type} (z : Int) (c0 : Int → Option R) : Option R :=
  grd (decide (0 ≤ z) && decide (z < 18446744073709551616)) <|
  c0 (mixedS z)
theorem startF_s1_eq (fuel : Nat)  (z : Int) : callN Try.prog mode T_refMixed fuel 10 [.s (.int .u64 z)] [] = startF_s1 z (fun (a1 : Int) => some (.s (.int .u64 a1), [])) := by kernel_rfl
noncomputable def startF {R : Type} (fuel : Nat) (z : Int) (r0 : Int → Option R) : Option R :=
  (startF_s1 z (fun (a1 : Int) => r0 a1))
theorem startF_eq (fuel : Nat) (z : Int) : callN Try.prog mode T_refMixed fuel 10 [.s (.int .u64 z)] [] = startF fuel z (fun (z0 : Int) => some (.s (.int .u64 z0), [])) := by
  unfold startF
  exact (startF_s1_eq fuel  z)
theorem start_fact (z : Int) (hg : (decide (0 ≤ z) && decide (z < 18446744073709551616)) = true) : Fact Try.prog noG 10 [.s (.int .u64 z)] [] (.s (.int .u64 (mixedS z)), []) := by
  refine callN_fact hN hM T_refMixed_ok (n := 0) (mode := mode) ?_
  rw [startF_eq]
  unfold startF startF_s1
  rw [grd_of hg]
noncomputable def start_ent : List V → List Blk → Option (Bool × Out)
  | [.s (.int .u64 z)], [] => some ((decide (0 ≤ z) && decide (z < 18446744073709551616)), (.s (.int .u64 (mixedS z)), []))
  | _, _ => none
theorem start_ok : ∀ args bs out, start_ent args bs = some (true, out) → Fact Try.prog noG 10 args bs out := by
  intro args bs out h
  unfold start_ent at h
  split at h
  · rename_i z
    simp only [Option.some.injEq, Prod.mk.injEq] at h
    obtain ⟨hg, rfl⟩ := h
    exact start_fact z hg
  · cases h
noncomputable def T_start : Tbl := Tbl.cons 10 start_ent T_refMixed
theorem T_start_ok : CallOk Try.prog noG T_start := cons_ok T_refMixed_ok start_ok
/-! downpour/random.Next -/
noncomputable def nextF_s1 {R : Type} (s : Int) (c0 : Int → Int → Option R) : Option R :=
  grd (decide (0 ≤ (IntKind.u64.wrap (s + 11400714819323198485))) && decide ((IntKind.u64.wrap (s + 11400714819323198485)) < 18446744073709551616)) <|
  c0 (IntKind.u64.wrap (s + 11400714819323198485)) (mixedS (IntKind.u64.wrap (s + 11400714819323198485)))
theorem nextF_s1_eq (fuel : Nat)  (s : Int) : callN Try.prog mode T_start fuel 8 [.s (.int .u64 s)] [] = nextF_s1 s (fun (a1 : Int) (a2 : Int) => some (.tup [.s (.int .u64 a1), .s (.int .u64 a2)], [])) := by kernel_rfl
noncomputable def nextF {R : Type} (fuel : Nat) (s : Int) (r0 : Int → Int → Option R) : Option R :=
  (nextF_s1 s (fun (a1 : Int) (a2 : Int) => r0 a1 a2))
theorem nextF_eq (fuel : Nat) (s : Int) : callN Try.prog mode T_start fuel 8 [.s (.int .u64 s)] [] = nextF fuel s (fun (z0 : Int) (z1 : Int) => some (.tup [.s (.int .u64 z0), .s (.int .u64 z1)], [])) := by
  unfold nextF
  exact (nextF_s1_eq fuel  s)
theorem next_fact (s : Int) : Fact Try.prog noG 8 [.s (.int .u64 s)] [] (.tup [.s (.int .u64 (nextS s)), .s (.int .u64 (mixedS (nextS s)))], []) := by
  refine callN_fact hN hM T_start_ok (n := 0) (mode := mode) ?_
  rw [nextF_eq]
  unfold nextF nextF_s1
  have := u64_range (s + 11400714819323198485)
  rw [grd_of (by simp only [Bool.and_eq_true, decide_eq_true_eq]; exact this), nextS_eq]
  rfl
noncomputable def next_ent : List V → List Blk → Option (Bool × Out)
  | [.s (.int .u64 s)], [] => some (true, (.tup [.s (.int .u64 (nextS s)), .s (.int .u64 (mixedS (nextS s)))], []))
  | _, _ => none
theorem next_ok : ∀ args bs out, next_ent args bs = some (true, out) → Fact Try.prog noG 8 args bs out := by
  intro args bs out h
  unfold next_ent at h
  split at h
  · rename_i s
    simp only [Option.some.injEq, Prod.mk.injEq] at h
    obtain ⟨_, rfl⟩ := h
    exact next_fact s
  · cases h
noncomputable def T_next : Tbl := Tbl.cons 8 next_ent T_start
theorem T_next_ok : CallOk Try.prog noG T_next := cons_ok T_start_ok next_ok
/-! downpour/random.sized -/
noncomputable def sizedF_s1 {R : Type} (n : Int) (c0 : Bool → Option R) : Option R :=
  br (decide (n ≥ 1))
    (c0 (decide (n ≤ 512)))
    (c0 false)
theorem sizedF_s1_eq (fuel : Nat)  (n : Int) : callN Try.prog mode T_next fuel 34 [.s (.int .i64 n)] [] = sizedF_s1 n (fun (a1 : Bool) => some (.s (.bool a1), [])) := by kernel_rfl
noncomputable def sizedF {R : Type} (fuel : Nat) (n : Int) (r0 : Bool → Option R) : Option R :=
  (sizedF_s1 n (fun (a1 : Bool) => r0 a1))
theorem sizedF_eq (fuel : Nat) (n : Int) : callN Try.prog mode T_next fuel 34 [.s (.int .i64 n)] [] = sizedF fuel n (fun (z0 : Bool) => some (.s (.bool z0), [])) := by
  unfold sizedF
  exact (sizedF_s1_eq fuel  n)
theorem sized_fact (n : Int) : Fact Try.prog noG 34 [.s (.int .i64 n)] [] (.s (.bool (sizedS n)), []) := by
  refine callN_fact hN hM T_next_ok (n := 0) (mode := mode) ?_
  rw [sizedF_eq]
  unfold sizedF sizedF_s1 sizedS
  rw [br_if]
  by_cases h : n ≥ 1
  · rw [if_pos (by simpa using h), decide_eq_true (show 1 ≤ n from h)]; rfl
  · rw [if_neg (by simpa using h), decide_eq_false (show ¬ 1 ≤ n from h)]; rfl
noncomputable def sized_ent : List V → List Blk → Option (Bool × Out)
  | [.s (.int .i64 n)], [] => some (true, (.s (.bool (sizedS n)), []))
  | _, _ => none
theorem sized_ok : ∀ args bs out, sized_ent args bs = some (true, out) → Fact Try.prog noG 34 args bs out := by
  intro args bs out h
  unfold sized_ent at h
  split at h
  · rename_i n
    simp only [Option.some.injEq, Prod.mk.injEq] at h
    obtain ⟨_, rfl⟩ := h
    exact sized_fact n
  · cases h
noncomputable def T_sized : Tbl := Tbl.cons 34 sized_ent T_next
theorem T_sized_ok : CallOk Try.prog noG T_sized := cons_ok T_next_ok sized_ok
/-! downpour/random.numbers -/
noncomputable def numbersF_s1 {R : Type} (s : Int) (c0 : Nat → Int → Option R) : Option R :=
  c0 0 s
theorem numbersF_s1_eq (fuel : Nat)  (s : Int) : callN Try.prog mode T_sized fuel 59 [.s (.int .u64 s)] [] = numbersF_s1 s (fun (a1 : Nat) (a2 : Int) => some (.fn (.func 69) [] [.ptr 0 1 a1 0], [some ⟨22, .agg [.s (.int .u64 a2)], true⟩])) := by kernel_rfl
noncomputable def numbersF {R : Type} (fuel : Nat) (s : Int) (r0 : Nat → Int → Option R) : Option R :=
  (numbersF_s1 s (fun (a1 : Nat) (a2 : Int) => r0 a1 a2))
theorem numbersF_eq (fuel : Nat) (s : Int) : callN Try.prog mode T_sized fuel 59 [.s (.int .u64 s)] [] = numbersF fuel s (fun (z0 : Nat) (z1 : Int) => some (.fn (.func 69) [] [.ptr 0 1 z0 0], [some ⟨22, .agg [.s (.int .u64 z1)], true⟩])) := by
  unfold numbersF
  exact (numbersF_s1_eq fuel  s)
theorem numbers_fact (s : Int) : Fact Try.prog noG 59 [.s (.int .u64 s)] [] (.fn (.func 69) [] [.ptr 0 1 0 0], [some ⟨22, .agg [.s (.int .u64 s)], true⟩]) := by
  refine callN_fact hN hM T_sized_ok (n := 0) (mode := mode) ?_
  rw [numbersF_eq]
  rfl
noncomputable def numbers_ent : List V → List Blk → Option (Bool × Out)
  | [.s (.int .u64 s)], [] => some (true, (.fn (.func 69) [] [.ptr 0 1 0 0], [some ⟨22, .agg [.s (.int .u64 s)], true⟩]))
  | _, _ => none
theorem numbers_ok : ∀ args bs out, numbers_ent args bs = some (true, out) → Fact Try.prog noG 59 args bs out := by
  intro args bs out h
  unfold numbers_ent at h
  split at h
  · rename_i s
    simp only [Option.some.injEq, Prod.mk.injEq] at h
    obtain ⟨_, rfl⟩ := h
    exact numbers_fact s
  · cases h
noncomputable def T_numbers : Tbl := Tbl.cons 59 numbers_ent T_sized
theorem T_numbers_ok : CallOk Try.prog noG T_numbers := cons_ok T_sized_ok numbers_ok
/-! math/bits.LeadingZeros64 -/
def isLz (y : Nat) : Option (Bool × Out) → Bool
  | some (true, .s (.int .i64 q), []) => decide (q = 63 - ((Nat.log2 y : Nat) : Int))
  | _ => false
theorem isLz_eq {y : Nat} {o : Option (Bool × Out)} (h : isLz y o = true) : o = some (true, .s (.int .i64 (63 - ((Nat.log2 y : Nat) : Int))), []) := by
  unfold isLz at h
  split at h
  · rw [of_decide_eq_true h]
  · cases h
theorem lz_all : (List.range 511).all (fun i => isLz (i + 2) (lv Try.prog mode Tbl.nil 20 68 [.s (.int .u64 ((i + 2 : Nat) : Int))] [])) = true := by kernel_rfl
theorem lz_fact (y : Int) (hg : (decide (2 ≤ y) && decide (y ≤ 512)) = true) : Fact Try.prog noG 68 [.s (.int .u64 y)] [] (.s (.int .i64 (lzS y)), []) := by
  simp only [Bool.and_eq_true, decide_eq_true_eq] at hg
  have h := List.all_eq_true.1 lz_all (y.toNat - 2) (by rw [List.mem_range]; omega)
  have h := isLz_eq h
  have e : ((y.toNat - 2 + 2 : Nat) : Int) = y := by omega
  have e2 : y.toNat - 2 + 2 = y.toNat := by omega
  rw [e, e2] at h
  exact lv_fact hN hM nil_ok h
noncomputable def lz_ent : List V → List Blk → Option (Bool × Out)
  | [.s (.int .u64 y)], [] => some ((decide (2 ≤ y) && decide (y ≤ 512)), (.s (.int .i64 (lzS y)), []))
  | _, _ => none
theorem lz_ok : ∀ args bs out, lz_ent args bs = some (true, out) → Fact Try.prog noG 68 args bs out := by
  intro args bs out h
  unfold lz_ent at h
  split at h
  · rename_i y
    simp only [Option.some.injEq, Prod.mk.injEq] at h
    obtain ⟨hg, rfl⟩ := h
    exact lz_fact y hg
  · cases h
noncomputable def T_lz : Tbl := Tbl.cons 68 lz_ent T_numbers
theorem T_lz_ok : CallOk Try.prog noG T_lz := cons_ok T_numbers_ok lz_ok
/-! math/bits.Div64 -/
noncomputable def divF_s2 {R : Type} (w17 : Int) (w18 : Int) (v2 : Int) (w13 : Int) (w14 : Int) (w15 : Int) (w16 : Int) (v6 : Int) (v1 : Int) (c0 : Int → Int → Int → Int → Int → Int → Option R) (c1 : Int → Int → Int → Int → Int → Int → Option R) (c2 : Int → Int → Int → Int → Int → Int → Option R) (c3 : Int → Int → Int → Int → Int → Int → Option R) (c4 : Int → Int → Int → Int → Int → Int → Option R) : Option R :=
  br (decide (w17 ≥ 4294967296))
    (br (decide ((IntKind.u64.wrap (w18 + v2)) ≥ 4294967296))
      (c0 w13 w14 w15 w16 (IntKind.u64.wrap (w17 - 1)) (IntKind.u64.wrap (w18 + v2)))
      (c1 w13 w14 w15 w16 (IntKind.u64.wrap (w17 - 1)) (IntKind.u64.wrap (w18 + v2))))
    (br (decide ((IntKind.u64.wrap (w17 * w14)) > (IntKind.u64.wrap ((IntKind.u64.wrap (4294967296 * w18)) + v6))))
      (br (decide ((IntKind.u64.wrap (w18 + v2)) ≥ 4294967296))
        (c2 w13 w14 w15 w16 (IntKind.u64.wrap (w17 - 1)) (IntKind.u64.wrap (w18 + v2)))
        (c3 w13 w14 w15 w16 (IntKind.u64.wrap (w17 - 1)) (IntKind.u64.wrap (w18 + v2))))
      (c4 w13 w14 w15 w16 w17 w18))
theorem divF_s2_eq (fuel : Nat) (k : Nat) (K : Ex → St → Option Out) (w17 : Int) (w18 : Int) (v2 : Int) (w13 : Int) (w14 : Int) (w15 : Int) (w16 : Int) (v6 : Int) (v1 : Int) : lpN (sub (bodyOf Try.prog 58) [1, 1, 1, 1, 1, 1, 1, 1, 1, 1, 1, 1, 1, 1, 0, 0, 0]) (fnX Try.prog mode T_lz fuel 135 0) 43556142965880045952059494414999150391236 [2, 6, 7, 8, 9, 10, 11, 13, 14, 15, 16] (k + 1) ⟨[(2, .s (.int .u64 v1)), (6, .s (.int .u64 0)), (7, .s (.int .u64 0)), (8, .s (.int .u64 w13)), (9, .s (.int .u64 v2)), (10, .s (.int .u64 w14)), (11, .s (.int .u64 w15)), (13, .s (.int .u64 v6)), (14, .s (.int .u64 w16)), (15, .s (.int .u64 w17)), (16, .s (.int .u64 w18))], [], 0, none⟩ K = divF_s2 w17 w18 v2 w13 w14 w15 w16 v6 v1 (fun (a25 : Int) (a26 : Int) (a27 : Int) (a28 : Int) (a29 : Int) (a30 : Int) => K (.exit 0) ⟨[(2, .s (.int .u64 v1)), (6, .s (.int .u64 0)), (7, .s (.int .u64 0)), (8, .s (.int .u64 a25)), (9, .s (.int .u64 v2)), (10, .s (.int .u64 a26)), (11, .s (.int .u64 a27)), (13, .s (.int .u64 v6)), (14, .s (.int .u64 a28)), (15, .s (.int .u64 a29)), (16, .s (.int .u64 a30))], [], 0, none⟩) (fun (a31 : Int) (a32 : Int) (a33 : Int) (a34 : Int) (a35 : Int) (a36 : Int) => lpN (sub (bodyOf Try.prog 58) [1, 1, 1, 1, 1, 1, 1, 1, 1, 1, 1, 1, 1, 1, 0, 0, 0]) (fnX Try.prog mode T_lz fuel 135 0) 43556142965880045952059494414999150391236 [2, 6, 7, 8, 9, 10, 11, 13, 14, 15, 16] k ⟨[(2, .s (.int .u64 v1)), (6, .s (.int .u64 0)), (7, .s (.int .u64 0)), (8, .s (.int .u64 a31)), (9, .s (.int .u64 v2)), (10, .s (.int .u64 a32)), (11, .s (.int .u64 a33)), (13, .s (.int .u64 v6)), (14, .s (.int .u64 a34)), (15, .s (.int .u64 a35)), (16, .s (.int .u64 a36))], [], 0, none⟩ K) (fun (a37 : Int) (a38 : Int) (a39 : Int) (a40 : Int) (a41 : Int) (a42 : Int) => K (.exit 0) ⟨[(2, .s (.int .u64 v1)), (6, .s (.int .u64 0)), (7, .s (.int .u64 0)), (8, .s (.int .u64 a37)), (9, .s (.int .u64 v2)), (10, .s (.int .u64 a38)), (11, .s (.int .u64 a39)), (13, .s (.int .u64 v6)), (14, .s (.int .u64 a40)), (15, .s (.int .u64 a41)), (16, .s (.int .u64 a42))], [], 0, none⟩) (fun (a43 : Int) (a44 : Int) (a45 : Int) (a46 : Int) (a47 : Int) (a48 : Int) => lpN (sub (bodyOf Try.prog 58) [1, 1, 1, 1, 1, 1, 1, 1, 1, 1, 1, 1, 1, 1, 0, 0, 0]) (fnX Try.prog mode T_lz fuel 135 0) 43556142965880045952059494414999150391236 [2, 6, 7, 8, 9, 10, 11, 13, 14, 15, 16] k ⟨[(2, .s (.int .u64 v1)), (6, .s (.int .u64 0)), (7, .s (.int .u64 0)), (8, .s (.int .u64 a43)), (9, .s (.int .u64 v2)), (10, .s (.int .u64 a44)), (11, .s (.int .u64 a45)), (13, .s (.int .u64 v6)), (14, .s (.int .u64 a46)), (15, .s (.int .u64 a47)), (16, .s (.int .u64 a48))], [], 0, none⟩ K) (fun (a49 : Int) (a50 : Int) (a51 : Int) (a52 : Int) (a53 : Int) (a54 : Int) => K (.exit 0) ⟨[(2, .s (.int .u64 v1)), (6, .s (.int .u64 0)), (7, .s (.int .u64 0)), (8, .s (.int .u64 a49)), (9, .s (.int .u64 v2)), (10, .s (.int .u64 a50)), (11, .s (.int .u64 a51)), (13, .s (.int .u64 v6)), (14, .s (.int .u64 a52)), (15, .s (.int .u64 a53)), (16, .s (.int .u64 a54))], [], 0, none⟩) := by kernel_rfl
noncomputable def divF_l1 {R : Type} (fuel : Nat) (v1 : Int) (v2 : Int) (v6 : Int) (k0 : Int → Int → Int → Int → Int → Int → Option R) : Nat → Int → Int → Int → Int → Int → Int → Option R
  | 0, _, _, _, _, _, _ => none
  | k + 1, w13, w14, w15, w16, w17, w18 =>
    (divF_s2 w17 w18 v2 w13 w14 w15 w16 v6 v1 (fun (a25 : Int) (a26 : Int) (a27 : Int) (a28 : Int) (a29 : Int) (a30 : Int) => k0 a25 a26 a27 a28 a29 a30) (fun (a31 : Int) (a32 : Int) (a33 : Int) (a34 : Int) (a35 : Int) (a36 : Int) => ( divF_l1 fuel v1 v2 v6 k0 k a31 a32 a33 a34 a35 a36 )) (fun (a37 : Int) (a38 : Int) (a39 : Int) (a40 : Int) (a41 : Int) (a42 : Int) => k0 a37 a38 a39 a40 a41 a42) (fun (a43 : Int) (a44 : Int) (a45 : Int) (a46 : Int) (a47 : Int) (a48 : Int) => ( divF_l1 fuel v1 v2 v6 k0 k a43 a44 a45 a46 a47 a48 )) (fun (a49 : Int) (a50 : Int) (a51 : Int) (a52 : Int) (a53 : Int) (a54 : Int) => k0 a49 a50 a51 a52 a53 a54))
theorem divF_l1_eq (fuel : Nat) (v1 : Int) (v2 : Int) (v6 : Int) (K : Ex → St → Option Out) : ∀ (k : Nat) (w13 : Int) (w14 : Int) (w15 : Int) (w16 : Int) (w17 : Int) (w18 : Int), lpN (sub (bodyOf Try.prog 58) [1, 1, 1, 1, 1, 1, 1, 1, 1, 1, 1, 1, 1, 1, 0, 0, 0]) (fnX Try.prog mode T_lz fuel 135 0) 43556142965880045952059494414999150391236 [2, 6, 7, 8, 9, 10, 11, 13, 14, 15, 16] k ⟨[(2, .s (.int .u64 v1)), (6, .s (.int .u64 0)), (7, .s (.int .u64 0)), (8, .s (.int .u64 w13)), (9, .s (.int .u64 v2)), (10, .s (.int .u64 w14)), (11, .s (.int .u64 w15)), (13, .s (.int .u64 v6)), (14, .s (.int .u64 w16)), (15, .s (.int .u64 w17)), (16, .s (.int .u64 w18))], [], 0, none⟩ K = divF_l1 fuel v1 v2 v6 (fun (y19 : Int) (y20 : Int) (y21 : Int) (y22 : Int) (y23 : Int) (y24 : Int) => K (.exit 0) ⟨[(2, .s (.int .u64 v1)), (6, .s (.int .u64 0)), (7, .s (.int .u64 0)), (8, .s (.int .u64 y19)), (9, .s (.int .u64 v2)), (10, .s (.int .u64 y20)), (11, .s (.int .u64 y21)), (13, .s (.int .u64 v6)), (14, .s (.int .u64 y22)), (15, .s (.int .u64 y23)), (16, .s (.int .u64 y24))], [], 0, none⟩) k w13 w14 w15 w16 w17 w18
  | 0, _, _, _, _, _, _ => rfl
  | k + 1, w13, w14, w15, w16, w17, w18 => by
    unfold divF_l1
    exact (divF_s2_eq fuel k K w17 w18 v2 w13 w14 w15 w16 v6 v1).trans (congr (congr (congr (congr (congr (Eq.refl (divF_s2 (R := Out) w17 w18 v2 w13 w14 w15 w16 v6 v1)) (rfl)) (funext fun a31 => funext fun a32 => funext fun a33 => funext fun a34 => funext fun a35 => funext fun a36 => divF_l1_eq fuel v1 v2 v6 K k a31 a32 a33 a34 a35 a36)) (rfl)) (funext fun a43 => funext fun a44 => funext fun a45 => funext fun a46 => funext fun a47 => funext fun a48 => divF_l1_eq fuel v1 v2 v6 K k a43 a44 a45 a46 a47 a48)) (rfl))
noncomputable def divF_s4 {R : Type} (w72 : Int) (w70 : Int) (v2 : Int) (w71 : Int) (x62 : Int) (x64 : Int) (v1 : Int) (x61 : Int) (x65 : Int) (c0 : Int → Int → Option R) (c1 : Int → Int → Int → Option R) (c2 : Int → Int → Option R) (c3 : Int → Int → Int → Option R) (c4 : Int → Int → Option R) : Option R :=
  br (decide (w72 ≥ 4294967296))
    (br (decide ((IntKind.u64.wrap (w70 + v2)) ≥ 4294967296))
      (c0 w71 (IntKind.u64.wrap (w72 - 1)))
      (c1 (IntKind.u64.wrap (w70 + v2)) w71 (IntKind.u64.wrap (w72 - 1))))
    (br (decide ((IntKind.u64.wrap (w72 * x62)) > (IntKind.u64.wrap ((IntKind.u64.wrap (4294967296 * w70)) + x64))))
      (br (decide ((IntKind.u64.wrap (w70 + v2)) ≥ 4294967296))
        (c2 w71 (IntKind.u64.wrap (w72 - 1)))
        (c3 (IntKind.u64.wrap (w70 + v2)) w71 (IntKind.u64.wrap (w72 - 1))))
      (c4 w71 w72))
theorem divF_s4_eq (fuel : Nat) (k : Nat) (K : Ex → St → Option Out) (w72 : Int) (w70 : Int) (v2 : Int) (w71 : Int) (x62 : Int) (x64 : Int) (v1 : Int) (x61 : Int) (x65 : Int) : lpN (sub (bodyOf Try.prog 58) [1, 1, 1, 1, 1, 1, 1, 1, 1, 1, 1, 1, 1, 1, 1, 1, 1, 1, 0, 0, 0]) (fnX Try.prog mode T_lz fuel 135 0) 43553484509888553491566142137145770820036 [2, 6, 7, 8, 9, 10, 14, 15, 16, 17, 18] (k + 1) ⟨[(2, .s (.int .u64 v1)), (6, .s (.int .u64 0)), (7, .s (.int .u64 0)), (8, .s (.int .u64 x61)), (9, .s (.int .u64 v2)), (10, .s (.int .u64 x62)), (14, .s (.int .u64 x64)), (15, .s (.int .u64 x65)), (16, .s (.int .u64 w70)), (17, .s (.int .u64 w71)), (18, .s (.int .u64 w72))], [], 0, none⟩ K = divF_s4 w72 w70 v2 w71 x62 x64 v1 x61 x65 (fun (a75 : Int) (a76 : Int) => K (.exit 2) ⟨[(2, .s (.int .u64 v1)), (6, .s (.int .u64 0)), (7, .s (.int .u64 0)), (8, .s (.int .u64 x61)), (14, .s (.int .u64 x64)), (15, .s (.int .u64 x65)), (17, .s (.int .u64 a75)), (18, .s (.int .u64 a76))], [], 0, none⟩) (fun (a77 : Int) (a78 : Int) (a79 : Int) => lpN (sub (bodyOf Try.prog 58) [1, 1, 1, 1, 1, 1, 1, 1, 1, 1, 1, 1, 1, 1, 1, 1, 1, 1, 0, 0, 0]) (fnX Try.prog mode T_lz fuel 135 0) 43553484509888553491566142137145770820036 [2, 6, 7, 8, 9, 10, 14, 15, 16, 17, 18] k ⟨[(2, .s (.int .u64 v1)), (6, .s (.int .u64 0)), (7, .s (.int .u64 0)), (8, .s (.int .u64 x61)), (9, .s (.int .u64 v2)), (10, .s (.int .u64 x62)), (14, .s (.int .u64 x64)), (15, .s (.int .u64 x65)), (16, .s (.int .u64 a77)), (17, .s (.int .u64 a78)), (18, .s (.int .u64 a79))], [], 0, none⟩ K) (fun (a80 : Int) (a81 : Int) => K (.exit 2) ⟨[(2, .s (.int .u64 v1)), (6, .s (.int .u64 0)), (7, .s (.int .u64 0)), (8, .s (.int .u64 x61)), (14, .s (.int .u64 x64)), (15, .s (.int .u64 x65)), (17, .s (.int .u64 a80)), (18, .s (.int .u64 a81))], [], 0, none⟩) (fun (a82 : Int) (a83 : Int) (a84 : Int) => lpN (sub (bodyOf Try.prog 58) [1, 1, 1, 1, 1, 1, 1, 1, 1, 1, 1, 1, 1, 1, 1, 1, 1, 1, 0, 0, 0]) (fnX Try.prog mode T_lz fuel 135 0) 43553484509888553491566142137145770820036 [2, 6, 7, 8, 9, 10, 14, 15, 16, 17, 18] k ⟨[(2, .s (.int .u64 v1)), (6, .s (.int .u64 0)), (7, .s (.int .u64 0)), (8, .s (.int .u64 x61)), (9, .s (.int .u64 v2)), (10, .s (.int .u64 x62)), (14, .s (.int .u64 x64)), (15, .s (.int .u64 x65)), (16, .s (.int .u64 a82)), (17, .s (.int .u64 a83)), (18, .s (.int .u64 a84))], [], 0, none⟩ K) (fun (a85 : Int) (a86 : Int) => K (.exit 2) ⟨[(2, .s (.int .u64 v1)), (6, .s (.int .u64 0)), (7, .s (.int .u64 0)), (8, .s (.int .u64 x61)), (14, .s (.int .u64 x64)), (15, .s (.int .u64 x65)), (17, .s (.int .u64 a85)), (18, .s (.int .u64 a86))], [], 0, none⟩) := by kernel_rfl
noncomputable def divF_l2 {R : Type} (fuel : Nat) (v1 : Int) (x61 : Int) (v2 : Int) (x62 : Int) (x64 : Int) (x65 : Int) (k0 : Int → Int → Option R) : Nat → Int → Int → Int → Option R
  | 0, _, _, _ => none
  | k + 1, w70, w71, w72 =>
    (divF_s4 w72 w70 v2 w71 x62 x64 v1 x61 x65 (fun (a75 : Int) (a76 : Int) => k0 a75 a76) (fun (a77 : Int) (a78 : Int) (a79 : Int) => ( divF_l2 fuel v1 x61 v2 x62 x64 x65 k0 k a77 a78 a79 )) (fun (a80 : Int) (a81 : Int) => k0 a80 a81) (fun (a82 : Int) (a83 : Int) (a84 : Int) => ( divF_l2 fuel v1 x61 v2 x62 x64 x65 k0 k a82 a83 a84 )) (fun (a85 : Int) (a86 : Int) => k0 a85 a86))
theorem divF_l2_eq (fuel : Nat) (v1 : Int) (x61 : Int) (v2 : Int) (x62 : Int) (x64 : Int) (x65 : Int) (K : Ex → St → Option Out) : ∀ (k : Nat) (w70 : Int) (w71 : Int) (w72 : Int), lpN (sub (bodyOf Try.prog 58) [1, 1, 1, 1, 1, 1, 1, 1, 1, 1, 1, 1, 1, 1, 1, 1, 1, 1, 0, 0, 0]) (fnX Try.prog mode T_lz fuel 135 0) 43553484509888553491566142137145770820036 [2, 6, 7, 8, 9, 10, 14, 15, 16, 17, 18] k ⟨[(2, .s (.int .u64 v1)), (6, .s (.int .u64 0)), (7, .s (.int .u64 0)), (8, .s (.int .u64 x61)), (9, .s (.int .u64 v2)), (10, .s (.int .u64 x62)), (14, .s (.int .u64 x64)), (15, .s (.int .u64 x65)), (16, .s (.int .u64 w70)), (17, .s (.int .u64 w71)), (18, .s (.int .u64 w72))], [], 0, none⟩ K = divF_l2 fuel v1 x61 v2 x62 x64 x65 (fun (y73 : Int) (y74 : Int) => K (.exit 2) ⟨[(2, .s (.int .u64 v1)), (6, .s (.int .u64 0)), (7, .s (.int .u64 0)), (8, .s (.int .u64 x61)), (14, .s (.int .u64 x64)), (15, .s (.int .u64 x65)), (17, .s (.int .u64 y73)), (18, .s (.int .u64 y74))], [], 0, none⟩) k w70 w71 w72
  | 0, _, _, _ => rfl
  | k + 1, w70, w71, w72 => by
    unfold divF_l2
    exact (divF_s4_eq fuel k K w72 w70 v2 w71 x62 x64 v1 x61 x65).trans (congr (congr (congr (congr (congr (Eq.refl (divF_s4 (R := Out) w72 w70 v2 w71 x62 x64 v1 x61 x65)) (rfl)) (funext fun a77 => funext fun a78 => funext fun a79 => divF_l2_eq fuel v1 x61 v2 x62 x64 x65 K k a77 a78 a79)) (rfl)) (funext fun a82 => funext fun a83 => funext fun a84 => divF_l2_eq fuel v1 x61 v2 x62 x64 x65 K k a82 a83 a84)) (rfl))
noncomputable def divF_s5 {R : Type} (x90 : Int) (x64 : Int) (x91 : Int) (v1 : Int) (x61 : Int) (x65 : Int) (c0 : Int → Int → Option R) : Option R :=
  bnd (shfI .shr .u64 (IntKind.u64.wrap ((IntKind.u64.wrap ((IntKind.u64.wrap (x90 * 4294967296)) + x64)) - (IntKind.u64.wrap (x91 * v1)))) x61) fun v92 =>
  c0 (IntKind.u64.wrap ((IntKind.u64.wrap (x65 * 4294967296)) + x91)) v92
theorem divF_s5_eq (fuel : Nat)  (x90 : Int) (x64 : Int) (x91 : Int) (v1 : Int) (x61 : Int) (x65 : Int) : (kont (fnX Try.prog mode T_lz fuel 135 0) (bodyOf Try.prog 58) [1, 1, 1, 1, 1, 1, 1, 1, 1, 1, 1, 1, 1, 1, 1, 1, 1, 1, 0, 0] 192 (endK Try.prog 0 0 58)) (.exit 2) ⟨[(2, .s (.int .u64 v1)), (6, .s (.int .u64 0)), (7, .s (.int .u64 0)), (8, .s (.int .u64 x61)), (14, .s (.int .u64 x64)), (15, .s (.int .u64 x65)), (17, .s (.int .u64 x90)), (18, .s (.int .u64 x91))], [], 0, none⟩ = divF_s5 x90 x64 x91 v1 x61 x65 (fun (a93 : Int) (a94 : Int) => some (.tup [.s (.int .u64 a93), .s (.int .u64 a94)], [])) := by kernel_rfl
noncomputable def divF_s3 {R : Type} (x63 : Int) (v6 : Int) (x65 : Int) (v1 : Int) (v2 : Int) (x61 : Int) (x62 : Int) (x64 : Int) (x66 : Int) (c0 : Int → Int → Int → Option R) : Option R :=
  bnd (divI .quo .u64 (IntKind.u64.wrap ((IntKind.u64.wrap ((IntKind.u64.wrap (x63 * 4294967296)) + v6)) - (IntKind.u64.wrap (x65 * v1)))) v2) fun v67 =>
  c0 (IntKind.u64.wrap ((IntKind.u64.wrap ((IntKind.u64.wrap ((IntKind.u64.wrap (x63 * 4294967296)) + v6)) - (IntKind.u64.wrap (x65 * v1)))) - (IntKind.u64.wrap (v67 * v2)))) (IntKind.u64.wrap ((IntKind.u64.wrap ((IntKind.u64.wrap (x63 * 4294967296)) + v6)) - (IntKind.u64.wrap (x65 * v1)))) v67
theorem divF_s3_eq (fuel : Nat)  (x63 : Int) (v6 : Int) (x65 : Int) (v1 : Int) (v2 : Int) (x61 : Int) (x62 : Int) (x64 : Int) (x66 : Int) : (kont (fnX Try.prog mode T_lz fuel 135 0) (bodyOf Try.prog 58) [1, 1, 1, 1, 1, 1, 1, 1, 1, 1, 1, 1, 1, 1, 0, 0] 192 (endK Try.prog 0 0 58)) (.exit 0) ⟨[(2, .s (.int .u64 v1)), (6, .s (.int .u64 0)), (7, .s (.int .u64 0)), (8, .s (.int .u64 x61)), (9, .s (.int .u64 v2)), (10, .s (.int .u64 x62)), (11, .s (.int .u64 x63)), (13, .s (.int .u64 v6)), (14, .s (.int .u64 x64)), (15, .s (.int .u64 x65)), (16, .s (.int .u64 x66))], [], 0, none⟩ = divF_s3 x63 v6 x65 v1 v2 x61 x62 x64 x66 (fun (a87 : Int) (a88 : Int) (a89 : Int) => lpN (sub (bodyOf Try.prog 58) [1, 1, 1, 1, 1, 1, 1, 1, 1, 1, 1, 1, 1, 1, 1, 1, 1, 1, 0, 0, 0]) (fnX Try.prog mode T_lz fuel 135 0) 43553484509888553491566142137145770820036 [2, 6, 7, 8, 9, 10, 14, 15, 16, 17, 18] fuel ⟨[(2, .s (.int .u64 v1)), (6, .s (.int .u64 0)), (7, .s (.int .u64 0)), (8, .s (.int .u64 x61)), (9, .s (.int .u64 v2)), (10, .s (.int .u64 x62)), (14, .s (.int .u64 x64)), (15, .s (.int .u64 x65)), (16, .s (.int .u64 a87)), (17, .s (.int .u64 a88)), (18, .s (.int .u64 a89))], [], 0, none⟩ (kont (fnX Try.prog mode T_lz fuel 135 0) (bodyOf Try.prog 58) [1, 1, 1, 1, 1, 1, 1, 1, 1, 1, 1, 1, 1, 1, 1, 1, 1, 1, 0, 0] 192 (endK Try.prog 0 0 58))) := by kernel_rfl
noncomputable def divF_s1 {R : Type} (y : Int) (c0 : Int → Int → Int → Int → Int → Int → Int → Int → Int → Option R) : Option R :=
  br (y == 0)
    (none)
    (br (decide (y ≤ 1))
      (none)
      (grd (decide (2 ≤ y) && decide (y ≤ 512)) <|
      bnd (shfI .shl .u64 y (IntKind.u64.wrap (lzS y))) fun v1 =>
      bnd (shfI .shr .u64 v1 32) fun v2 =>
      bnd (shfI .shl .u64 1 (IntKind.u64.wrap (lzS y))) fun v3 =>
      bnd (shfI .shr .u64 0 (IntKind.u64.wrap (64 - (IntKind.u64.wrap (lzS y))))) fun v4 =>
      bnd (shfI .shl .u64 0 (IntKind.u64.wrap (lzS y))) fun v5 =>
      bnd (shfI .shr .u64 v5 32) fun v6 =>
      bnd (divI .quo .u64 (orI .u64 v3 v4) v2) fun v7 =>
      c0 (IntKind.u64.wrap (lzS y)) (andI .u64 v1 4294967295) (orI .u64 v3 v4) (andI .u64 v5 4294967295) v7 (IntKind.u64.wrap ((orI .u64 v3 v4) - (IntKind.u64.wrap (v7 * v2)))) v1 v2 v6))
theorem divF_s1_eq (fuel : Nat)  (y : Int) : callN Try.prog mode T_lz fuel 58 [.s (.int .u64 1), .s (.int .u64 0), .s (.int .u64 y)] [] = divF_s1 y (fun (a55 : Int) (a56 : Int) (a57 : Int) (a58 : Int) (a59 : Int) (a60 : Int) (v1 : Int) (v2 : Int) (v6 : Int) => lpN (sub (bodyOf Try.prog 58) [1, 1, 1, 1, 1, 1, 1, 1, 1, 1, 1, 1, 1, 1, 0, 0, 0]) (fnX Try.prog mode T_lz fuel 135 0) 43556142965880045952059494414999150391236 [2, 6, 7, 8, 9, 10, 11, 13, 14, 15, 16] fuel ⟨[(2, .s (.int .u64 v1)), (6, .s (.int .u64 0)), (7, .s (.int .u64 0)), (8, .s (.int .u64 a55)), (9, .s (.int .u64 v2)), (10, .s (.int .u64 a56)), (11, .s (.int .u64 a57)), (13, .s (.int .u64 v6)), (14, .s (.int .u64 a58)), (15, .s (.int .u64 a59)), (16, .s (.int .u64 a60))], [], 0, none⟩ (kont (fnX Try.prog mode T_lz fuel 135 0) (bodyOf Try.prog 58) [1, 1, 1, 1, 1, 1, 1, 1, 1, 1, 1, 1, 1, 1, 0, 0] 192 (endK Try.prog 0 0 58))) := by kernel_rfl
noncomputable def divF {R : Type} (fuel : Nat) (y : Int) (r0 : Int → Int → Option R) : Option R :=
  (divF_s1 y (fun (a55 : Int) (a56 : Int) (a57 : Int) (a58 : Int) (a59 : Int) (a60 : Int) (v1 : Int) (v2 : Int) (v6 : Int) => (divF_l1 fuel v1 v2 v6 (fun (x61 : Int) (x62 : Int) (x63 : Int) (x64 : Int) (x65 : Int) (x66 : Int) => (divF_s3 x63 v6 x65 v1 v2 x61 x62 x64 x66 (fun (a87 : Int) (a88 : Int) (a89 : Int) => (divF_l2 fuel v1 x61 v2 x62 x64 x65 (fun (x90 : Int) (x91 : Int) => (divF_s5 x90 x64 x91 v1 x61 x65 (fun (a93 : Int) (a94 : Int) => r0 a93 a94))) fuel a87 a88 a89)))) fuel a55 a56 a57 a58 a59 a60)))
theorem divF_eq (fuel : Nat) (y : Int) : callN Try.prog mode T_lz fuel 58 [.s (.int .u64 1), .s (.int .u64 0), .s (.int .u64 y)] [] = divF fuel y (fun (z0 : Int) (z1 : Int) => some (.tup [.s (.int .u64 z0), .s (.int .u64 z1)], [])) := by
  unfold divF
  exact (divF_s1_eq fuel  y).trans (congr (Eq.refl (divF_s1 (R := Out) y)) (funext fun a55 => funext fun a56 => funext fun a57 => funext fun a58 => funext fun a59 => funext fun a60 => funext fun v1 => funext fun v2 => funext fun v6 => (divF_l1_eq fuel v1 v2 v6 (kont (fnX Try.prog mode T_lz fuel 135 0) (bodyOf Try.prog 58) [1, 1, 1, 1, 1, 1, 1, 1, 1, 1, 1, 1, 1, 1, 0, 0] 192 (endK Try.prog 0 0 58)) fuel a55 a56 a57 a58 a59 a60).trans (congrFun (congrFun (congrFun (congrFun (congrFun (congrFun (congrFun (congr (Eq.refl (divF_l1 (R := Out) fuel v1 v2 v6)) (funext fun x61 => funext fun x62 => funext fun x63 => funext fun x64 => funext fun x65 => funext fun x66 => (divF_s3_eq fuel  x63 v6 x65 v1 v2 x61 x62 x64 x66).trans (congr (Eq.refl (divF_s3 (R := Out) x63 v6 x65 v1 v2 x61 x62 x64 x66)) (funext fun a87 => funext fun a88 => funext fun a89 => (divF_l2_eq fuel v1 x61 v2 x62 x64 x65 (kont (fnX Try.prog mode T_lz fuel 135 0) (bodyOf Try.prog 58) [1, 1, 1, 1, 1, 1, 1, 1, 1, 1, 1, 1, 1, 1, 1, 1, 1, 1, 0, 0] 192 (endK Try.prog 0 0 58)) fuel a87 a88 a89).trans (congrFun (congrFun (congrFun (congrFun (congr (Eq.refl (divF_l2 (R := Out) fuel v1 x61 v2 x62 x64 x65)) (funext fun x90 => funext fun x91 => (divF_s5_eq fuel  x90 x64 x91 v1 x61 x65))) fuel) a87) a88) a89))))) fuel) a55) a56) a57) a58) a59) a60)))
def isDiv (y : Nat) : Option Out → Bool
  | some (.tup [.s (.int .u64 q), .s (.int .u64 r)], []) => decide (q = 18446744073709551616 / (y : Int)) && decide (r = 18446744073709551616 % (y : Int))
  | _ => false
theorem isDiv_eq {y : Nat} {o : Option Out} (h : isDiv y o = true) : o = some (.tup [.s (.int .u64 (18446744073709551616 / (y : Int))), .s (.int .u64 (18446744073709551616 % (y : Int)))], []) := by
  unfold isDiv at h
  split at h
  · rw [Bool.and_eq_true] at h; rw [of_decide_eq_true h.1, of_decide_eq_true h.2]
  · cases h
theorem div_all : (List.range 511).all (fun i => isDiv (i + 2) (divF (R := Out) 8 ((i + 2 : Nat) : Int) (fun (z0 : Int) (z1 : Int) => some (.tup [.s (.int .u64 z0), .s (.int .u64 z1)], [])))) = true := by kernel_rfl
theorem div_fact (y : Int) (hg : (decide (2 ≤ y) && decide (y ≤ 512)) = true) : Fact Try.prog noG 58 [.s (.int .u64 1), .s (.int .u64 0), .s (.int .u64 y)] [] (.tup [.s (.int .u64 (18446744073709551616 / y)), .s (.int .u64 (18446744073709551616 % y))], []) := by
  simp only [Bool.and_eq_true, decide_eq_true_eq] at hg
  have h := List.all_eq_true.1 div_all (y.toNat - 2) (by rw [List.mem_range]; omega)
  have h := isDiv_eq h
  have e : ((y.toNat - 2 + 2 : Nat) : Int) = y := by omega
  rw [e] at h
  refine callN_fact hN hM T_lz_ok (n := 8) (mode := mode) ?_
  rw [divF_eq]
  exact h
noncomputable def div_ent : List V → List Blk → Option (Bool × Out)
  | [.s (.int .u64 1), .s (.int .u64 0), .s (.int .u64 y)], [] => some ((decide (2 ≤ y) && decide (y ≤ 512)), (.tup [.s (.int .u64 (18446744073709551616 / y)), .s (.int .u64 (18446744073709551616 % y))], []))
  | _, _ => none
theorem div_ok : ∀ args bs out, div_ent args bs = some (true, out) → Fact Try.prog noG 58 args bs out := by
  intro args bs out h
  unfold div_ent at h
  split at h
  · rename_i y
    simp only [Option.some.injEq, Prod.mk.injEq] at h
    obtain ⟨hg, rfl⟩ := h
    exact div_fact y hg
  · cases h
noncomputable def T_div : Tbl := Tbl.cons 58 div_ent T_lz
theorem T_div_ok : CallOk Try.prog noG T_div := cons_ok T_lz_ok div_ok
/-! downpour/random.below -/
noncomputable def belowF_s2 {R : Type} (s : Int) (n : Int) (c0 : Int → Int → Option R) (c1 : Int → Int → Option R) : Option R :=
  br (decide (((mixedS (nextS s)) : Int) < 0))
    (bnd (divI .rem .u64 (mixedS (nextS s)) (IntKind.u64.wrap n)) fun v5 =>
    c0 (nextS s) (IntKind.i64.wrap v5))
    (bnd (divI .rem .u64 (mixedS (nextS s)) (IntKind.u64.wrap n)) fun v8 =>
    c1 (nextS s) (IntKind.i64.wrap v8))
theorem belowF_s2_eq (fuel : Nat) (k : Nat) (K : Ex → St → Option Out) (s : Int) (n : Int) : lpN (sub (bodyOf Try.prog 69) [0, 0]) (itX Try.prog mode T_div fuel 3 14 6 5 (roundK (evC (sub (bodyOf Try.prog 35) [1, 1, 1, 0, 1, 0, 0])) (evC (sub (bodyOf Try.prog 35) [1, 1, 1, 0, 1, 0, 1])) (fnX Try.prog mode T_div fuel 38 0) #[21, 22] 137430565816 [(0, .s (.int .u64 s)), (3, .ptr 0 1 0 0), (4, .ptr 1 1 0 0), (5, .ptr 2 1 0 0), (7, .ptr 3 1 0 0), (20, .fn (.func 69) [] [.ptr 4 1 0 0])])) 0 [0, 1] (k + 1) ⟨[(0, .yl 5), (1, .ptr 4 1 0 0)], [(0, some ⟨3, .agg [.s (.int .i64 n)], true⟩), (1, some ⟨22, .agg [.s (.int .u64 0)], true⟩), (2, some ⟨3, .agg [.s (.int .i64 0)], true⟩), (3, some ⟨22, .agg [.s (.int .u64 0)], true⟩), (4, some ⟨22, .agg [.s (.int .u64 s)], true⟩), (5, none)], 6, none⟩ K = belowF_s2 s n (fun (a6 : Int) (a7 : Int) => K .ret ⟨[], [(0, some ⟨3, .agg [.s (.int .i64 n)], true⟩), (1, some ⟨22, .agg [.s (.int .u64 a6)], true⟩), (2, some ⟨3, .agg [.s (.int .i64 a7)], true⟩), (3, some ⟨22, .agg [.s (.int .u64 0)], true⟩), (4, some ⟨22, .agg [.s (.int .u64 a6)], true⟩), (5, none)], 6, (some .ret)⟩) (fun (a9 : Int) (a10 : Int) => K .ret ⟨[], [(0, some ⟨3, .agg [.s (.int .i64 n)], true⟩), (1, some ⟨22, .agg [.s (.int .u64 a9)], true⟩), (2, some ⟨3, .agg [.s (.int .i64 a10)], true⟩), (3, some ⟨22, .agg [.s (.int .u64 0)], true⟩), (4, some ⟨22, .agg [.s (.int .u64 a9)], true⟩), (5, none)], 6, (some .ret)⟩) := by kernel_rfl
noncomputable def belowF_l1 {R : Type} (fuel : Nat) (n : Int) (s : Int) (k0 : Int → Int → Option R) : Nat → Option R
  | 0 => none
  | k + 1 =>
    (belowF_s2 s n (fun (a6 : Int) (a7 : Int) => k0 a6 a7) (fun (a9 : Int) (a10 : Int) => k0 a9 a10))
theorem belowF_l1_eq (fuel : Nat) (n : Int) (s : Int) (K : Ex → St → Option Out) : ∀ (k : Nat) , lpN (sub (bodyOf Try.prog 69) [0, 0]) (itX Try.prog mode T_div fuel 3 14 6 5 (roundK (evC (sub (bodyOf Try.prog 35) [1, 1, 1, 0, 1, 0, 0])) (evC (sub (bodyOf Try.prog 35) [1, 1, 1, 0, 1, 0, 1])) (fnX Try.prog mode T_div fuel 38 0) #[21, 22] 137430565816 [(0, .s (.int .u64 s)), (3, .ptr 0 1 0 0), (4, .ptr 1 1 0 0), (5, .ptr 2 1 0 0), (7, .ptr 3 1 0 0), (20, .fn (.func 69) [] [.ptr 4 1 0 0])])) 0 [0, 1] k ⟨[(0, .yl 5), (1, .ptr 4 1 0 0)], [(0, some ⟨3, .agg [.s (.int .i64 n)], true⟩), (1, some ⟨22, .agg [.s (.int .u64 0)], true⟩), (2, some ⟨3, .agg [.s (.int .i64 0)], true⟩), (3, some ⟨22, .agg [.s (.int .u64 0)], true⟩), (4, some ⟨22, .agg [.s (.int .u64 s)], true⟩), (5, none)], 6, none⟩ K = belowF_l1 fuel n s (fun (y3 : Int) (y4 : Int) => K .ret ⟨[], [(0, some ⟨3, .agg [.s (.int .i64 n)], true⟩), (1, some ⟨22, .agg [.s (.int .u64 y3)], true⟩), (2, some ⟨3, .agg [.s (.int .i64 y4)], true⟩), (3, some ⟨22, .agg [.s (.int .u64 0)], true⟩), (4, some ⟨22, .agg [.s (.int .u64 y3)], true⟩), (5, none)], 6, (some .ret)⟩) k 
  | 0 => rfl
  | k + 1 => by
    unfold belowF_l1
    exact (belowF_s2_eq fuel k K s n)
noncomputable def belowF_s3 {R : Type} (x11 : Int) (x12 : Int) (s : Int) (n : Int) (c0 : Int → Int → Option R) : Option R :=
  c0 x11 x12
theorem belowF_s3_eq (fuel : Nat)  (x11 : Int) (x12 : Int) (s : Int) (n : Int) : (kont (itX Try.prog mode T_div fuel 3 14 6 5 (roundK (evC (sub (bodyOf Try.prog 35) [1, 1, 1, 0, 1, 0, 0])) (evC (sub (bodyOf Try.prog 35) [1, 1, 1, 0, 1, 0, 1])) (fnX Try.prog mode T_div fuel 38 0) #[21, 22] 137430565816 [(0, .s (.int .u64 s)), (3, .ptr 0 1 0 0), (4, .ptr 1 1 0 0), (5, .ptr 2 1 0 0), (7, .ptr 3 1 0 0), (20, .fn (.func 69) [] [.ptr 4 1 0 0])])) (bodyOf Try.prog 69) [0] 0 (itE (behind ⟨[(0, .s (.int .u64 s)), (3, .ptr 0 1 0 0), (4, .ptr 1 1 0 0), (5, .ptr 2 1 0 0), (7, .ptr 3 1 0 0), (20, .fn (.func 69) [] [.ptr 4 1 0 0])], [(0, some ⟨3, .agg [.s (.int .i64 n)], true⟩), (1, some ⟨22, .agg [.s (.int .u64 0)], true⟩), (2, some ⟨3, .agg [.s (.int .i64 0)], true⟩), (3, some ⟨22, .agg [.s (.int .u64 0)], true⟩), (4, some ⟨22, .agg [.s (.int .u64 s)], true⟩)], 5, none⟩ (kont (fnX Try.prog mode T_div fuel 38 0) (bodyOf Try.prog 35) [1, 1, 1, 0, 1, 0] 48 (endK Try.prog 0 0 35))))) .ret ⟨[], [(0, some ⟨3, .agg [.s (.int .i64 n)], true⟩), (1, some ⟨22, .agg [.s (.int .u64 x11)], true⟩), (2, some ⟨3, .agg [.s (.int .i64 x12)], true⟩), (3, some ⟨22, .agg [.s (.int .u64 0)], true⟩), (4, some ⟨22, .agg [.s (.int .u64 x11)], true⟩), (5, none)], 6, (some .ret)⟩ = belowF_s3 x11 x12 s n (fun (a13 : Int) (a14 : Int) => some (.tup [.s (.int .u64 a13), .s (.int .i64 a14)], [])) := by kernel_rfl
noncomputable def belowF_s4 {R : Type} (w19 : Int) (w18 : Int) (n : Int) (s : Int) (c0 : Int → Int → Int → Option R) (c1 : Int → Int → Int → Option R) (c2 : Int → Int → Option R) : Option R :=
  br (decide ((mixedS (nextS w19)) < (IntKind.u64.wrap (0 - w18))))
    (bnd (divI .rem .u64 (mixedS (nextS w19)) (IntKind.u64.wrap n)) fun v25 =>
    c0 (nextS w19) (IntKind.i64.wrap v25) w18)
    (br (w18 == 0)
      (bnd (divI .rem .u64 (mixedS (nextS w19)) (IntKind.u64.wrap n)) fun v29 =>
      c1 (nextS w19) (IntKind.i64.wrap v29) w18)
      (c2 w18 (nextS w19)))
theorem belowF_s4_eq (fuel : Nat) (k : Nat) (K : Ex → St → Option Out) (w19 : Int) (w18 : Int) (n : Int) (s : Int) : lpN (sub (bodyOf Try.prog 69) [0, 0]) (itX Try.prog mode T_div fuel 3 14 6 5 (roundK (evC (sub (bodyOf Try.prog 35) [1, 1, 1, 0, 1, 0, 0])) (evC (sub (bodyOf Try.prog 35) [1, 1, 1, 0, 1, 0, 1])) (fnX Try.prog mode T_div fuel 38 0) #[21, 22] 137430565816 [(0, .s (.int .u64 s)), (3, .ptr 0 1 0 0), (4, .ptr 1 1 0 0), (5, .ptr 2 1 0 0), (7, .ptr 3 1 0 0), (20, .fn (.func 69) [] [.ptr 4 1 0 0])])) 0 [0, 1] (k + 1) ⟨[(0, .yl 5), (1, .ptr 4 1 0 0)], [(0, some ⟨3, .agg [.s (.int .i64 n)], true⟩), (1, some ⟨22, .agg [.s (.int .u64 0)], true⟩), (2, some ⟨3, .agg [.s (.int .i64 0)], true⟩), (3, some ⟨22, .agg [.s (.int .u64 w18)], true⟩), (4, some ⟨22, .agg [.s (.int .u64 w19)], true⟩), (5, none)], 6, none⟩ K = belowF_s4 w19 w18 n s (fun (a26 : Int) (a27 : Int) (a28 : Int) => K .ret ⟨[], [(0, some ⟨3, .agg [.s (.int .i64 n)], true⟩), (1, some ⟨22, .agg [.s (.int .u64 a26)], true⟩), (2, some ⟨3, .agg [.s (.int .i64 a27)], true⟩), (3, some ⟨22, .agg [.s (.int .u64 a28)], true⟩), (4, some ⟨22, .agg [.s (.int .u64 a26)], true⟩), (5, none)], 6, (some .ret)⟩) (fun (a30 : Int) (a31 : Int) (a32 : Int) => K .ret ⟨[], [(0, some ⟨3, .agg [.s (.int .i64 n)], true⟩), (1, some ⟨22, .agg [.s (.int .u64 a30)], true⟩), (2, some ⟨3, .agg [.s (.int .i64 a31)], true⟩), (3, some ⟨22, .agg [.s (.int .u64 a32)], true⟩), (4, some ⟨22, .agg [.s (.int .u64 a30)], true⟩), (5, none)], 6, (some .ret)⟩) (fun (a33 : Int) (a34 : Int) => lpN (sub (bodyOf Try.prog 69) [0, 0]) (itX Try.prog mode T_div fuel 3 14 6 5 (roundK (evC (sub (bodyOf Try.prog 35) [1, 1, 1, 0, 1, 0, 0])) (evC (sub (bodyOf Try.prog 35) [1, 1, 1, 0, 1, 0, 1])) (fnX Try.prog mode T_div fuel 38 0) #[21, 22] 137430565816 [(0, .s (.int .u64 s)), (3, .ptr 0 1 0 0), (4, .ptr 1 1 0 0), (5, .ptr 2 1 0 0), (7, .ptr 3 1 0 0), (20, .fn (.func 69) [] [.ptr 4 1 0 0])])) 0 [0, 1] k ⟨[(0, .yl 5), (1, .ptr 4 1 0 0)], [(0, some ⟨3, .agg [.s (.int .i64 n)], true⟩), (1, some ⟨22, .agg [.s (.int .u64 0)], true⟩), (2, some ⟨3, .agg [.s (.int .i64 0)], true⟩), (3, some ⟨22, .agg [.s (.int .u64 a33)], true⟩), (4, some ⟨22, .agg [.s (.int .u64 a34)], true⟩), (5, none)], 6, none⟩ K) := by kernel_rfl
noncomputable def belowF_l2 {R : Type} (fuel : Nat) (n : Int) (s : Int) (k0 : Int → Int → Int → Option R) : Nat → Int → Int → Option R
  | 0, _, _ => none
  | k + 1, w18, w19 =>
    (belowF_s4 w19 w18 n s (fun (a26 : Int) (a27 : Int) (a28 : Int) => k0 a26 a27 a28) (fun (a30 : Int) (a31 : Int) (a32 : Int) => k0 a30 a31 a32) (fun (a33 : Int) (a34 : Int) => ( belowF_l2 fuel n s k0 k a33 a34 )))
theorem belowF_l2_eq (fuel : Nat) (n : Int) (s : Int) (K : Ex → St → Option Out) : ∀ (k : Nat) (w18 : Int) (w19 : Int), lpN (sub (bodyOf Try.prog 69) [0, 0]) (itX Try.prog mode T_div fuel 3 14 6 5 (roundK (evC (sub (bodyOf Try.prog 35) [1, 1, 1, 0, 1, 0, 0])) (evC (sub (bodyOf Try.prog 35) [1, 1, 1, 0, 1, 0, 1])) (fnX Try.prog mode T_div fuel 38 0) #[21, 22] 137430565816 [(0, .s (.int .u64 s)), (3, .ptr 0 1 0 0), (4, .ptr 1 1 0 0), (5, .ptr 2 1 0 0), (7, .ptr 3 1 0 0), (20, .fn (.func 69) [] [.ptr 4 1 0 0])])) 0 [0, 1] k ⟨[(0, .yl 5), (1, .ptr 4 1 0 0)], [(0, some ⟨3, .agg [.s (.int .i64 n)], true⟩), (1, some ⟨22, .agg [.s (.int .u64 0)], true⟩), (2, some ⟨3, .agg [.s (.int .i64 0)], true⟩), (3, some ⟨22, .agg [.s (.int .u64 w18)], true⟩), (4, some ⟨22, .agg [.s (.int .u64 w19)], true⟩), (5, none)], 6, none⟩ K = belowF_l2 fuel n s (fun (y22 : Int) (y23 : Int) (y24 : Int) => K .ret ⟨[], [(0, some ⟨3, .agg [.s (.int .i64 n)], true⟩), (1, some ⟨22, .agg [.s (.int .u64 y22)], true⟩), (2, some ⟨3, .agg [.s (.int .i64 y23)], true⟩), (3, some ⟨22, .agg [.s (.int .u64 y24)], true⟩), (4, some ⟨22, .agg [.s (.int .u64 y22)], true⟩), (5, none)], 6, (some .ret)⟩) k w18 w19
  | 0, _, _ => rfl
  | k + 1, w18, w19 => by
    unfold belowF_l2
    exact (belowF_s4_eq fuel k K w19 w18 n s).trans (congr (congr (congr (Eq.refl (belowF_s4 (R := Out) w19 w18 n s)) (rfl)) (rfl)) (funext fun a33 => funext fun a34 => belowF_l2_eq fuel n s K k a33 a34))
noncomputable def belowF_s5 {R : Type} (x37 : Int) (x38 : Int) (s : Int) (n : Int) (x39 : Int) (c0 : Int → Int → Option R) : Option R :=
  c0 x37 x38
theorem belowF_s5_eq (fuel : Nat)  (x37 : Int) (x38 : Int) (s : Int) (n : Int) (x39 : Int) : (kont (itX Try.prog mode T_div fuel 3 14 6 5 (roundK (evC (sub (bodyOf Try.prog 35) [1, 1, 1, 0, 1, 0, 0])) (evC (sub (bodyOf Try.prog 35) [1, 1, 1, 0, 1, 0, 1])) (fnX Try.prog mode T_div fuel 38 0) #[21, 22] 137430565816 [(0, .s (.int .u64 s)), (3, .ptr 0 1 0 0), (4, .ptr 1 1 0 0), (5, .ptr 2 1 0 0), (7, .ptr 3 1 0 0), (20, .fn (.func 69) [] [.ptr 4 1 0 0])])) (bodyOf Try.prog 69) [0] 0 (itE (behind ⟨[(0, .s (.int .u64 s)), (3, .ptr 0 1 0 0), (4, .ptr 1 1 0 0), (5, .ptr 2 1 0 0), (7, .ptr 3 1 0 0), (20, .fn (.func 69) [] [.ptr 4 1 0 0])], [(0, some ⟨3, .agg [.s (.int .i64 n)], true⟩), (1, some ⟨22, .agg [.s (.int .u64 0)], true⟩), (2, some ⟨3, .agg [.s (.int .i64 0)], true⟩), (3, some ⟨22, .agg [.s (.int .u64 (18446744073709551616 % (IntKind.u64.wrap (max n 2))))], true⟩), (4, some ⟨22, .agg [.s (.int .u64 s)], true⟩)], 5, none⟩ (kont (fnX Try.prog mode T_div fuel 38 0) (bodyOf Try.prog 35) [1, 1, 1, 0, 1, 0] 48 (endK Try.prog 0 0 35))))) .ret ⟨[], [(0, some ⟨3, .agg [.s (.int .i64 n)], true⟩), (1, some ⟨22, .agg [.s (.int .u64 x37)], true⟩), (2, some ⟨3, .agg [.s (.int .i64 x38)], true⟩), (3, some ⟨22, .agg [.s (.int .u64 x39)], true⟩), (4, some ⟨22, .agg [.s (.int .u64 x37)], true⟩), (5, none)], 6, (some .ret)⟩ = belowF_s5 x37 x38 s n x39 (fun (a40 : Int) (a41 : Int) => some (.tup [.s (.int .u64 a40), .s (.int .i64 a41)], [])) := by kernel_rfl
noncomputable def belowF_s1 {R : Type} (n : Int) (s : Int) (c0 : Option R) (c1 : Int → Int → Option R) : Option R :=
  grd (decide (2 ≤ (IntKind.u64.wrap (max n 2))) && decide ((IntKind.u64.wrap (max n 2)) ≤ 512)) <|
  br (n == 1)
    (c0)
    (c1 (18446744073709551616 % (IntKind.u64.wrap (max n 2))) s)
theorem belowF_s1_eq (fuel : Nat)  (n : Int) (s : Int) : callN Try.prog mode T_div fuel 35 [.s (.int .u64 s), .s (.int .i64 n)] [] = belowF_s1 n s (lpN (sub (bodyOf Try.prog 69) [0, 0]) (itX Try.prog mode T_div fuel 3 14 6 5 (roundK (evC (sub (bodyOf Try.prog 35) [1, 1, 1, 0, 1, 0, 0])) (evC (sub (bodyOf Try.prog 35) [1, 1, 1, 0, 1, 0, 1])) (fnX Try.prog mode T_div fuel 38 0) #[21, 22] 137430565816 [(0, .s (.int .u64 s)), (3, .ptr 0 1 0 0), (4, .ptr 1 1 0 0), (5, .ptr 2 1 0 0), (7, .ptr 3 1 0 0), (20, .fn (.func 69) [] [.ptr 4 1 0 0])])) 0 [0, 1] fuel ⟨[(0, .yl 5), (1, .ptr 4 1 0 0)], [(0, some ⟨3, .agg [.s (.int .i64 n)], true⟩), (1, some ⟨22, .agg [.s (.int .u64 0)], true⟩), (2, some ⟨3, .agg [.s (.int .i64 0)], true⟩), (3, some ⟨22, .agg [.s (.int .u64 0)], true⟩), (4, some ⟨22, .agg [.s (.int .u64 s)], true⟩), (5, none)], 6, none⟩ (kont (itX Try.prog mode T_div fuel 3 14 6 5 (roundK (evC (sub (bodyOf Try.prog 35) [1, 1, 1, 0, 1, 0, 0])) (evC (sub (bodyOf Try.prog 35) [1, 1, 1, 0, 1, 0, 1])) (fnX Try.prog mode T_div fuel 38 0) #[21, 22] 137430565816 [(0, .s (.int .u64 s)), (3, .ptr 0 1 0 0), (4, .ptr 1 1 0 0), (5, .ptr 2 1 0 0), (7, .ptr 3 1 0 0), (20, .fn (.func 69) [] [.ptr 4 1 0 0])])) (bodyOf Try.prog 69) [0] 0 (itE (behind ⟨[(0, .s (.int .u64 s)), (3, .ptr 0 1 0 0), (4, .ptr 1 1 0 0), (5, .ptr 2 1 0 0), (7, .ptr 3 1 0 0), (20, .fn (.func 69) [] [.ptr 4 1 0 0])], [(0, some ⟨3, .agg [.s (.int .i64 n)], true⟩), (1, some ⟨22, .agg [.s (.int .u64 0)], true⟩), (2, some ⟨3, .agg [.s (.int .i64 0)], true⟩), (3, some ⟨22, .agg [.s (.int .u64 0)], true⟩), (4, some ⟨22, .agg [.s (.int .u64 s)], true⟩)], 5, none⟩ (kont (fnX Try.prog mode T_div fuel 38 0) (bodyOf Try.prog 35) [1, 1, 1, 0, 1, 0] 48 (endK Try.prog 0 0 35)))))) (fun (a35 : Int) (a36 : Int) => lpN (sub (bodyOf Try.prog 69) [0, 0]) (itX Try.prog mode T_div fuel 3 14 6 5 (roundK (evC (sub (bodyOf Try.prog 35) [1, 1, 1, 0, 1, 0, 0])) (evC (sub (bodyOf Try.prog 35) [1, 1, 1, 0, 1, 0, 1])) (fnX Try.prog mode T_div fuel 38 0) #[21, 22] 137430565816 [(0, .s (.int .u64 s)), (3, .ptr 0 1 0 0), (4, .ptr 1 1 0 0), (5, .ptr 2 1 0 0), (7, .ptr 3 1 0 0), (20, .fn (.func 69) [] [.ptr 4 1 0 0])])) 0 [0, 1] fuel ⟨[(0, .yl 5), (1, .ptr 4 1 0 0)], [(0, some ⟨3, .agg [.s (.int .i64 n)], true⟩), (1, some ⟨22, .agg [.s (.int .u64 0)], true⟩), (2, some ⟨3, .agg [.s (.int .i64 0)], true⟩), (3, some ⟨22, .agg [.s (.int .u64 a35)], true⟩), (4, some ⟨22, .agg [.s (.int .u64 a36)], true⟩), (5, none)], 6, none⟩ (kont (itX Try.prog mode T_div fuel 3 14 6 5 (roundK (evC (sub (bodyOf Try.prog 35) [1, 1, 1, 0, 1, 0, 0])) (evC (sub (bodyOf Try.prog 35) [1, 1, 1, 0, 1, 0, 1])) (fnX Try.prog mode T_div fuel 38 0) #[21, 22] 137430565816 [(0, .s (.int .u64 s)), (3, .ptr 0 1 0 0), (4, .ptr 1 1 0 0), (5, .ptr 2 1 0 0), (7, .ptr 3 1 0 0), (20, .fn (.func 69) [] [.ptr 4 1 0 0])])) (bodyOf Try.prog 69) [0] 0 (itE (behind ⟨[(0, .s (.int .u64 s)), (3, .ptr 0 1 0 0), (4, .ptr 1 1 0 0), (5, .ptr 2 1 0 0), (7, .ptr 3 1 0 0), (20, .fn (.func 69) [] [.ptr 4 1 0 0])], [(0, some ⟨3, .agg [.s (.int .i64 n)], true⟩), (1, some ⟨22, .agg [.s (.int .u64 0)], true⟩), (2, some ⟨3, .agg [.s (.int .i64 0)], true⟩), (3, some ⟨22, .agg [.s (.int .u64 (18446744073709551616 % (IntKind.u64.wrap (max n 2))))], true⟩), (4, some ⟨22, .agg [.s (.int .u64 s)], true⟩)], 5, none⟩ (kont (fnX Try.prog mode T_div fuel 38 0) (bodyOf Try.prog 35) [1, 1, 1, 0, 1, 0] 48 (endK Try.prog 0 0 35)))))) := by kernel_rfl
noncomputable def belowF {R : Type} (fuel : Nat) (s : Int) (n : Int) (r0 : Int → Int → Option R) : Option R :=
  (belowF_s1 n s ((belowF_l1 fuel n s (fun (x11 : Int) (x12 : Int) => (belowF_s3 x11 x12 s n (fun (a13 : Int) (a14 : Int) => r0 a13 a14))) fuel)) (fun (a35 : Int) (a36 : Int) => (belowF_l2 fuel n s (fun (x37 : Int) (x38 : Int) (x39 : Int) => (belowF_s5 x37 x38 s n x39 (fun (a40 : Int) (a41 : Int) => r0 a40 a41))) fuel a35 a36)))
theorem belowF_eq (fuel : Nat) (s : Int) (n : Int) : callN Try.prog mode T_div fuel 35 [.s (.int .u64 s), .s (.int .i64 n)] [] = belowF fuel s n (fun (z0 : Int) (z1 : Int) => some (.tup [.s (.int .u64 z0), .s (.int .i64 z1)], [])) := by
  unfold belowF
  exact (belowF_s1_eq fuel  n s).trans (congr (congr (Eq.refl (belowF_s1 (R := Out) n s)) ((belowF_l1_eq fuel n s (kont (itX Try.prog mode T_div fuel 3 14 6 5 (roundK (evC (sub (bodyOf Try.prog 35) [1, 1, 1, 0, 1, 0, 0])) (evC (sub (bodyOf Try.prog 35) [1, 1, 1, 0, 1, 0, 1])) (fnX Try.prog mode T_div fuel 38 0) #[21, 22] 137430565816 [(0, .s (.int .u64 s)), (3, .ptr 0 1 0 0), (4, .ptr 1 1 0 0), (5, .ptr 2 1 0 0), (7, .ptr 3 1 0 0), (20, .fn (.func 69) [] [.ptr 4 1 0 0])])) (bodyOf Try.prog 69) [0] 0 (itE (behind ⟨[(0, .s (.int .u64 s)), (3, .ptr 0 1 0 0), (4, .ptr 1 1 0 0), (5, .ptr 2 1 0 0), (7, .ptr 3 1 0 0), (20, .fn (.func 69) [] [.ptr 4 1 0 0])], [(0, some ⟨3, .agg [.s (.int .i64 n)], true⟩), (1, some ⟨22, .agg [.s (.int .u64 0)], true⟩), (2, some ⟨3, .agg [.s (.int .i64 0)], true⟩), (3, some ⟨22, .agg [.s (.int .u64 0)], true⟩), (4, some ⟨22, .agg [.s (.int .u64 s)], true⟩)], 5, none⟩ (kont (fnX Try.prog mode T_div fuel 38 0) (bodyOf Try.prog 35) [1, 1, 1, 0, 1, 0] 48 (endK Try.prog 0 0 35))))) fuel ).trans (congrFun (congr (Eq.refl (belowF_l1 (R := Out) fuel n s)) (funext fun x11 => funext fun x12 => (belowF_s3_eq fuel  x11 x12 s n))) fuel))) (funext fun a35 => funext fun a36 => (belowF_l2_eq fuel n s (kont (itX Try.prog mode T_div fuel 3 14 6 5 (roundK (evC (sub (bodyOf Try.prog 35) [1, 1, 1, 0, 1, 0, 0])) (evC (sub (bodyOf Try.prog 35) [1, 1, 1, 0, 1, 0, 1])) (fnX Try.prog mode T_div fuel 38 0) #[21, 22] 137430565816 [(0, .s (.int .u64 s)), (3, .ptr 0 1 0 0), (4, .ptr 1 1 0 0), (5, .ptr 2 1 0 0), (7, .ptr 3 1 0 0), (20, .fn (.func 69) [] [.ptr 4 1 0 0])])) (bodyOf Try.prog 69) [0] 0 (itE (behind ⟨[(0, .s (.int .u64 s)), (3, .ptr 0 1 0 0), (4, .ptr 1 1 0 0), (5, .ptr 2 1 0 0), (7, .ptr 3 1 0 0), (20, .fn (.func 69) [] [.ptr 4 1 0 0])], [(0, some ⟨3, .agg [.s (.int .i64 n)], true⟩), (1, some ⟨22, .agg [.s (.int .u64 0)], true⟩), (2, some ⟨3, .agg [.s (.int .i64 0)], true⟩), (3, some ⟨22, .agg [.s (.int .u64 (18446744073709551616 % (IntKind.u64.wrap (max n 2))))], true⟩), (4, some ⟨22, .agg [.s (.int .u64 s)], true⟩)], 5, none⟩ (kont (fnX Try.prog mode T_div fuel 38 0) (bodyOf Try.prog 35) [1, 1, 1, 0, 1, 0] 48 (endK Try.prog 0 0 35))))) fuel a35 a36).trans (congrFun (congrFun (congrFun (congr (Eq.refl (belowF_l2 (R := Out) fuel n s)) (funext fun x37 => funext fun x38 => funext fun x39 => (belowF_s5_eq fuel  x37 x38 s n x39))) fuel) a35) a36)))
theorem below_loop {R : Type} (fuel : Nat) (n s0 rest : Int) (hn : 1 ≤ n) (hn2 : n ≤ 512) (hr : 0 ≤ rest) (hr2 : rest < 512) (k0 : Int → Int → Int → Option R) : ∀ (k : Nat) (s : Int) (r : Int × Int), search rest n k s = some r → belowF_l2 fuel n s0 k0 k rest s = k0 r.1 r.2 rest
  | 0, s, r, h => by cases h
  | k + 1, s, r, h => by
    unfold belowF_l2 belowF_s4
    have hx := mixed_range (nextS s)
    have hw : IntKind.u64.wrap n = n := wrap_u64 (by omega) (by omega)
    have hm1 := Int.emod_nonneg (mixedS (nextS s)) (show n ≠ 0 by omega)
    have hm2 := Int.emod_lt_of_pos (mixedS (nextS s)) (show 0 < n by omega)
    simp only [search] at h
    rw [hw, bnd_of (rem_pos hx.1 (by omega)), wrap_i64 (by omega) (by omega), br_if, br_if]
    by_cases h0 : rest = 0
    · subst h0
      rw [if_pos (by omega)] at h
      cases h
      have : ¬ (mixedS (nextS s) < IntKind.u64.wrap (0 - 0)) := by rw [wrap_u64 (by decide) (by decide)]; omega
      rw [if_neg (by simpa using this)]
      simp
    · rw [wrap_u64_mod, show (0 - rest) % 18446744073709551616 = 18446744073709551616 - rest by omega]
      by_cases hc : mixedS (nextS s) + rest < 18446744073709551616
      · rw [if_pos hc] at h
        cases h
        rw [if_pos (by simp; omega)]
      · rw [if_neg hc] at h
        rw [if_neg (by simp; omega), if_neg (by simpa using h0)]
        exact below_loop fuel n s0 rest hn hn2 hr hr2 k0 k _ r h
theorem below_fact (s : Int) (n : Int) (hg : (decide (0 ≤ s) && decide (s < 18446744073709551616) && decide (1 ≤ n) && decide (n ≤ 512)) = true) : Fact Try.prog noG 35 [.s (.int .u64 s), .s (.int .i64 n)] [] (.tup [.s (.int .u64 ((belowS s n).1)), .s (.int .i64 ((belowS s n).2))], []) := by
  simp only [Bool.and_eq_true, decide_eq_true_eq] at hg
  obtain ⟨⟨⟨h0, h1⟩, hn⟩, hn2⟩ := hg
  have hr := rest_range hn hn2
  obtain ⟨k, r, hs⟩ := search_ends (n := n) h0 h1 (show 18446744073709551616 % n < 18446744073709551616 by omega)
  rw [below_of_search hs]
  refine callN_fact hN hM T_div_ok (n := k + 1) (mode := mode) ?_
  rw [belowF_eq]
  unfold belowF belowF_s1
  have hmx : IntKind.u64.wrap (max n 2) = max n 2 := wrap_u64 (by omega) (by omega)
  rw [hmx, grd_of (by simp; omega), br_if]
  by_cases h : n = 1
  · subst h
    rw [if_pos (by decide)]
    unfold belowF_l1 belowF_s2
    have hx := mixed_range (nextS s)
    have hw : IntKind.u64.wrap 1 = 1 := by decide
    have hm1 := Int.emod_nonneg (mixedS (nextS s)) (show (1 : Int) ≠ 0 by omega)
    have hm2 := Int.emod_lt_of_pos (mixedS (nextS s)) (show (0 : Int) < 1 by omega)
    cases k with
    | zero => cases hs
    | succ k =>
      simp only [search] at hs
      rw [if_pos (by omega)] at hs
      cases hs
      rw [hw, bnd_of (rem_pos hx.1 (by omega)), wrap_i64 (by omega) (by omega), br_if, if_neg (by simp; omega)]
      rfl
  · rw [if_neg (by simpa using h), show max n 2 = n by omega]
    dsimp only
    rw [below_loop (k + 1) n s _ hn hn2 hr.1 hr.2 _ (k + 1) s r (search_more hs 1)]
    rfl
noncomputable def below_ent : List V → List Blk → Option (Bool × Out)
  | [.s (.int .u64 s), .s (.int .i64 n)], [] => some ((decide (0 ≤ s) && decide (s < 18446744073709551616) && decide (1 ≤ n) && decide (n ≤ 512)), (.tup [.s (.int .u64 ((belowS s n).1)), .s (.int .i64 ((belowS s n).2))], []))
  | _, _ => none
theorem below_ok : ∀ args bs out, below_ent args bs = some (true, out) → Fact Try.prog noG 35 args bs out := by
  intro args bs out h
  unfold below_ent at h
  split at h
  · rename_i s n
    simp only [Option.some.injEq, Prod.mk.injEq] at h
    obtain ⟨hg, rfl⟩ := h
    exact below_fact s n hg
  · cases h
noncomputable def T_below : Tbl := Tbl.cons 35 below_ent T_div
theorem T_below_ok : CallOk Try.prog noG T_below := cons_ok T_div_ok below_ok
/-! downpour/random.Below -/
noncomputable def BelowF_s1 {R : Type} (n : Int) (s : Int) (c0 : Int → Int → Int → Option R) : Option R :=
  br (!(sizedS n))
    (c0 0 0 2)
    (grd (decide (0 ≤ s) && decide (s < 18446744073709551616) && decide (1 ≤ n) && decide (n ≤ 512)) <|
    c0 ((belowS s n).1) ((belowS s n).2) 0)
theorem BelowF_s1_eq (fuel : Nat)  (n : Int) (s : Int) : callN Try.prog mode T_below fuel 9 [.s (.int .u64 s), .s (.int .i64 n)] [] = BelowF_s1 n s (fun (a1 : Int) (a2 : Int) (a3 : Int) => some (.tup [.s (.int .u64 a1), .s (.int .i64 a2), .s (.int .i64 a3)], [])) := by kernel_rfl
noncomputable def BelowF {R : Type} (fuel : Nat) (s : Int) (n : Int) (r0 : Int → Int → Int → Option R) : Option R :=
  (BelowF_s1 n s (fun (a1 : Int) (a2 : Int) (a3 : Int) => r0 a1 a2 a3))
theorem BelowF_eq (fuel : Nat) (s : Int) (n : Int) : callN Try.prog mode T_below fuel 9 [.s (.int .u64 s), .s (.int .i64 n)] [] = BelowF fuel s n (fun (z0 : Int) (z1 : Int) (z2 : Int) => some (.tup [.s (.int .u64 z0), .s (.int .i64 z1), .s (.int .i64 z2)], [])) := by
  unfold BelowF
  exact (BelowF_s1_eq fuel  n s)
theorem Below_fact (s : Int) (n : Int) (hg : (decide (0 ≤ s) && decide (s < 18446744073709551616)) = true) : Fact Try.prog noG 9 [.s (.int .u64 s), .s (.int .i64 n)] [] (.tup [.s (.int .u64 (if sizedS n = true then (belowS s n).1 else 0)), .s (.int .i64 (if sizedS n = true then (belowS s n).2 else 0)), .s (.int .i64 (if sizedS n = true then 0 else 2))], []) := by
  refine callN_fact hN hM T_below_ok (n := 0) (mode := mode) ?_
  rw [BelowF_eq]
  unfold BelowF BelowF_s1
  rw [br_if]
  cases h : sizedS n with
  | false => simp
  | true =>
    have h' := h
    unfold sizedS at h'
    rw [Bool.and_eq_true] at h'
    simp [grd_of, hg, h']
noncomputable def Below_ent : List V → List Blk → Option (Bool × Out)
  | [.s (.int .u64 s), .s (.int .i64 n)], [] => some ((decide (0 ≤ s) && decide (s < 18446744073709551616)), (.tup [.s (.int .u64 (if sizedS n = true then (belowS s n).1 else 0)), .s (.int .i64 (if sizedS n = true then (belowS s n).2 else 0)), .s (.int .i64 (if sizedS n = true then 0 else 2))], []))
  | _, _ => none
theorem Below_ok : ∀ args bs out, Below_ent args bs = some (true, out) → Fact Try.prog noG 9 args bs out := by
  intro args bs out h
  unfold Below_ent at h
  split at h
  · rename_i s n
    simp only [Option.some.injEq, Prod.mk.injEq] at h
    obtain ⟨hg, rfl⟩ := h
    exact Below_fact s n hg
  · cases h
noncomputable def T_Below : Tbl := Tbl.cons 9 Below_ent T_below
theorem T_Below_ok : CallOk Try.prog noG T_Below := cons_ok T_below_ok Below_ok
/-! downpour/downpourref06.rest -/
noncomputable def refRestF_s1 {R : Type} (n : Int) (c0 : Int → Option R) : Option R :=
  bnd (divI .rem .u64 18446744073709551615 n) fun v1 =>
  bnd (divI .rem .u64 (IntKind.u64.wrap (v1 + 1)) n) fun v2 =>
  c0 v2
theorem refRestF_s1_eq (fuel : Nat)  (n : Int) : callN Try.prog mode T_Below fuel 36 [.s (.int .u64 n)] [] = refRestF_s1 n (fun (a3 : Int) => some (.s (.int .u64 a3), [])) := by kernel_rfl
noncomputable def refRestF {R : Type} (fuel : Nat) (n : Int) (r0 : Int → Option R) : Option R :=
  (refRestF_s1 n (fun (a3 : Int) => r0 a3))
theorem refRestF_eq (fuel : Nat) (n : Int) : callN Try.prog mode T_Below fuel 36 [.s (.int .u64 n)] [] = refRestF fuel n (fun (z0 : Int) => some (.s (.int .u64 z0), [])) := by
  unfold refRestF
  exact (refRestF_s1_eq fuel  n)
theorem refRest_fact (n : Int) (hg : (decide (1 ≤ n) && decide (n ≤ 512)) = true) : Fact Try.prog noG 36 [.s (.int .u64 n)] [] (.s (.int .u64 (18446744073709551616 % n)), []) := by
  simp only [Bool.and_eq_true, decide_eq_true_eq] at hg
  refine callN_fact hN hM T_Below_ok (n := 0) (mode := mode) ?_
  rw [refRestF_eq]
  unfold refRestF refRestF_s1
  have h1 := Int.emod_nonneg 18446744073709551615 (show n ≠ 0 by omega)
  have h2 := Int.emod_lt_of_pos 18446744073709551615 (show 0 < n by omega)
  rw [bnd_of (rem_pos (by decide) (by omega)), wrap_u64 (by omega) (by omega), bnd_of (rem_pos (by omega) (by omega)), Int.emod_add_emod]
  rfl
noncomputable def refRest_ent : List V → List Blk → Option (Bool × Out)
  | [.s (.int .u64 n)], [] => some ((decide (1 ≤ n) && decide (n ≤ 512)), (.s (.int .u64 (18446744073709551616 % n)), []))
  | _, _ => none
theorem refRest_ok : ∀ args bs out, refRest_ent args bs = some (true, out) → Fact Try.prog noG 36 args bs out := by
  intro args bs out h
  unfold refRest_ent at h
  split at h
  · rename_i n
    simp only [Option.some.injEq, Prod.mk.injEq] at h
    obtain ⟨hg, rfl⟩ := h
    exact refRest_fact n hg
  · cases h
noncomputable def T_refRest : Tbl := Tbl.cons 36 refRest_ent T_Below
theorem T_refRest_ok : CallOk Try.prog noG T_refRest := cons_ok T_Below_ok refRest_ok
/-! downpour/downpourref06.Below -/
noncomputable def refBelowF_s2 {R : Type} (w3 : Int) (w4 : Int) (n : Int) (c0 : Int → Int → Option R) (c1 : Int → Int → Option R) : Option R :=
  grd (decide (0 ≤ (IntKind.u64.wrap (w3 + 11400714819323198485))) && decide ((IntKind.u64.wrap (w3 + 11400714819323198485)) < 18446744073709551616)) <|
  br (decide ((mixedS (IntKind.u64.wrap (w3 + 11400714819323198485))) ≤ w4))
    (bnd (divI .rem .u64 (mixedS (IntKind.u64.wrap (w3 + 11400714819323198485))) (IntKind.u64.wrap n)) fun v8 =>
    c0 (IntKind.u64.wrap (w3 + 11400714819323198485)) (IntKind.i64.wrap v8))
    (c1 (IntKind.u64.wrap (w3 + 11400714819323198485)) w4)
theorem refBelowF_s2_eq (fuel : Nat) (k : Nat) (K : Ex → St → Option Out) (w3 : Int) (w4 : Int) (n : Int) : lpN (sub (bodyOf Try.prog 13) [1, 1, 0, 0]) (fnX Try.prog mode T_refRest fuel 25 0) 16 [0, 1, 4, 5] (k + 1) ⟨[(0, .s (.int .u64 w3)), (1, .s (.int .i64 n)), (4, .ptr 0 2 0 0), (5, .s (.int .u64 w4))], [(0, some ⟨31, .agg [.s (.int .u64 0), .s (.int .i64 0)], true⟩)], 1, none⟩ K = refBelowF_s2 w3 w4 n (fun (a9 : Int) (a10 : Int) => K .ret ⟨[(4, .ptr 0 2 0 0)], [(0, some ⟨31, .agg [.s (.int .u64 a9), .s (.int .i64 a10)], true⟩)], 1, none⟩) (fun (a11 : Int) (a12 : Int) => lpN (sub (bodyOf Try.prog 13) [1, 1, 0, 0]) (fnX Try.prog mode T_refRest fuel 25 0) 16 [0, 1, 4, 5] k ⟨[(0, .s (.int .u64 a11)), (1, .s (.int .i64 n)), (4, .ptr 0 2 0 0), (5, .s (.int .u64 a12))], [(0, some ⟨31, .agg [.s (.int .u64 0), .s (.int .i64 0)], true⟩)], 1, none⟩ K) := by kernel_rfl
noncomputable def refBelowF_l1 {R : Type} (fuel : Nat) (n : Int) (k0 : Int → Int → Option R) : Nat → Int → Int → Option R
  | 0, _, _ => none
  | k + 1, w3, w4 =>
    (refBelowF_s2 w3 w4 n (fun (a9 : Int) (a10 : Int) => k0 a9 a10) (fun (a11 : Int) (a12 : Int) => ( refBelowF_l1 fuel n k0 k a11 a12 )))
theorem refBelowF_l1_eq (fuel : Nat) (n : Int) (K : Ex → St → Option Out) : ∀ (k : Nat) (w3 : Int) (w4 : Int), lpN (sub (bodyOf Try.prog 13) [1, 1, 0, 0]) (fnX Try.prog mode T_refRest fuel 25 0) 16 [0, 1, 4, 5] k ⟨[(0, .s (.int .u64 w3)), (1, .s (.int .i64 n)), (4, .ptr 0 2 0 0), (5, .s (.int .u64 w4))], [(0, some ⟨31, .agg [.s (.int .u64 0), .s (.int .i64 0)], true⟩)], 1, none⟩ K = refBelowF_l1 fuel n (fun (y6 : Int) (y7 : Int) => K .ret ⟨[(4, .ptr 0 2 0 0)], [(0, some ⟨31, .agg [.s (.int .u64 y6), .s (.int .i64 y7)], true⟩)], 1, none⟩) k w3 w4
  | 0, _, _ => rfl
  | k + 1, w3, w4 => by
    unfold refBelowF_l1
    exact (refBelowF_s2_eq fuel k K w3 w4 n).trans (congr (congr (Eq.refl (refBelowF_s2 (R := Out) w3 w4 n)) (rfl)) (funext fun a11 => funext fun a12 => refBelowF_l1_eq fuel n K k a11 a12))
noncomputable def refBelowF_s3 {R : Type} (x15 : Int) (x16 : Int) (c0 : Int → Int → Option R) : Option R :=
  c0 x15 x16
theorem refBelowF_s3_eq (fuel : Nat)  (x15 : Int) (x16 : Int) : (kont (fnX Try.prog mode T_refRest fuel 25 0) (bodyOf Try.prog 13) [1, 1, 0] 16 (endK Try.prog 0 0 13)) .ret ⟨[(4, .ptr 0 2 0 0)], [(0, some ⟨31, .agg [.s (.int .u64 x15), .s (.int .i64 x16)], true⟩)], 1, none⟩ = refBelowF_s3 x15 x16 (fun (a17 : Int) (a18 : Int) => some (.agg [.s (.int .u64 a17), .s (.int .i64 a18)], [])) := by kernel_rfl
noncomputable def refBelowF_s1 {R : Type} (n : Int) (s : Int) (c0 : Int → Int → Option R) : Option R :=
  grd (decide (1 ≤ (IntKind.u64.wrap n)) && decide ((IntKind.u64.wrap n) ≤ 512)) <|
  c0 s (IntKind.u64.wrap (18446744073709551615 - (18446744073709551616 % (IntKind.u64.wrap n))))
theorem refBelowF_s1_eq (fuel : Nat)  (n : Int) (s : Int) : callN Try.prog mode T_refRest fuel 13 [.s (.int .u64 s), .s (.int .i64 n)] [] = refBelowF_s1 n s (fun (a13 : Int) (a14 : Int) => lpN (sub (bodyOf Try.prog 13) [1, 1, 0, 0]) (fnX Try.prog mode T_refRest fuel 25 0) 16 [0, 1, 4, 5] fuel ⟨[(0, .s (.int .u64 a13)), (1, .s (.int .i64 n)), (4, .ptr 0 2 0 0), (5, .s (.int .u64 a14))], [(0, some ⟨31, .agg [.s (.int .u64 0), .s (.int .i64 0)], true⟩)], 1, none⟩ (kont (fnX Try.prog mode T_refRest fuel 25 0) (bodyOf Try.prog 13) [1, 1, 0] 16 (endK Try.prog 0 0 13))) := by kernel_rfl
noncomputable def refBelowF {R : Type} (fuel : Nat) (s : Int) (n : Int) (r0 : Int → Int → Option R) : Option R :=
  (refBelowF_s1 n s (fun (a13 : Int) (a14 : Int) => (refBelowF_l1 fuel n (fun (x15 : Int) (x16 : Int) => (refBelowF_s3 x15 x16 (fun (a17 : Int) (a18 : Int) => r0 a17 a18))) fuel a13 a14)))
theorem refBelowF_eq (fuel : Nat) (s : Int) (n : Int) : callN Try.prog mode T_refRest fuel 13 [.s (.int .u64 s), .s (.int .i64 n)] [] = refBelowF fuel s n (fun (z0 : Int) (z1 : Int) => some (.agg [.s (.int .u64 z0), .s (.int .i64 z1)], [])) := by
  unfold refBelowF
  exact (refBelowF_s1_eq fuel  n s).trans (congr (Eq.refl (refBelowF_s1 (R := Out) n s)) (funext fun a13 => funext fun a14 => (refBelowF_l1_eq fuel n (kont (fnX Try.prog mode T_refRest fuel 25 0) (bodyOf Try.prog 13) [1, 1, 0] 16 (endK Try.prog 0 0 13)) fuel a13 a14).trans (congrFun (congrFun (congrFun (congr (Eq.refl (refBelowF_l1 (R := Out) fuel n)) (funext fun x15 => funext fun x16 => (refBelowF_s3_eq fuel  x15 x16))) fuel) a13) a14)))
theorem refBelow_loop {R : Type} (fuel : Nat) (n rest : Int) (hn : 1 ≤ n) (hn2 : n ≤ 512) (hr : 0 ≤ rest) (hr2 : rest < 512) (k0 : Int → Int → Option R) : ∀ (k : Nat) (s : Int) (r : Int × Int), search rest n k s = some r → refBelowF_l1 fuel n k0 k s (18446744073709551615 - rest) = k0 r.1 r.2
  | 0, s, r, h => by cases h
  | k + 1, s, r, h => by
    unfold refBelowF_l1 refBelowF_s2
    have hx := mixed_range (nextS s)
    have hw : IntKind.u64.wrap n = n := wrap_u64 (by omega) (by omega)
    have hm1 := Int.emod_nonneg (mixedS (nextS s)) (show n ≠ 0 by omega)
    have hm2 := Int.emod_lt_of_pos (mixedS (nextS s)) (show 0 < n by omega)
    have hu := u64_range (s + 11400714819323198485)
    have hnx : IntKind.u64.wrap (s + 11400714819323198485) = nextS s := by rw [nextS_eq]; rfl
    rw [hnx] at hu ⊢
    simp only [search] at h
    rw [grd_of (by simp only [Bool.and_eq_true, decide_eq_true_eq]; exact hu), hw, bnd_of (rem_pos hx.1 (by omega)), wrap_i64 (by omega) (by omega), br_if]
    by_cases hc : mixedS (nextS s) + rest < 18446744073709551616
    · rw [if_pos hc] at h
      cases h
      rw [if_pos (by simp; omega)]
    · rw [if_neg hc] at h
      rw [if_neg (by simp; omega)]
      exact refBelow_loop fuel n rest hn hn2 hr hr2 k0 k _ r h
theorem refBelow_fact (s : Int) (n : Int) (hg : (decide (0 ≤ s) && decide (s < 18446744073709551616) && decide (1 ≤ n) && decide (n ≤ 512)) = true) : Fact Try.prog noG 13 [.s (.int .u64 s), .s (.int .i64 n)] [] (.agg [.s (.int .u64 ((belowS s n).1)), .s (.int .i64 ((belowS s n).2))], []) := by
  simp only [Bool.and_eq_true, decide_eq_true_eq] at hg
  obtain ⟨⟨⟨h0, h1⟩, hn⟩, hn2⟩ := hg
  have hr := rest_range hn hn2
  obtain ⟨k, r, hs⟩ := search_ends (n := n) h0 h1 (show 18446744073709551616 % n < 18446744073709551616 by omega)
  rw [below_of_search hs]
  refine callN_fact hN hM T_refRest_ok (n := k) (mode := mode) ?_
  rw [refBelowF_eq]
  unfold refBelowF refBelowF_s1
  have hw : IntKind.u64.wrap n = n := wrap_u64 (by omega) (by omega)
  rw [hw, grd_of (by simp; omega), wrap_u64 (x := 18446744073709551615 - 18446744073709551616 % n) (by omega) (by omega)]
  dsimp only
  rw [refBelow_loop k n _ hn hn2 hr.1 hr.2 _ k s r hs]
  rfl
noncomputable def refBelow_ent : List V → List Blk → Option (Bool × Out)
  | [.s (.int .u64 s), .s (.int .i64 n)], [] => some ((decide (0 ≤ s) && decide (s < 18446744073709551616) && decide (1 ≤ n) && decide (n ≤ 512)), (.agg [.s (.int .u64 ((belowS s n).1)), .s (.int .i64 ((belowS s n).2))], []))
  | _, _ => none
theorem refBelow_ok : ∀ args bs out, refBelow_ent args bs = some (true, out) → Fact Try.prog noG 13 args bs out := by
  intro args bs out h
  unfold refBelow_ent at h
  split at h
  · rename_i s n
    simp only [Option.some.injEq, Prod.mk.injEq] at h
    obtain ⟨hg, rfl⟩ := h
    exact refBelow_fact s n hg
  · cases h
noncomputable def T_refBelow : Tbl := Tbl.cons 13 refBelow_ent T_refRest
theorem T_refBelow_ok : CallOk Try.prog noG T_refBelow := cons_ok T_refRest_ok refBelow_ok
/-! downpour/downpourlaw06.alive -/
theorem alive_fact  : Fact Try.prog noG 12 [] [] (.s (.bool true), []) := by
  refine lv_fact (mode := mode) (base := Tbl.nil) hN hM nil_ok (n := 300) ?_
  kernel_rfl
noncomputable def alive_ent : List V → List Blk → Option (Bool × Out)
  | [], [] => some (true, (.s (.bool true), []))
  | _, _ => none
theorem alive_ok : ∀ args bs out, alive_ent args bs = some (true, out) → Fact Try.prog noG 12 args bs out := by
  intro args bs out h
  unfold alive_ent at h
  split at h
  · simp only [Option.some.injEq, Prod.mk.injEq] at h
    obtain ⟨_, rfl⟩ := h
    exact alive_fact 
  · cases h
noncomputable def T_alive : Tbl := Tbl.cons 12 alive_ent T_refBelow
theorem T_alive_ok : CallOk Try.prog noG T_alive := cons_ok T_refBelow_ok alive_ok
/-! downpour/downpourlaw06.RandomNumbers -/
noncomputable def lawF_s1 {R : Type} (state : Int) (seed : Int) (n : Int) (c0 : Bool → Option R) : Option R :=
  grd (decide (0 ≤ state) && decide (state < 18446744073709551616)) <|
  grd (decide (0 ≤ seed) && decide (seed < 18446744073709551616)) <|
  grd (decide (0 ≤ seed) && decide (seed < 18446744073709551616)) <|
  br (((mixedS seed) : Int) != (mixedS seed))
    (c0 false)
    (br ((nextS state) != (IntKind.u64.wrap (state + 11400714819323198485)))
      (c0 false)
      (grd (decide (0 ≤ (nextS state)) && decide ((nextS state) < 18446744073709551616)) <|
      br (((mixedS (nextS state)) : Int) != (mixedS (nextS state)))
        (c0 false)
        (br (decide (n < 1))
          (br (((if sizedS n = true then 0 else 2) : Int) == 2)
            (br (((if sizedS n = true then (belowS state n).1 else 0) : Int) == 0)
              (c0 (((if sizedS n = true then (belowS state n).2 else 0) : Int) == 0))
              (c0 false))
            (c0 false))
          (br (decide (n > 512))
            (br (((if sizedS n = true then 0 else 2) : Int) == 2)
              (br (((if sizedS n = true then (belowS state n).1 else 0) : Int) == 0)
                (c0 (((if sizedS n = true then (belowS state n).2 else 0) : Int) == 0))
                (c0 false))
              (c0 false))
            (grd (decide (0 ≤ state) && decide (state < 18446744073709551616) && decide (1 ≤ n) && decide (n ≤ 512)) <|
            br (((if sizedS n = true then 0 else 2) : Int) == 0)
              (br (((if sizedS n = true then (belowS state n).1 else 0) : Int) == (belowS state n).1)
                (c0 (((if sizedS n = true then (belowS state n).2 else 0) : Int) == (belowS state n).2))
                (c0 false))
              (c0 false))))))
theorem lawF_s1_eq (fuel : Nat)  (state : Int) (seed : Int) (n : Int) : callN Try.prog mode T_alive fuel 3 [.s (.int .u64 seed), .s (.int .u64 state), .s (.int .i64 n)] [] = lawF_s1 state seed n (fun (a1 : Bool) => some (.s (.bool a1), [])) := by kernel_rfl
noncomputable def lawF {R : Type} (fuel : Nat) (seed : Int) (state : Int) (n : Int) (r0 : Bool → Option R) : Option R :=
  (lawF_s1 state seed n (fun (a1 : Bool) => r0 a1))
theorem lawF_eq (fuel : Nat) (seed : Int) (state : Int) (n : Int) : callN Try.prog mode T_alive fuel 3 [.s (.int .u64 seed), .s (.int .u64 state), .s (.int .i64 n)] [] = lawF fuel seed state n (fun (z0 : Bool) => some (.s (.bool z0), [])) := by
  unfold lawF
  exact (lawF_s1_eq fuel  state seed n)
theorem law_fact (seed : Int) (state : Int) (n : Int) (hg : ((decide (0 ≤ seed) && decide (seed < 18446744073709551616)) && (decide (0 ≤ state) && decide (state < 18446744073709551616))) = true) : Fact Try.prog noG 3 [.s (.int .u64 seed), .s (.int .u64 state), .s (.int .i64 n)] [] (.s (.bool true), []) := by
  simp only [Bool.and_eq_true, decide_eq_true_eq] at hg
  obtain ⟨⟨a1, a2⟩, b1, b2⟩ := hg
  refine callN_fact hN hM T_alive_ok (n := 0) (mode := mode) ?_
  rw [lawF_eq]
  unfold lawF lawF_s1
  have hx := next_range state
  have hnx : nextS state = IntKind.u64.wrap (state + 11400714819323198485) := by rw [nextS_eq]; rfl
  rw [grd_of (by simp; omega), grd_of (by simp; omega), grd_of (by simp; omega), grd_of (by simp; omega)]
  simp only [bne_self_eq_false, br_ff, ← hnx, br_if]
  by_cases h1 : n < 1
  · have : sizedS n = false := by unfold sizedS; simp; omega
    simp [h1, this]
  · by_cases h2 : n > 512
    · have : sizedS n = false := by unfold sizedS; simp; omega
      simp [h1, h2, this]
    · have : sizedS n = true := by unfold sizedS; simp; omega
      have hg : (decide (0 ≤ state) && decide (state < 18446744073709551616) && decide (1 ≤ n) && decide (n ≤ 512)) = true := by simp; omega
      simp [h1, h2, this, grd_of, hg]
noncomputable def law_ent : List V → List Blk → Option (Bool × Out)
  | [.s (.int .u64 seed), .s (.int .u64 state), .s (.int .i64 n)], [] => some (((decide (0 ≤ seed) && decide (seed < 18446744073709551616)) && (decide (0 ≤ state) && decide (state < 18446744073709551616))), (.s (.bool true), []))
  | _, _ => none
theorem law_ok : ∀ args bs out, law_ent args bs = some (true, out) → Fact Try.prog noG 3 args bs out := by
  intro args bs out h
  unfold law_ent at h
  split at h
  · rename_i seed state n
    simp only [Option.some.injEq, Prod.mk.injEq] at h
    obtain ⟨hg, rfl⟩ := h
    exact law_fact seed state n hg
  · cases h
noncomputable def T_law : Tbl := Tbl.cons 3 law_ent T_alive
theorem T_law_ok : CallOk Try.prog noG T_law := cons_ok T_alive_ok law_ok
end Go.Proofs.Ytkphabppgpcblaa
