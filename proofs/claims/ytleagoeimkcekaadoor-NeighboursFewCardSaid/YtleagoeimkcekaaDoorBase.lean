/- Random numbers, their orders, rows: what each function tells. -/
import Derived.Test.YtleagoeimkcekaaDoorPmTab
import Derived.KernelRfl
import Derived.Test.YtleagoeimkcekaaDoorProg
import Derived.Test.YtleagoeimkcekaaDoorPmPut
import Derived.Test.YtleagoeimkcekaaDoorPlBit
import Derived.Shelf.Sort.Plain
set_option autoImplicit false
set_option maxRecDepth 100000
set_option maxHeartbeats 4000000
set_option linter.unusedVariables false
set_option linter.unusedSimpArgs false
namespace Go.Proofs.YtleagoeimkcekaaDoor
open Go Go.PM Go.Proofs Go.Shelf Go.PM.Row Go.PM.Bits Go.PM.Bit
def gTab : Glob := fun b => if b = 0 then some (Lib.deBruijn64tab.map fun (n : Nat) => (.int .u8 (n : Int) : Value)) else none
theorem hN : namesOk Tryd.prog = true := by kernel_rfl
theorem hM : Tryd.prog.follows .mixedOrders = true := by kernel_rfl
def mode : FuncId → Nat := fun f => bif Nat.beq f 207 then 2 else 0
/-! Random numbers: what they are. -/
def mixA (z : Int) : Int := IntKind.u64.wrap ((xorI .u64 z (z / 1073741824)) * 13787848793156543929)
def mixB (z : Int) : Int := IntKind.u64.wrap ((xorI .u64 z (z / 134217728)) * 10723151780598845931)
def mixI (z : Int) : Int := xorI .u64 (mixB (mixA z)) (mixB (mixA z) / 2147483648)
noncomputable def mixedS : Int → Int := Classical.choose (⟨mixI, rfl⟩ : ∃ f, f = mixI)
theorem mixedS_eq : mixedS = mixI := Classical.choose_spec (⟨mixI, rfl⟩ : ∃ f, f = mixI)
def nextI (s : Int) : Int := IntKind.u64.wrap (s + 11400714819323198485)
noncomputable def nextS : Int → Int := Classical.choose (⟨nextI, rfl⟩ : ∃ f, f = nextI)
theorem nextS_eq : nextS = nextI := Classical.choose_spec (⟨nextI, rfl⟩ : ∃ f, f = nextI)
def sizedS (n : Int) : Bool := decide (1 ≤ n) && decide (n ≤ 512)
def lzS (y : Int) : Int := 63 - ((Nat.log2 y.toNat : Nat) : Int)
/-- The first number that is let in, within k. -/
noncomputable def search (rest n : Int) : Nat → Int → Option (Int × Int)
  | 0, _ => none
  | k + 1, s => if mixedS (nextS s) + rest < 18446744073709551616 then some (nextS s, mixedS (nextS s) % n) else search rest n k (nextS s)
open Classical in
noncomputable def belowI (s n : Int) : Int × Int := if h : ∃ r k, search (18446744073709551616 % n) n k s = some r then Classical.choose h else (0, 0)
noncomputable def belowS : Int → Int → Int × Int := Classical.choose (⟨belowI, rfl⟩ : ∃ f, f = belowI)
theorem belowS_eq : belowS = belowI := Classical.choose_spec (⟨belowI, rfl⟩ : ∃ f, f = belowI)
theorem mixed_range (z : Int) : 0 ≤ mixedS z ∧ mixedS z < 18446744073709551616 := by rw [mixedS_eq]; exact xor_range _ _
theorem mixed_zero : mixedS 0 = 0 := by rw [mixedS_eq]; kernel_rfl
theorem next_range (z : Int) : 0 ≤ nextS z ∧ nextS z < 18446744073709551616 := by rw [nextS_eq]; exact u64_range _
theorem search_more {rest n : Int} {r : Int × Int} : ∀ {k : Nat} {s : Int}, search rest n k s = some r → ∀ d, search rest n (k + d) s = some r
  | 0, s, h, d => by cases h
  | k + 1, s, h, d => by
    rw [show k + 1 + d = (k + d) + 1 by omega]
    simp only [search] at h ⊢
    split at h
    · rename_i hc; rw [if_pos hc]; exact h
    · rename_i hc; rw [if_neg hc]; exact search_more h d
theorem search_one {rest n : Int} {r r' : Int × Int} {k k' : Nat} {s : Int} (h : search rest n k s = some r) (h' : search rest n k' s = some r') : r = r' := by
  have h1 := search_more h k'
  have h2 := search_more h' k
  rw [Nat.add_comm] at h2
  exact Option.some.inj (h1.symm.trans h2)
theorem below_of_search {s n : Int} {k : Nat} {r : Int × Int} (h : search (18446744073709551616 % n) n k s = some r) : belowS s n = r := by
  rw [belowS_eq]
  unfold belowI
  have hx : ∃ r k, search (18446744073709551616 % n) n k s = some r := ⟨r, k, h⟩
  rw [dif_pos hx]
  obtain ⟨k', h'⟩ := Classical.choose_spec hx
  exact search_one h' h
/-- Some state is nought in the end. -/
theorem search_some {rest n : Int} (hr : rest < 18446744073709551616) : ∀ (j : Nat) (s : Int), (s + ((j : Int) + 1) * 11400714819323198485) % 18446744073709551616 = 0 → ∃ r, search rest n (j + 1) s = some r
  | 0, s, h => by
    have e : nextS s = 0 := by
      rw [nextS_eq]; unfold nextI; rw [wrap_u64_mod, ← h]; congr 1
    simp only [search]
    rw [e, mixed_zero, if_pos (by omega)]
    exact ⟨_, rfl⟩
  | j + 1, s, h => by
    have e : (nextS s + ((j : Int) + 1) * 11400714819323198485) % 18446744073709551616 = 0 := by
      rw [nextS_eq]; unfold nextI; rw [wrap_u64_mod, Int.emod_add_emod, ← h]; congr 1
      rw [Int.natCast_add, Int.add_mul, Int.add_mul, Int.add_mul]
      simp only [Int.one_mul, Int.natCast_one, Int.add_assoc]
      rw [Int.add_comm (11400714819323198485 : Int) _]
      simp only [Int.add_assoc]
    obtain ⟨r, hr'⟩ := search_some hr j _ e
    rw [search]
    by_cases hc : mixedS (nextS s) + rest < 18446744073709551616
    · rw [if_pos hc]; exact ⟨_, rfl⟩
    · rw [if_neg hc]; exact ⟨r, hr'⟩
theorem inv_step : (17428512612931826493 * 11400714819323198485 : Int) % 18446744073709551616 = 1 := by decide
theorem search_ends {s rest n : Int} (h0 : 0 ≤ s) (h1 : s < 18446744073709551616) (hr : rest < 18446744073709551616) : ∃ k r, search rest n k s = some r := by
  obtain ⟨j, hj⟩ : ∃ j : Nat, (j : Int) + 1 = (18446744073709551616 - s) * 17428512612931826493 := by
    refine ⟨((18446744073709551616 - s) * 17428512612931826493 - 1).toNat, ?_⟩
    have : 1 ≤ (18446744073709551616 - s) * 17428512612931826493 := by
      have := Int.mul_le_mul_of_nonneg_right (show (1 : Int) ≤ 18446744073709551616 - s by omega) (show (0 : Int) ≤ 17428512612931826493 by decide)
      rw [Int.one_mul] at this
      exact Int.le_trans (by decide) this
    rw [Int.toNat_of_nonneg (by omega)]; omega
  obtain ⟨r, h⟩ := search_some (rest := rest) (n := n) hr j s (by
    rw [hj, Int.mul_assoc, Int.add_emod, Int.mul_emod, inv_step, Int.mul_one, Int.emod_emod_of_dvd _ (Int.dvd_refl _), ← Int.add_emod]
    have : s + (18446744073709551616 - s) = 18446744073709551616 := by omega
    rw [this]; decide)
  exact ⟨_, r, h⟩
theorem rest_range {n : Int} (h : 1 ≤ n) (h2 : n ≤ 512) : 0 ≤ 18446744073709551616 % n ∧ 18446744073709551616 % n < 512 :=
  ⟨Int.emod_nonneg _ (by omega), Int.lt_of_lt_of_le (Int.emod_lt_of_pos _ (by omega)) h2⟩
/-! downpour/random.mixed -/
noncomputable def mixedF_s1 {R : Type} (z : Int) (c0 : Int → Option R) : Option R :=
  bnd (shfI .shr .u64 z 30) fun v1 =>
  bnd (shfI .shr .u64 (IntKind.u64.wrap ((xorI .u64 z v1) * 13787848793156543929)) 27) fun v2 =>
  bnd (shfI .shr .u64 (IntKind.u64.wrap ((xorI .u64 (IntKind.u64.wrap ((xorI .u64 z v1) * 13787848793156543929)) v2) * 10723151780598845931)) 31) fun v3 =>
  c0 (xorI .u64 (IntKind.u64.wrap ((xorI .u64 (IntKind.u64.wrap ((xorI .u64 z v1) * 13787848793156543929)) v2) * 10723151780598845931)) v3)
theorem mixedF_s1_eq (fuel : Nat)  (z : Int) : callN Tryd.prog mode Tbl.nil fuel 173 [.s (.int .u64 z)] [] = mixedF_s1 z (fun (a4 : Int) => some (.s (.int .u64 a4), [])) := by kernel_rfl
noncomputable def mixedF {R : Type} (fuel : Nat) (z : Int) (r0 : Int → Option R) : Option R :=
  (mixedF_s1 z (fun (a4 : Int) => r0 a4))
theorem mixedF_eq (fuel : Nat) (z : Int) : callN Tryd.prog mode Tbl.nil fuel 173 [.s (.int .u64 z)] [] = mixedF fuel z (fun (z0 : Int) => some (.s (.int .u64 z0), [])) := by
  unfold mixedF
  exact (mixedF_s1_eq fuel  z)
theorem mixed_fact (z : Int) (hg : (decide (0 ≤ z) && decide (z < 18446744073709551616)) = true) : Fact Tryd.prog gTab 173 [.s (.int .u64 z)] [] (.s (.int .u64 (mixedS z)), []) := by
  refine callN_fact hN hM nil_ok (n := 0) (mode := mode) ?_
  rw [mixedF_eq]
  unfold mixedF mixedF_s1
  rw [bnd_of (shr_u64 (c := 1073741824) (by decide) (by decide)), bnd_of (shr_u64 (c := 134217728) (by decide) (by decide)), bnd_of (shr_u64 (c := 2147483648) (by decide) (by decide)), mixedS_eq]
  rfl
noncomputable def mixed_ent : List V → List Blk → Option (Bool × Out)
  | [.s (.int .u64 z)], [] => some ((decide (0 ≤ z) && decide (z < 18446744073709551616)), (.s (.int .u64 (mixedS z)), []))
  | _, _ => none
theorem mixed_ok : ∀ args bs out, mixed_ent args bs = some (true, out) → Fact Tryd.prog gTab 173 args bs out := by
  intro args bs out h
  unfold mixed_ent at h
  split at h
  · rename_i z
    simp only [Option.some.injEq, Prod.mk.injEq] at h
    obtain ⟨hg, rfl⟩ := h
    exact mixed_fact z hg
  · cases h
noncomputable def T_mixed : Tbl := Tbl.cons 173 mixed_ent Tbl.nil
theorem T_mixed_ok : CallOk Tryd.prog gTab T_mixed := cons_ok nil_ok mixed_ok
/-! downpour/random.Start -/
noncomputable def startF_s1 {R : Type} (z : Int) (c0 : Int → Option R) : Option R :=
  grd (decide (0 ≤ z) && decide (z < 18446744073709551616)) <|
  c0 (mixedS z)
theorem startF_s1_eq (fuel : Nat)  (z : Int) : callN Tryd.prog mode T_mixed fuel 120 [.s (.int .u64 z)] [] = startF_s1 z (fun (a1 : Int) => some (.s (.int .u64 a1), [])) := by kernel_rfl
noncomputable def startF {R : Type} (fuel : Nat) (z : Int) (r0 : Int → Option R) : Option R :=
  (startF_s1 z (fun (a1 : Int) => r0 a1))
theorem startF_eq (fuel : Nat) (z : Int) : callN Tryd.prog mode T_mixed fuel 120 [.s (.int .u64 z)] [] = startF fuel z (fun (z0 : Int) => some (.s (.int .u64 z0), [])) := by
  unfold startF
  exact (startF_s1_eq fuel  z)
theorem start_fact (z : Int) (hg : (decide (0 ≤ z) && decide (z < 18446744073709551616)) = true) : Fact Tryd.prog gTab 120 [.s (.int .u64 z)] [] (.s (.int .u64 (mixedS z)), []) := by
  refine callN_fact hN hM T_mixed_ok (n := 0) (mode := mode) ?_
  rw [startF_eq]
  unfold startF startF_s1
  rw [grd_of hg]
noncomputable def start_ent : List V → List Blk → Option (Bool × Out)
  | [.s (.int .u64 z)], [] => some ((decide (0 ≤ z) && decide (z < 18446744073709551616)), (.s (.int .u64 (mixedS z)), []))
  | _, _ => none
theorem start_ok : ∀ args bs out, start_ent args bs = some (true, out) → Fact Tryd.prog gTab 120 args bs out := by
  intro args bs out h
  unfold start_ent at h
  split at h
  · rename_i z
    simp only [Option.some.injEq, Prod.mk.injEq] at h
    obtain ⟨hg, rfl⟩ := h
    exact start_fact z hg
  · cases h
noncomputable def T_start : Tbl := Tbl.cons 120 start_ent T_mixed
theorem T_start_ok : CallOk Tryd.prog gTab T_start := cons_ok T_mixed_ok start_ok
/-! downpour/random.Next -/
noncomputable def nextF_s1 {R : Type} (s : Int) (c0 : Int → Int → Option R) : Option R :=
  grd (decide (0 ≤ (IntKind.u64.wrap (s + 11400714819323198485))) && decide ((IntKind.u64.wrap (s + 11400714819323198485)) < 18446744073709551616)) <|
  c0 (IntKind.u64.wrap (s + 11400714819323198485)) (mixedS (IntKind.u64.wrap (s + 11400714819323198485)))
theorem nextF_s1_eq (fuel : Nat)  (s : Int) : callN Tryd.prog mode T_start fuel 119 [.s (.int .u64 s)] [] = nextF_s1 s (fun (a1 : Int) (a2 : Int) => some (.tup [.s (.int .u64 a1), .s (.int .u64 a2)], [])) := by kernel_rfl
noncomputable def nextF {R : Type} (fuel : Nat) (s : Int) (r0 : Int → Int → Option R) : Option R :=
  (nextF_s1 s (fun (a1 : Int) (a2 : Int) => r0 a1 a2))
theorem nextF_eq (fuel : Nat) (s : Int) : callN Tryd.prog mode T_start fuel 119 [.s (.int .u64 s)] [] = nextF fuel s (fun (z0 : Int) (z1 : Int) => some (.tup [.s (.int .u64 z0), .s (.int .u64 z1)], [])) := by
  unfold nextF
  exact (nextF_s1_eq fuel  s)
theorem next_fact (s : Int) : Fact Tryd.prog gTab 119 [.s (.int .u64 s)] [] (.tup [.s (.int .u64 (nextS s)), .s (.int .u64 (mixedS (nextS s)))], []) := by
  refine callN_fact hN hM T_start_ok (n := 0) (mode := mode) ?_
  rw [nextF_eq]
  unfold nextF nextF_s1
  have := u64_range (s + 11400714819323198485)
  rw [grd_of (by simp only [Bool.and_eq_true, decide_eq_true_eq]; exact this), nextS_eq]
  rfl
noncomputable def next_ent : List V → List Blk → Option (Bool × Out)
  | [.s (.int .u64 s)], [] => some (true, (.tup [.s (.int .u64 (nextS s)), .s (.int .u64 (mixedS (nextS s)))], []))
  | _, _ => none
theorem next_ok : ∀ args bs out, next_ent args bs = some (true, out) → Fact Tryd.prog gTab 119 args bs out := by
  intro args bs out h
  unfold next_ent at h
  split at h
  · rename_i s
    simp only [Option.some.injEq, Prod.mk.injEq] at h
    obtain ⟨_, rfl⟩ := h
    exact next_fact s
  · cases h
noncomputable def T_next : Tbl := Tbl.cons 119 next_ent T_start
theorem T_next_ok : CallOk Tryd.prog gTab T_next := cons_ok T_start_ok next_ok
/-! downpour/random.sized -/
noncomputable def sizedF_s1 {R : Type} (n : Int) (c0 : Bool → Option R) : Option R :=
  br (decide (n ≥ 1))
    (c0 (decide (n ≤ 512)))
    (c0 false)
theorem sizedF_s1_eq (fuel : Nat)  (n : Int) : callN Tryd.prog mode T_next fuel 176 [.s (.int .i64 n)] [] = sizedF_s1 n (fun (a1 : Bool) => some (.s (.bool a1), [])) := by kernel_rfl
noncomputable def sizedF {R : Type} (fuel : Nat) (n : Int) (r0 : Bool → Option R) : Option R :=
  (sizedF_s1 n (fun (a1 : Bool) => r0 a1))
theorem sizedF_eq (fuel : Nat) (n : Int) : callN Tryd.prog mode T_next fuel 176 [.s (.int .i64 n)] [] = sizedF fuel n (fun (z0 : Bool) => some (.s (.bool z0), [])) := by
  unfold sizedF
  exact (sizedF_s1_eq fuel  n)
theorem sized_fact (n : Int) : Fact Tryd.prog gTab 176 [.s (.int .i64 n)] [] (.s (.bool (sizedS n)), []) := by
  refine callN_fact hN hM T_next_ok (n := 0) (mode := mode) ?_
  rw [sizedF_eq]
  unfold sizedF sizedF_s1 sizedS
  rw [br_if]
  by_cases h : n ≥ 1
  · rw [if_pos (by simpa using h), decide_eq_true (show 1 ≤ n from h)]; rfl
  · rw [if_neg (by simpa using h), decide_eq_false (show ¬ 1 ≤ n from h)]; rfl
noncomputable def sized_ent : List V → List Blk → Option (Bool × Out)
  | [.s (.int .i64 n)], [] => some (true, (.s (.bool (sizedS n)), []))
  | _, _ => none
theorem sized_ok : ∀ args bs out, sized_ent args bs = some (true, out) → Fact Tryd.prog gTab 176 args bs out := by
  intro args bs out h
  unfold sized_ent at h
  split at h
  · rename_i n
    simp only [Option.some.injEq, Prod.mk.injEq] at h
    obtain ⟨_, rfl⟩ := h
    exact sized_fact n
  · cases h
noncomputable def T_sized : Tbl := Tbl.cons 176 sized_ent T_next
theorem T_sized_ok : CallOk Tryd.prog gTab T_sized := cons_ok T_next_ok sized_ok
/-! downpour/random.numbers -/
noncomputable def numbersF_s1 {R : Type} (s : Int) (c0 : Nat → Int → Option R) : Option R :=
  c0 0 s
theorem numbersF_s1_eq (fuel : Nat)  (s : Int) : callN Tryd.prog mode T_sized fuel 207 [.s (.int .u64 s)] [] = numbersF_s1 s (fun (a1 : Nat) (a2 : Int) => some (.fn (.func 222) [] [.ptr 0 1 a1 0], [some ⟨22, .agg [.s (.int .u64 a2)], true⟩])) := by kernel_rfl
noncomputable def numbersF {R : Type} (fuel : Nat) (s : Int) (r0 : Nat → Int → Option R) : Option R :=
  (numbersF_s1 s (fun (a1 : Nat) (a2 : Int) => r0 a1 a2))
theorem numbersF_eq (fuel : Nat) (s : Int) : callN Tryd.prog mode T_sized fuel 207 [.s (.int .u64 s)] [] = numbersF fuel s (fun (z0 : Nat) (z1 : Int) => some (.fn (.func 222) [] [.ptr 0 1 z0 0], [some ⟨22, .agg [.s (.int .u64 z1)], true⟩])) := by
  unfold numbersF
  exact (numbersF_s1_eq fuel  s)
theorem numbers_fact (s : Int) : Fact Tryd.prog gTab 207 [.s (.int .u64 s)] [] (.fn (.func 222) [] [.ptr 0 1 0 0], [some ⟨22, .agg [.s (.int .u64 s)], true⟩]) := by
  refine callN_fact hN hM T_sized_ok (n := 0) (mode := mode) ?_
  rw [numbersF_eq]
  rfl
noncomputable def numbers_ent : List V → List Blk → Option (Bool × Out)
  | [.s (.int .u64 s)], [] => some (true, (.fn (.func 222) [] [.ptr 0 1 0 0], [some ⟨22, .agg [.s (.int .u64 s)], true⟩]))
  | _, _ => none
theorem numbers_ok : ∀ args bs out, numbers_ent args bs = some (true, out) → Fact Tryd.prog gTab 207 args bs out := by
  intro args bs out h
  unfold numbers_ent at h
  split at h
  · rename_i s
    simp only [Option.some.injEq, Prod.mk.injEq] at h
    obtain ⟨_, rfl⟩ := h
    exact numbers_fact s
  · cases h
noncomputable def T_numbers : Tbl := Tbl.cons 207 numbers_ent T_sized
theorem T_numbers_ok : CallOk Tryd.prog gTab T_numbers := cons_ok T_sized_ok numbers_ok
/-! math/bits.LeadingZeros64 -/
def isLz (y : Nat) : Option (Bool × Out) → Bool
  | some (true, .s (.int .i64 q), []) => decide (q = 63 - ((Nat.log2 y : Nat) : Int))
  | _ => false
theorem isLz_eq {y : Nat} {o : Option (Bool × Out)} (h : isLz y o = true) : o = some (true, .s (.int .i64 (63 - ((Nat.log2 y : Nat) : Int))), []) := by
  unfold isLz at h
  split at h
  · rw [of_decide_eq_true h]
  · cases h
theorem lz_all : (List.range 511).all (fun i => isLz (i + 2) (lv Tryd.prog mode Tbl.nil 20 221 [.s (.int .u64 ((i + 2 : Nat) : Int))] [])) = true := by kernel_rfl
theorem lz_fact (y : Int) (hg : (decide (2 ≤ y) && decide (y ≤ 512)) = true) : Fact Tryd.prog gTab 221 [.s (.int .u64 y)] [] (.s (.int .i64 (lzS y)), []) := by
  simp only [Bool.and_eq_true, decide_eq_true_eq] at hg
  have h := List.all_eq_true.1 lz_all (y.toNat - 2) (by rw [List.mem_range]; omega)
  have h := isLz_eq h
  have e : ((y.toNat - 2 + 2 : Nat) : Int) = y := by omega
  have e2 : y.toNat - 2 + 2 = y.toNat := by omega
  rw [e, e2] at h
  exact lv_fact hN hM nil_ok h
noncomputable def lz_ent : List V → List Blk → Option (Bool × Out)
  | [.s (.int .u64 y)], [] => some ((decide (2 ≤ y) && decide (y ≤ 512)), (.s (.int .i64 (lzS y)), []))
  | _, _ => none
theorem lz_ok : ∀ args bs out, lz_ent args bs = some (true, out) → Fact Tryd.prog gTab 221 args bs out := by
  intro args bs out h
  unfold lz_ent at h
  split at h
  · rename_i y
    simp only [Option.some.injEq, Prod.mk.injEq] at h
    obtain ⟨hg, rfl⟩ := h
    exact lz_fact y hg
  · cases h
noncomputable def T_lz : Tbl := Tbl.cons 221 lz_ent T_numbers
theorem T_lz_ok : CallOk Tryd.prog gTab T_lz := cons_ok T_numbers_ok lz_ok
/-! math/bits.Div64 -/
noncomputable def divF_s2 {R : Type} (w17 : Int) (w18 : Int) (v2 : Int) (w13 : Int) (w14 : Int) (w15 : Int) (w16 : Int) (v6 : Int) (v1 : Int) (c0 : Int → Int → Int → Int → Int → Int → Option R) (c1 : Int → Int → Int → Int → Int → Int → Option R) (c2 : Int → Int → Int → Int → Int → Int → Option R) (c3 : Int → Int → Int → Int → Int → Int → Option R) (c4 : Int → Int → Int → Int → Int → Int → Option R) : Option R :=
  br (decide (w17 ≥ 4294967296))
    (br (decide ((IntKind.u64.wrap (w18 + v2)) ≥ 4294967296))
      (c0 w13 w14 w15 w16 (IntKind.u64.wrap (w17 - 1)) (IntKind.u64.wrap (w18 + v2)))
      (c1 w13 w14 w15 w16 (IntKind.u64.wrap (w17 - 1)) (IntKind.u64.wrap (w18 + v2))))
    (br (decide ((IntKind.u64.wrap (w17 * w14)) > (IntKind.u64.wrap ((IntKind.u64.wrap (4294967296 * w18)) + v6))))
      (br (decide ((IntKind.u64.wrap (w18 + v2)) ≥ 4294967296))
        (c2 w13 w14 w15 w16 (IntKind.u64.wrap (w17 - 1)) (IntKind.u64.wrap (w18 + v2)))
        (c3 w13 w14 w15 w16 (IntKind.u64.wrap (w17 - 1)) (IntKind.u64.wrap (w18 + v2))))
      (c4 w13 w14 w15 w16 w17 w18))
theorem divF_s2_eq (fuel : Nat) (k : Nat) (K : Ex → St → Option Out) (w17 : Int) (w18 : Int) (v2 : Int) (w13 : Int) (w14 : Int) (w15 : Int) (w16 : Int) (v6 : Int) (v1 : Int) : lpN (sub (bodyOf Tryd.prog 206) [1, 1, 1, 1, 1, 1, 1, 1, 1, 1, 1, 1, 1, 1, 0, 0, 0]) (fnX Tryd.prog mode T_lz fuel 135 0) 43556142965880045952059494414999150391236 [2, 6, 7, 8, 9, 10, 11, 13, 14, 15, 16] (k + 1) ⟨[(2, .s (.int .u64 v1)), (6, .s (.int .u64 0)), (7, .s (.int .u64 0)), (8, .s (.int .u64 w13)), (9, .s (.int .u64 v2)), (10, .s (.int .u64 w14)), (11, .s (.int .u64 w15)), (13, .s (.int .u64 v6)), (14, .s (.int .u64 w16)), (15, .s (.int .u64 w17)), (16, .s (.int .u64 w18))], [], 0, none⟩ K = divF_s2 w17 w18 v2 w13 w14 w15 w16 v6 v1 (fun (a25 : Int) (a26 : Int) (a27 : Int) (a28 : Int) (a29 : Int) (a30 : Int) => K (.exit 0) ⟨[(2, .s (.int .u64 v1)), (6, .s (.int .u64 0)), (7, .s (.int .u64 0)), (8, .s (.int .u64 a25)), (9, .s (.int .u64 v2)), (10, .s (.int .u64 a26)), (11, .s (.int .u64 a27)), (13, .s (.int .u64 v6)), (14, .s (.int .u64 a28)), (15, .s (.int .u64 a29)), (16, .s (.int .u64 a30))], [], 0, none⟩) (fun (a31 : Int) (a32 : Int) (a33 : Int) (a34 : Int) (a35 : Int) (a36 : Int) => lpN (sub (bodyOf Tryd.prog 206) [1, 1, 1, 1, 1, 1, 1, 1, 1, 1, 1, 1, 1, 1, 0, 0, 0]) (fnX Tryd.prog mode T_lz fuel 135 0) 43556142965880045952059494414999150391236 [2, 6, 7, 8, 9, 10, 11, 13, 14, 15, 16] k ⟨[(2, .s (.int .u64 v1)), (6, .s (.int .u64 0)), (7, .s (.int .u64 0)), (8, .s (.int .u64 a31)), (9, .s (.int .u64 v2)), (10, .s (.int .u64 a32)), (11, .s (.int .u64 a33)), (13, .s (.int .u64 v6)), (14, .s (.int .u64 a34)), (15, .s (.int .u64 a35)), (16, .s (.int .u64 a36))], [], 0, none⟩ K) (fun (a37 : Int) (a38 : Int) (a39 : Int) (a40 : Int) (a41 : Int) (a42 : Int) => K (.exit 0) ⟨[(2, .s (.int .u64 v1)), (6, .s (.int .u64 0)), (7, .s (.int .u64 0)), (8, .s (.int .u64 a37)), (9, .s (.int .u64 v2)), (10, .s (.int .u64 a38)), (11, .s (.int .u64 a39)), (13, .s (.int .u64 v6)), (14, .s (.int .u64 a40)), (15, .s (.int .u64 a41)), (16, .s (.int .u64 a42))], [], 0, none⟩) (fun (a43 : Int) (a44 : Int) (a45 : Int) (a46 : Int) (a47 : Int) (a48 : Int) => lpN (sub (bodyOf Tryd.prog 206) [1, 1, 1, 1, 1, 1, 1, 1, 1, 1, 1, 1, 1, 1, 0, 0, 0]) (fnX Tryd.prog mode T_lz fuel 135 0) 43556142965880045952059494414999150391236 [2, 6, 7, 8, 9, 10, 11, 13, 14, 15, 16] k ⟨[(2, .s (.int .u64 v1)), (6, .s (.int .u64 0)), (7, .s (.int .u64 0)), (8, .s (.int .u64 a43)), (9, .s (.int .u64 v2)), (10, .s (.int .u64 a44)), (11, .s (.int .u64 a45)), (13, .s (.int .u64 v6)), (14, .s (.int .u64 a46)), (15, .s (.int .u64 a47)), (16, .s (.int .u64 a48))], [], 0, none⟩ K) (fun (a49 : Int) (a50 : Int) (a51 : Int) (a52 : Int) (a53 : Int) (a54 : Int) => K (.exit 0) ⟨[(2, .s (.int .u64 v1)), (6, .s (.int .u64 0)), (7, .s (.int .u64 0)), (8, .s (.int .u64 a49)), (9, .s (.int .u64 v2)), (10, .s (.int .u64 a50)), (11, .s (.int .u64 a51)), (13, .s (.int .u64 v6)), (14, .s (.int .u64 a52)), (15, .s (.int .u64 a53)), (16, .s (.int .u64 a54))], [], 0, none⟩) := by kernel_rfl
noncomputable def divF_l1 {R : Type} (fuel : Nat) (v1 : Int) (v2 : Int) (v6 : Int) (k0 : Int → Int → Int → Int → Int → Int → Option R) : Nat → Int → Int → Int → Int → Int → Int → Option R
  | 0, _, _, _, _, _, _ => none
  | k + 1, w13, w14, w15, w16, w17, w18 =>
    (divF_s2 w17 w18 v2 w13 w14 w15 w16 v6 v1 (fun (a25 : Int) (a26 : Int) (a27 : Int) (a28 : Int) (a29 : Int) (a30 : Int) => k0 a25 a26 a27 a28 a29 a30) (fun (a31 : Int) (a32 : Int) (a33 : Int) (a34 : Int) (a35 : Int) (a36 : Int) => ( divF_l1 fuel v1 v2 v6 k0 k a31 a32 a33 a34 a35 a36 )) (fun (a37 : Int) (a38 : Int) (a39 : Int) (a40 : Int) (a41 : Int) (a42 : Int) => k0 a37 a38 a39 a40 a41 a42) (fun (a43 : Int) (a44 : Int) (a45 : Int) (a46 : Int) (a47 : Int) (a48 : Int) => ( divF_l1 fuel v1 v2 v6 k0 k a43 a44 a45 a46 a47 a48 )) (fun (a49 : Int) (a50 : Int) (a51 : Int) (a52 : Int) (a53 : Int) (a54 : Int) => k0 a49 a50 a51 a52 a53 a54))
theorem divF_l1_eq (fuel : Nat) (v1 : Int) (v2 : Int) (v6 : Int) (K : Ex → St → Option Out) : ∀ (k : Nat) (w13 : Int) (w14 : Int) (w15 : Int) (w16 : Int) (w17 : Int) (w18 : Int), lpN (sub (bodyOf Tryd.prog 206) [1, 1, 1, 1, 1, 1, 1, 1, 1, 1, 1, 1, 1, 1, 0, 0, 0]) (fnX Tryd.prog mode T_lz fuel 135 0) 43556142965880045952059494414999150391236 [2, 6, 7, 8, 9, 10, 11, 13, 14, 15, 16] k ⟨[(2, .s (.int .u64 v1)), (6, .s (.int .u64 0)), (7, .s (.int .u64 0)), (8, .s (.int .u64 w13)), (9, .s (.int .u64 v2)), (10, .s (.int .u64 w14)), (11, .s (.int .u64 w15)), (13, .s (.int .u64 v6)), (14, .s (.int .u64 w16)), (15, .s (.int .u64 w17)), (16, .s (.int .u64 w18))], [], 0, none⟩ K = divF_l1 fuel v1 v2 v6 (fun (y19 : Int) (y20 : Int) (y21 : Int) (y22 : Int) (y23 : Int) (y24 : Int) => K (.exit 0) ⟨[(2, .s (.int .u64 v1)), (6, .s (.int .u64 0)), (7, .s (.int .u64 0)), (8, .s (.int .u64 y19)), (9, .s (.int .u64 v2)), (10, .s (.int .u64 y20)), (11, .s (.int .u64 y21)), (13, .s (.int .u64 v6)), (14, .s (.int .u64 y22)), (15, .s (.int .u64 y23)), (16, .s (.int .u64 y24))], [], 0, none⟩) k w13 w14 w15 w16 w17 w18
  | 0, _, _, _, _, _, _ => rfl
  | k + 1, w13, w14, w15, w16, w17, w18 => by
    unfold divF_l1
    exact (divF_s2_eq fuel k K w17 w18 v2 w13 w14 w15 w16 v6 v1).trans (congr (congr (congr (congr (congr (Eq.refl (divF_s2 (R := Out) w17 w18 v2 w13 w14 w15 w16 v6 v1)) (rfl)) (funext fun a31 => funext fun a32 => funext fun a33 => funext fun a34 => funext fun a35 => funext fun a36 => divF_l1_eq fuel v1 v2 v6 K k a31 a32 a33 a34 a35 a36)) (rfl)) (funext fun a43 => funext fun a44 => funext fun a45 => funext fun a46 => funext fun a47 => funext fun a48 => divF_l1_eq fuel v1 v2 v6 K k a43 a44 a45 a46 a47 a48)) (rfl))
noncomputable def divF_s4 {R : Type} (w72 : Int) (w70 : Int) (v2 : Int) (w71 : Int) (x62 : Int) (x64 : Int) (v1 : Int) (x61 : Int) (x65 : Int) (c0 : Int → Int → Option R) (c1 : Int → Int → Int → Option R) (c2 : Int → Int → Option R) (c3 : Int → Int → Int → Option R) (c4 : Int → Int → Option R) : Option R :=
  br (decide (w72 ≥ 4294967296))
    (br (decide ((IntKind.u64.wrap (w70 + v2)) ≥ 4294967296))
      (c0 w71 (IntKind.u64.wrap (w72 - 1)))
      (c1 (IntKind.u64.wrap (w70 + v2)) w71 (IntKind.u64.wrap (w72 - 1))))
    (br (decide ((IntKind.u64.wrap (w72 * x62)) > (IntKind.u64.wrap ((IntKind.u64.wrap (4294967296 * w70)) + x64))))
      (br (decide ((IntKind.u64.wrap (w70 + v2)) ≥ 4294967296))
        (c2 w71 (IntKind.u64.wrap (w72 - 1)))
        (c3 (IntKind.u64.wrap (w70 + v2)) w71 (IntKind.u64.wrap (w72 - 1))))
      (c4 w71 w72))
theorem divF_s4_eq (fuel : Nat) (k : Nat) (K : Ex → St → Option Out) (w72 : Int) (w70 : Int) (v2 : Int) (w71 : Int) (x62 : Int) (x64 : Int) (v1 : Int) (x61 : Int) (x65 : Int) : lpN (sub (bodyOf Tryd.prog 206) [1, 1, 1, 1, 1, 1, 1, 1, 1, 1, 1, 1, 1, 1, 1, 1, 1, 1, 0, 0, 0]) (fnX Tryd.prog mode T_lz fuel 135 0) 43553484509888553491566142137145770820036 [2, 6, 7, 8, 9, 10, 14, 15, 16, 17, 18] (k + 1) ⟨[(2, .s (.int .u64 v1)), (6, .s (.int .u64 0)), (7, .s (.int .u64 0)), (8, .s (.int .u64 x61)), (9, .s (.int .u64 v2)), (10, .s (.int .u64 x62)), (14, .s (.int .u64 x64)), (15, .s (.int .u64 x65)), (16, .s (.int .u64 w70)), (17, .s (.int .u64 w71)), (18, .s (.int .u64 w72))], [], 0, none⟩ K = divF_s4 w72 w70 v2 w71 x62 x64 v1 x61 x65 (fun (a75 : Int) (a76 : Int) => K (.exit 2) ⟨[(2, .s (.int .u64 v1)), (6, .s (.int .u64 0)), (7, .s (.int .u64 0)), (8, .s (.int .u64 x61)), (14, .s (.int .u64 x64)), (15, .s (.int .u64 x65)), (17, .s (.int .u64 a75)), (18, .s (.int .u64 a76))], [], 0, none⟩) (fun (a77 : Int) (a78 : Int) (a79 : Int) => lpN (sub (bodyOf Tryd.prog 206) [1, 1, 1, 1, 1, 1, 1, 1, 1, 1, 1, 1, 1, 1, 1, 1, 1, 1, 0, 0, 0]) (fnX Tryd.prog mode T_lz fuel 135 0) 43553484509888553491566142137145770820036 [2, 6, 7, 8, 9, 10, 14, 15, 16, 17, 18] k ⟨[(2, .s (.int .u64 v1)), (6, .s (.int .u64 0)), (7, .s (.int .u64 0)), (8, .s (.int .u64 x61)), (9, .s (.int .u64 v2)), (10, .s (.int .u64 x62)), (14, .s (.int .u64 x64)), (15, .s (.int .u64 x65)), (16, .s (.int .u64 a77)), (17, .s (.int .u64 a78)), (18, .s (.int .u64 a79))], [], 0, none⟩ K) (fun (a80 : Int) (a81 : Int) => K (.exit 2) ⟨[(2, .s (.int .u64 v1)), (6, .s (.int .u64 0)), (7, .s (.int .u64 0)), (8, .s (.int .u64 x61)), (14, .s (.int .u64 x64)), (15, .s (.int .u64 x65)), (17, .s (.int .u64 a80)), (18, .s (.int .u64 a81))], [], 0, none⟩) (fun (a82 : Int) (a83 : Int) (a84 : Int) => lpN (sub (bodyOf Tryd.prog 206) [1, 1, 1, 1, 1, 1, 1, 1, 1, 1, 1, 1, 1, 1, 1, 1, 1, 1, 0, 0, 0]) (fnX Tryd.prog mode T_lz fuel 135 0) 43553484509888553491566142137145770820036 [2, 6, 7, 8, 9, 10, 14, 15, 16, 17, 18] k ⟨[(2, .s (.int .u64 v1)), (6, .s (.int .u64 0)), (7, .s (.int .u64 0)), (8, .s (.int .u64 x61)), (9, .s (.int .u64 v2)), (10, .s (.int .u64 x62)), (14, .s (.int .u64 x64)), (15, .s (.int .u64 x65)), (16, .s (.int .u64 a82)), (17, .s (.int .u64 a83)), (18, .s (.int .u64 a84))], [], 0, none⟩ K) (fun (a85 : Int) (a86 : Int) => K (.exit 2) ⟨[(2, .s (.int .u64 v1)), (6, .s (.int .u64 0)), (7, .s (.int .u64 0)), (8, .s (.int .u64 x61)), (14, .s (.int .u64 x64)), (15, .s (.int .u64 x65)), (17, .s (.int .u64 a85)), (18, .s (.int .u64 a86))], [], 0, none⟩) := by kernel_rfl
noncomputable def divF_l2 {R : Type} (fuel : Nat) (v1 : Int) (x61 : Int) (v2 : Int) (x62 : Int) (x64 : Int) (x65 : Int) (k0 : Int → Int → Option R) : Nat → Int → Int → Int → Option R
  | 0, _, _, _ => none
  | k + 1, w70, w71, w72 =>
    (divF_s4 w72 w70 v2 w71 x62 x64 v1 x61 x65 (fun (a75 : Int) (a76 : Int) => k0 a75 a76) (fun (a77 : Int) (a78 : Int) (a79 : Int) => ( divF_l2 fuel v1 x61 v2 x62 x64 x65 k0 k a77 a78 a79 )) (fun (a80 : Int) (a81 : Int) => k0 a80 a81) (fun (a82 : Int) (a83 : Int) (a84 : Int) => ( divF_l2 fuel v1 x61 v2 x62 x64 x65 k0 k a82 a83 a84 )) (fun (a85 : Int) (a86 : Int) => k0 a85 a86))
theorem divF_l2_eq (fuel : Nat) (v1 : Int) (x61 : Int) (v2 : Int) (x62 : Int) (x64 : Int) (x65 : Int) (K : Ex → St → Option Out) : ∀ (k : Nat) (w70 : Int) (w71 : Int) (w72 : Int), lpN (sub (bodyOf Tryd.prog 206) [1, 1, 1, 1, 1, 1, 1, 1, 1, 1, 1, 1, 1, 1, 1, 1, 1, 1, 0, 0, 0]) (fnX Tryd.prog mode T_lz fuel 135 0) 43553484509888553491566142137145770820036 [2, 6, 7, 8, 9, 10, 14, 15, 16, 17, 18] k ⟨[(2, .s (.int .u64 v1)), (6, .s (.int .u64 0)), (7, .s (.int .u64 0)), (8, .s (.int .u64 x61)), (9, .s (.int .u64 v2)), (10, .s (.int .u64 x62)), (14, .s (.int .u64 x64)), (15, .s (.int .u64 x65)), (16, .s (.int .u64 w70)), (17, .s (.int .u64 w71)), (18, .s (.int .u64 w72))], [], 0, none⟩ K = divF_l2 fuel v1 x61 v2 x62 x64 x65 (fun (y73 : Int) (y74 : Int) => K (.exit 2) ⟨[(2, .s (.int .u64 v1)), (6, .s (.int .u64 0)), (7, .s (.int .u64 0)), (8, .s (.int .u64 x61)), (14, .s (.int .u64 x64)), (15, .s (.int .u64 x65)), (17, .s (.int .u64 y73)), (18, .s (.int .u64 y74))], [], 0, none⟩) k w70 w71 w72
  | 0, _, _, _ => rfl
  | k + 1, w70, w71, w72 => by
    unfold divF_l2
    exact (divF_s4_eq fuel k K w72 w70 v2 w71 x62 x64 v1 x61 x65).trans (congr (congr (congr (congr (congr (Eq.refl (divF_s4 (R := Out) w72 w70 v2 w71 x62 x64 v1 x61 x65)) (rfl)) (funext fun a77 => funext fun a78 => funext fun a79 => divF_l2_eq fuel v1 x61 v2 x62 x64 x65 K k a77 a78 a79)) (rfl)) (funext fun a82 => funext fun a83 => funext fun a84 => divF_l2_eq fuel v1 x61 v2 x62 x64 x65 K k a82 a83 a84)) (rfl))
noncomputable def divF_s5 {R : Type} (x90 : Int) (x64 : Int) (x91 : Int) (v1 : Int) (x61 : Int) (x65 : Int) (c0 : Int → Int → Option R) : Option R :=
  bnd (shfI .shr .u64 (IntKind.u64.wrap ((IntKind.u64.wrap ((IntKind.u64.wrap (x90 * 4294967296)) + x64)) - (IntKind.u64.wrap (x91 * v1)))) x61) fun v92 =>
  c0 (IntKind.u64.wrap ((IntKind.u64.wrap (x65 * 4294967296)) + x91)) v92
theorem divF_s5_eq (fuel : Nat)  (x90 : Int) (x64 : Int) (x91 : Int) (v1 : Int) (x61 : Int) (x65 : Int) : (kont (fnX Tryd.prog mode T_lz fuel 135 0) (bodyOf Tryd.prog 206) [1, 1, 1, 1, 1, 1, 1, 1, 1, 1, 1, 1, 1, 1, 1, 1, 1, 1, 0, 0] 192 (endK Tryd.prog 0 0 206)) (.exit 2) ⟨[(2, .s (.int .u64 v1)), (6, .s (.int .u64 0)), (7, .s (.int .u64 0)), (8, .s (.int .u64 x61)), (14, .s (.int .u64 x64)), (15, .s (.int .u64 x65)), (17, .s (.int .u64 x90)), (18, .s (.int .u64 x91))], [], 0, none⟩ = divF_s5 x90 x64 x91 v1 x61 x65 (fun (a93 : Int) (a94 : Int) => some (.tup [.s (.int .u64 a93), .s (.int .u64 a94)], [])) := by kernel_rfl
noncomputable def divF_s3 {R : Type} (x63 : Int) (v6 : Int) (x65 : Int) (v1 : Int) (v2 : Int) (x61 : Int) (x62 : Int) (x64 : Int) (x66 : Int) (c0 : Int → Int → Int → Option R) : Option R :=
  bnd (divI .quo .u64 (IntKind.u64.wrap ((IntKind.u64.wrap ((IntKind.u64.wrap (x63 * 4294967296)) + v6)) - (IntKind.u64.wrap (x65 * v1)))) v2) fun v67 =>
  c0 (IntKind.u64.wrap ((IntKind.u64.wrap ((IntKind.u64.wrap ((IntKind.u64.wrap (x63 * 4294967296)) + v6)) - (IntKind.u64.wrap (x65 * v1)))) - (IntKind.u64.wrap (v67 * v2)))) (IntKind.u64.wrap ((IntKind.u64.wrap ((IntKind.u64.wrap (x63 * 4294967296)) + v6)) - (IntKind.u64.wrap (x65 * v1)))) v67
theorem divF_s3_eq (fuel : Nat)  (x63 : Int) (v6 : Int) (x65 : Int) (v1 : Int) (v2 : Int) (x61 : Int) (x62 : Int) (x64 : Int) (x66 : Int) : (kont (fnX Tryd.prog mode T_lz fuel 135 0) (bodyOf Tryd.prog 206) [1, 1, 1, 1, 1, 1, 1, 1, 1, 1, 1, 1, 1, 1, 0, 0] 192 (endK Tryd.prog 0 0 206)) (.exit 0) ⟨[(2, .s (.int .u64 v1)), (6, .s (.int .u64 0)), (7, .s (.int .u64 0)), (8, .s (.int .u64 x61)), (9, .s (.int .u64 v2)), (10, .s (.int .u64 x62)), (11, .s (.int .u64 x63)), (13, .s (.int .u64 v6)), (14, .s (.int .u64 x64)), (15, .s (.int .u64 x65)), (16, .s (.int .u64 x66))], [], 0, none⟩ = divF_s3 x63 v6 x65 v1 v2 x61 x62 x64 x66 (fun (a87 : Int) (a88 : Int) (a89 : Int) => lpN (sub (bodyOf Tryd.prog 206) [1, 1, 1, 1, 1, 1, 1, 1, 1, 1, 1, 1, 1, 1, 1, 1, 1, 1, 0, 0, 0]) (fnX Tryd.prog mode T_lz fuel 135 0) 43553484509888553491566142137145770820036 [2, 6, 7, 8, 9, 10, 14, 15, 16, 17, 18] fuel ⟨[(2, .s (.int .u64 v1)), (6, .s (.int .u64 0)), (7, .s (.int .u64 0)), (8, .s (.int .u64 x61)), (9, .s (.int .u64 v2)), (10, .s (.int .u64 x62)), (14, .s (.int .u64 x64)), (15, .s (.int .u64 x65)), (16, .s (.int .u64 a87)), (17, .s (.int .u64 a88)), (18, .s (.int .u64 a89))], [], 0, none⟩ (kont (fnX Tryd.prog mode T_lz fuel 135 0) (bodyOf Tryd.prog 206) [1, 1, 1, 1, 1, 1, 1, 1, 1, 1, 1, 1, 1, 1, 1, 1, 1, 1, 0, 0] 192 (endK Tryd.prog 0 0 206))) := by kernel_rfl
noncomputable def divF_s1 {R : Type} (y : Int) (c0 : Int → Int → Int → Int → Int → Int → Int → Int → Int → Option R) : Option R :=
  br (y == 0)
    (none)
    (br (decide (y ≤ 1))
      (none)
      (grd (decide (2 ≤ y) && decide (y ≤ 512)) <|
      bnd (shfI .shl .u64 y (IntKind.u64.wrap (lzS y))) fun v1 =>
      bnd (shfI .shr .u64 v1 32) fun v2 =>
      bnd (shfI .shl .u64 1 (IntKind.u64.wrap (lzS y))) fun v3 =>
      bnd (shfI .shr .u64 0 (IntKind.u64.wrap (64 - (IntKind.u64.wrap (lzS y))))) fun v4 =>
      bnd (shfI .shl .u64 0 (IntKind.u64.wrap (lzS y))) fun v5 =>
      bnd (shfI .shr .u64 v5 32) fun v6 =>
      bnd (divI .quo .u64 (orI .u64 v3 v4) v2) fun v7 =>
      c0 (IntKind.u64.wrap (lzS y)) (andI .u64 v1 4294967295) (orI .u64 v3 v4) (andI .u64 v5 4294967295) v7 (IntKind.u64.wrap ((orI .u64 v3 v4) - (IntKind.u64.wrap (v7 * v2)))) v1 v2 v6))
theorem divF_s1_eq (fuel : Nat)  (y : Int) : callN Tryd.prog mode T_lz fuel 206 [.s (.int .u64 1), .s (.int .u64 0), .s (.int .u64 y)] [] = divF_s1 y (fun (a55 : Int) (a56 : Int) (a57 : Int) (a58 : Int) (a59 : Int) (a60 : Int) (v1 : Int) (v2 : Int) (v6 : Int) => lpN (sub (bodyOf Tryd.prog 206) [1, 1, 1, 1, 1, 1, 1, 1, 1, 1, 1, 1, 1, 1, 0, 0, 0]) (fnX Tryd.prog mode T_lz fuel 135 0) 43556142965880045952059494414999150391236 [2, 6, 7, 8, 9, 10, 11, 13, 14, 15, 16] fuel ⟨[(2, .s (.int .u64 v1)), (6, .s (.int .u64 0)), (7, .s (.int .u64 0)), (8, .s (.int .u64 a55)), (9, .s (.int .u64 v2)), (10, .s (.int .u64 a56)), (11, .s (.int .u64 a57)), (13, .s (.int .u64 v6)), (14, .s (.int .u64 a58)), (15, .s (.int .u64 a59)), (16, .s (.int .u64 a60))], [], 0, none⟩ (kont (fnX Tryd.prog mode T_lz fuel 135 0) (bodyOf Tryd.prog 206) [1, 1, 1, 1, 1, 1, 1, 1, 1, 1, 1, 1, 1, 1, 0, 0] 192 (endK Tryd.prog 0 0 206))) := by kernel_rfl
noncomputable def divF {R : Type} (fuel : Nat) (y : Int) (r0 : Int → Int → Option R) : Option R :=
  (divF_s1 y (fun (a55 : Int) (a56 : Int) (a57 : Int) (a58 : Int) (a59 : Int) (a60 : Int) (v1 : Int) (v2 : Int) (v6 : Int) => (divF_l1 fuel v1 v2 v6 (fun (x61 : Int) (x62 : Int) (x63 : Int) (x64 : Int) (x65 : Int) (x66 : Int) => (divF_s3 x63 v6 x65 v1 v2 x61 x62 x64 x66 (fun (a87 : Int) (a88 : Int) (a89 : Int) => (divF_l2 fuel v1 x61 v2 x62 x64 x65 (fun (x90 : Int) (x91 : Int) => (divF_s5 x90 x64 x91 v1 x61 x65 (fun (a93 : Int) (a94 : Int) => r0 a93 a94))) fuel a87 a88 a89)))) fuel a55 a56 a57 a58 a59 a60)))
theorem divF_eq (fuel : Nat) (y : Int) : callN Tryd.prog mode T_lz fuel 206 [.s (.int .u64 1), .s (.int .u64 0), .s (.int .u64 y)] [] = divF fuel y (fun (z0 : Int) (z1 : Int) => some (.tup [.s (.int .u64 z0), .s (.int .u64 z1)], [])) := by
  unfold divF
  exact (divF_s1_eq fuel  y).trans (congr (Eq.refl (divF_s1 (R := Out) y)) (funext fun a55 => funext fun a56 => funext fun a57 => funext fun a58 => funext fun a59 => funext fun a60 => funext fun v1 => funext fun v2 => funext fun v6 => (divF_l1_eq fuel v1 v2 v6 (kont (fnX Tryd.prog mode T_lz fuel 135 0) (bodyOf Tryd.prog 206) [1, 1, 1, 1, 1, 1, 1, 1, 1, 1, 1, 1, 1, 1, 0, 0] 192 (endK Tryd.prog 0 0 206)) fuel a55 a56 a57 a58 a59 a60).trans (congrFun (congrFun (congrFun (congrFun (congrFun (congrFun (congrFun (congr (Eq.refl (divF_l1 (R := Out) fuel v1 v2 v6)) (funext fun x61 => funext fun x62 => funext fun x63 => funext fun x64 => funext fun x65 => funext fun x66 => (divF_s3_eq fuel  x63 v6 x65 v1 v2 x61 x62 x64 x66).trans (congr (Eq.refl (divF_s3 (R := Out) x63 v6 x65 v1 v2 x61 x62 x64 x66)) (funext fun a87 => funext fun a88 => funext fun a89 => (divF_l2_eq fuel v1 x61 v2 x62 x64 x65 (kont (fnX Tryd.prog mode T_lz fuel 135 0) (bodyOf Tryd.prog 206) [1, 1, 1, 1, 1, 1, 1, 1, 1, 1, 1, 1, 1, 1, 1, 1, 1, 1, 0, 0] 192 (endK Tryd.prog 0 0 206)) fuel a87 a88 a89).trans (congrFun (congrFun (congrFun (congrFun (congr (Eq.refl (divF_l2 (R := Out) fuel v1 x61 v2 x62 x64 x65)) (funext fun x90 => funext fun x91 => (divF_s5_eq fuel  x90 x64 x91 v1 x61 x65))) fuel) a87) a88) a89))))) fuel) a55) a56) a57) a58) a59) a60)))
def isDiv (y : Nat) : Option Out → Bool
  | some (.tup [.s (.int .u64 q), .s (.int .u64 r)], []) => decide (q = 18446744073709551616 / (y : Int)) && decide (r = 18446744073709551616 % (y : Int))
  | _ => false
theorem isDiv_eq {y : Nat} {o : Option Out} (h : isDiv y o = true) : o = some (.tup [.s (.int .u64 (18446744073709551616 / (y : Int))), .s (.int .u64 (18446744073709551616 % (y : Int)))], []) := by
  unfold isDiv at h
  split at h
  · rw [Bool.and_eq_true] at h; rw [of_decide_eq_true h.1, of_decide_eq_true h.2]
  · cases h
theorem div_all : (List.range 511).all (fun i => isDiv (i + 2) (divF (R := Out) 8 ((i + 2 : Nat) : Int) (fun (z0 : Int) (z1 : Int) => some (.tup [.s (.int .u64 z0), .s (.int .u64 z1)], [])))) = true := by kernel_rfl
theorem div_fact (y : Int) (hg : (decide (2 ≤ y) && decide (y ≤ 512)) = true) : Fact Tryd.prog gTab 206 [.s (.int .u64 1), .s (.int .u64 0), .s (.int .u64 y)] [] (.tup [.s (.int .u64 (18446744073709551616 / y)), .s (.int .u64 (18446744073709551616 % y))], []) := by
  simp only [Bool.and_eq_true, decide_eq_true_eq] at hg
  have h := List.all_eq_true.1 div_all (y.toNat - 2) (by rw [List.mem_range]; omega)
  have h := isDiv_eq h
  have e : ((y.toNat - 2 + 2 : Nat) : Int) = y := by omega
  rw [e] at h
  refine callN_fact hN hM T_lz_ok (n := 8) (mode := mode) ?_
  rw [divF_eq]
  exact h
noncomputable def div_ent : List V → List Blk → Option (Bool × Out)
  | [.s (.int .u64 1), .s (.int .u64 0), .s (.int .u64 y)], [] => some ((decide (2 ≤ y) && decide (y ≤ 512)), (.tup [.s (.int .u64 (18446744073709551616 / y)), .s (.int .u64 (18446744073709551616 % y))], []))
  | _, _ => none
theorem div_ok : ∀ args bs out, div_ent args bs = some (true, out) → Fact Tryd.prog gTab 206 args bs out := by
  intro args bs out h
  unfold div_ent at h
  split at h
  · rename_i y
    simp only [Option.some.injEq, Prod.mk.injEq] at h
    obtain ⟨hg, rfl⟩ := h
    exact div_fact y hg
  · cases h
noncomputable def T_div : Tbl := Tbl.cons 206 div_ent T_lz
theorem T_div_ok : CallOk Tryd.prog gTab T_div := cons_ok T_lz_ok div_ok
/-! downpour/random.below -/
noncomputable def belowF_s2 {R : Type} (s : Int) (n : Int) (c0 : Int → Int → Option R) (c1 : Int → Int → Option R) : Option R :=
  br (decide (((mixedS (nextS s)) : Int) < 0))
    (bnd (divI .rem .u64 (mixedS (nextS s)) (IntKind.u64.wrap n)) fun v5 =>
    c0 (nextS s) (IntKind.i64.wrap v5))
    (bnd (divI .rem .u64 (mixedS (nextS s)) (IntKind.u64.wrap n)) fun v8 =>
    c1 (nextS s) (IntKind.i64.wrap v8))
theorem belowF_s2_eq (fuel : Nat) (k : Nat) (K : Ex → St → Option Out) (s : Int) (n : Int) : lpN (sub (bodyOf Tryd.prog 222) [0, 0]) (itX Tryd.prog mode T_div fuel 3 14 6 5 (roundK (evC (sub (bodyOf Tryd.prog 198) [1, 1, 1, 0, 1, 0, 0])) (evC (sub (bodyOf Tryd.prog 198) [1, 1, 1, 0, 1, 0, 1])) (fnX Tryd.prog mode T_div fuel 38 0) #[21, 22] 137430565816 [(0, .s (.int .u64 s)), (3, .ptr 0 1 0 0), (4, .ptr 1 1 0 0), (5, .ptr 2 1 0 0), (7, .ptr 3 1 0 0), (20, .fn (.func 222) [] [.ptr 4 1 0 0])])) 0 [0, 1] (k + 1) ⟨[(0, .yl 5), (1, .ptr 4 1 0 0)], [(0, some ⟨3, .agg [.s (.int .i64 n)], true⟩), (1, some ⟨22, .agg [.s (.int .u64 0)], true⟩), (2, some ⟨3, .agg [.s (.int .i64 0)], true⟩), (3, some ⟨22, .agg [.s (.int .u64 0)], true⟩), (4, some ⟨22, .agg [.s (.int .u64 s)], true⟩), (5, none)], 6, none⟩ K = belowF_s2 s n (fun (a6 : Int) (a7 : Int) => K .ret ⟨[], [(0, some ⟨3, .agg [.s (.int .i64 n)], true⟩), (1, some ⟨22, .agg [.s (.int .u64 a6)], true⟩), (2, some ⟨3, .agg [.s (.int .i64 a7)], true⟩), (3, some ⟨22, .agg [.s (.int .u64 0)], true⟩), (4, some ⟨22, .agg [.s (.int .u64 a6)], true⟩), (5, none)], 6, (some .ret)⟩) (fun (a9 : Int) (a10 : Int) => K .ret ⟨[], [(0, some ⟨3, .agg [.s (.int .i64 n)], true⟩), (1, some ⟨22, .agg [.s (.int .u64 a9)], true⟩), (2, some ⟨3, .agg [.s (.int .i64 a10)], true⟩), (3, some ⟨22, .agg [.s (.int .u64 0)], true⟩), (4, some ⟨22, .agg [.s (.int .u64 a9)], true⟩), (5, none)], 6, (some .ret)⟩) := by kernel_rfl
noncomputable def belowF_l1 {R : Type} (fuel : Nat) (n : Int) (s : Int) (k0 : Int → Int → Option R) : Nat → Option R
  | 0 => none
  | k + 1 =>
    (belowF_s2 s n (fun (a6 : Int) (a7 : Int) => k0 a6 a7) (fun (a9 : Int) (a10 : Int) => k0 a9 a10))
theorem belowF_l1_eq (fuel : Nat) (n : Int) (s : Int) (K : Ex → St → Option Out) : ∀ (k : Nat) , lpN (sub (bodyOf Tryd.prog 222) [0, 0]) (itX Tryd.prog mode T_div fuel 3 14 6 5 (roundK (evC (sub (bodyOf Tryd.prog 198) [1, 1, 1, 0, 1, 0, 0])) (evC (sub (bodyOf Tryd.prog 198) [1, 1, 1, 0, 1, 0, 1])) (fnX Tryd.prog mode T_div fuel 38 0) #[21, 22] 137430565816 [(0, .s (.int .u64 s)), (3, .ptr 0 1 0 0), (4, .ptr 1 1 0 0), (5, .ptr 2 1 0 0), (7, .ptr 3 1 0 0), (20, .fn (.func 222) [] [.ptr 4 1 0 0])])) 0 [0, 1] k ⟨[(0, .yl 5), (1, .ptr 4 1 0 0)], [(0, some ⟨3, .agg [.s (.int .i64 n)], true⟩), (1, some ⟨22, .agg [.s (.int .u64 0)], true⟩), (2, some ⟨3, .agg [.s (.int .i64 0)], true⟩), (3, some ⟨22, .agg [.s (.int .u64 0)], true⟩), (4, some ⟨22, .agg [.s (.int .u64 s)], true⟩), (5, none)], 6, none⟩ K = belowF_l1 fuel n s (fun (y3 : Int) (y4 : Int) => K .ret ⟨[], [(0, some ⟨3, .agg [.s (.int .i64 n)], true⟩), (1, some ⟨22, .agg [.s (.int .u64 y3)], true⟩), (2, some ⟨3, .agg [.s (.int .i64 y4)], true⟩), (3, some ⟨22, .agg [.s (.int .u64 0)], true⟩), (4, some ⟨22, .agg [.s (.int .u64 y3)], true⟩), (5, none)], 6, (some .ret)⟩) k 
  | 0 => rfl
  | k + 1 => by
    unfold belowF_l1
    exact (belowF_s2_eq fuel k K s n)
noncomputable def belowF_s3 {R : Type} (x11 : Int) (x12 : Int) (s : Int) (n : Int) (c0 : Int → Int → Option R) : Option R :=
  c0 x11 x12
theorem belowF_s3_eq (fuel : Nat)  (x11 : Int) (x12 : Int) (s : Int) (n : Int) : (kont (itX Tryd.prog mode T_div fuel 3 14 6 5 (roundK (evC (sub (bodyOf Tryd.prog 198) [1, 1, 1, 0, 1, 0, 0])) (evC (sub (bodyOf Tryd.prog 198) [1, 1, 1, 0, 1, 0, 1])) (fnX Tryd.prog mode T_div fuel 38 0) #[21, 22] 137430565816 [(0, .s (.int .u64 s)), (3, .ptr 0 1 0 0), (4, .ptr 1 1 0 0), (5, .ptr 2 1 0 0), (7, .ptr 3 1 0 0), (20, .fn (.func 222) [] [.ptr 4 1 0 0])])) (bodyOf Tryd.prog 222) [0] 0 (itE (behind ⟨[(0, .s (.int .u64 s)), (3, .ptr 0 1 0 0), (4, .ptr 1 1 0 0), (5, .ptr 2 1 0 0), (7, .ptr 3 1 0 0), (20, .fn (.func 222) [] [.ptr 4 1 0 0])], [(0, some ⟨3, .agg [.s (.int .i64 n)], true⟩), (1, some ⟨22, .agg [.s (.int .u64 0)], true⟩), (2, some ⟨3, .agg [.s (.int .i64 0)], true⟩), (3, some ⟨22, .agg [.s (.int .u64 0)], true⟩), (4, some ⟨22, .agg [.s (.int .u64 s)], true⟩)], 5, none⟩ (kont (fnX Tryd.prog mode T_div fuel 38 0) (bodyOf Tryd.prog 198) [1, 1, 1, 0, 1, 0] 48 (endK Tryd.prog 0 0 198))))) .ret ⟨[], [(0, some ⟨3, .agg [.s (.int .i64 n)], true⟩), (1, some ⟨22, .agg [.s (.int .u64 x11)], true⟩), (2, some ⟨3, .agg [.s (.int .i64 x12)], true⟩), (3, some ⟨22, .agg [.s (.int .u64 0)], true⟩), (4, some ⟨22, .agg [.s (.int .u64 x11)], true⟩), (5, none)], 6, (some .ret)⟩ = belowF_s3 x11 x12 s n (fun (a13 : Int) (a14 : Int) => some (.tup [.s (.int .u64 a13), .s (.int .i64 a14)], [])) := by kernel_rfl
noncomputable def belowF_s4 {R : Type} (w19 : Int) (w18 : Int) (n : Int) (s : Int) (c0 : Int → Int → Int → Option R) (c1 : Int → Int → Int → Option R) (c2 : Int → Int → Option R) : Option R :=
  br (decide ((mixedS (nextS w19)) < (IntKind.u64.wrap (0 - w18))))
    (bnd (divI .rem .u64 (mixedS (nextS w19)) (IntKind.u64.wrap n)) fun v25 =>
    c0 (nextS w19) (IntKind.i64.wrap v25) w18)
    (br (w18 == 0)
      (bnd (divI .rem .u64 (mixedS (nextS w19)) (IntKind.u64.wrap n)) fun v29 =>
      c1 (nextS w19) (IntKind.i64.wrap v29) w18)
      (c2 w18 (nextS w19)))
theorem belowF_s4_eq (fuel : Nat) (k : Nat) (K : Ex → St → Option Out) (w19 : Int) (w18 : Int) (n : Int) (s : Int) : lpN (sub (bodyOf Tryd.prog 222) [0, 0]) (itX Tryd.prog mode T_div fuel 3 14 6 5 (roundK (evC (sub (bodyOf Tryd.prog 198) [1, 1, 1, 0, 1, 0, 0])) (evC (sub (bodyOf Tryd.prog 198) [1, 1, 1, 0, 1, 0, 1])) (fnX Tryd.prog mode T_div fuel 38 0) #[21, 22] 137430565816 [(0, .s (.int .u64 s)), (3, .ptr 0 1 0 0), (4, .ptr 1 1 0 0), (5, .ptr 2 1 0 0), (7, .ptr 3 1 0 0), (20, .fn (.func 222) [] [.ptr 4 1 0 0])])) 0 [0, 1] (k + 1) ⟨[(0, .yl 5), (1, .ptr 4 1 0 0)], [(0, some ⟨3, .agg [.s (.int .i64 n)], true⟩), (1, some ⟨22, .agg [.s (.int .u64 0)], true⟩), (2, some ⟨3, .agg [.s (.int .i64 0)], true⟩), (3, some ⟨22, .agg [.s (.int .u64 w18)], true⟩), (4, some ⟨22, .agg [.s (.int .u64 w19)], true⟩), (5, none)], 6, none⟩ K = belowF_s4 w19 w18 n s (fun (a26 : Int) (a27 : Int) (a28 : Int) => K .ret ⟨[], [(0, some ⟨3, .agg [.s (.int .i64 n)], true⟩), (1, some ⟨22, .agg [.s (.int .u64 a26)], true⟩), (2, some ⟨3, .agg [.s (.int .i64 a27)], true⟩), (3, some ⟨22, .agg [.s (.int .u64 a28)], true⟩), (4, some ⟨22, .agg [.s (.int .u64 a26)], true⟩), (5, none)], 6, (some .ret)⟩) (fun (a30 : Int) (a31 : Int) (a32 : Int) => K .ret ⟨[], [(0, some ⟨3, .agg [.s (.int .i64 n)], true⟩), (1, some ⟨22, .agg [.s (.int .u64 a30)], true⟩), (2, some ⟨3, .agg [.s (.int .i64 a31)], true⟩), (3, some ⟨22, .agg [.s (.int .u64 a32)], true⟩), (4, some ⟨22, .agg [.s (.int .u64 a30)], true⟩), (5, none)], 6, (some .ret)⟩) (fun (a33 : Int) (a34 : Int) => lpN (sub (bodyOf Tryd.prog 222) [0, 0]) (itX Tryd.prog mode T_div fuel 3 14 6 5 (roundK (evC (sub (bodyOf Tryd.prog 198) [1, 1, 1, 0, 1, 0, 0])) (evC (sub (bodyOf Tryd.prog 198) [1, 1, 1, 0, 1, 0, 1])) (fnX Tryd.prog mode T_div fuel 38 0) #[21, 22] 137430565816 [(0, .s (.int .u64 s)), (3, .ptr 0 1 0 0), (4, .ptr 1 1 0 0), (5, .ptr 2 1 0 0), (7, .ptr 3 1 0 0), (20, .fn (.func 222) [] [.ptr 4 1 0 0])])) 0 [0, 1] k ⟨[(0, .yl 5), (1, .ptr 4 1 0 0)], [(0, some ⟨3, .agg [.s (.int .i64 n)], true⟩), (1, some ⟨22, .agg [.s (.int .u64 0)], true⟩), (2, some ⟨3, .agg [.s (.int .i64 0)], true⟩), (3, some ⟨22, .agg [.s (.int .u64 a33)], true⟩), (4, some ⟨22, .agg [.s (.int .u64 a34)], true⟩), (5, none)], 6, none⟩ K) := by kernel_rfl
noncomputable def belowF_l2 {R : Type} (fuel : Nat) (n : Int) (s : Int) (k0 : Int → Int → Int → Option R) : Nat → Int → Int → Option R
  | 0, _, _ => none
  | k + 1, w18, w19 =>
    (belowF_s4 w19 w18 n s (fun (a26 : Int) (a27 : Int) (a28 : Int) => k0 a26 a27 a28) (fun (a30 : Int) (a31 : Int) (a32 : Int) => k0 a30 a31 a32) (fun (a33 : Int) (a34 : Int) => ( belowF_l2 fuel n s k0 k a33 a34 )))
theorem belowF_l2_eq (fuel : Nat) (n : Int) (s : Int) (K : Ex → St → Option Out) : ∀ (k : Nat) (w18 : Int) (w19 : Int), lpN (sub (bodyOf Tryd.prog 222) [0, 0]) (itX Tryd.prog mode T_div fuel 3 14 6 5 (roundK (evC (sub (bodyOf Tryd.prog 198) [1, 1, 1, 0, 1, 0, 0])) (evC (sub (bodyOf Tryd.prog 198) [1, 1, 1, 0, 1, 0, 1])) (fnX Tryd.prog mode T_div fuel 38 0) #[21, 22] 137430565816 [(0, .s (.int .u64 s)), (3, .ptr 0 1 0 0), (4, .ptr 1 1 0 0), (5, .ptr 2 1 0 0), (7, .ptr 3 1 0 0), (20, .fn (.func 222) [] [.ptr 4 1 0 0])])) 0 [0, 1] k ⟨[(0, .yl 5), (1, .ptr 4 1 0 0)], [(0, some ⟨3, .agg [.s (.int .i64 n)], true⟩), (1, some ⟨22, .agg [.s (.int .u64 0)], true⟩), (2, some ⟨3, .agg [.s (.int .i64 0)], true⟩), (3, some ⟨22, .agg [.s (.int .u64 w18)], true⟩), (4, some ⟨22, .agg [.s (.int .u64 w19)], true⟩), (5, none)], 6, none⟩ K = belowF_l2 fuel n s (fun (y22 : Int) (y23 : Int) (y24 : Int) => K .ret ⟨[], [(0, some ⟨3, .agg [.s (.int .i64 n)], true⟩), (1, some ⟨22, .agg [.s (.int .u64 y22)], true⟩), (2, some ⟨3, .agg [.s (.int .i64 y23)], true⟩), (3, some ⟨22, .agg [.s (.int .u64 y24)], true⟩), (4, some ⟨22, .agg [.s (.int .u64 y22)], true⟩), (5, none)], 6, (some .ret)⟩) k w18 w19
  | 0, _, _ => rfl
  | k + 1, w18, w19 => by
    unfold belowF_l2
    exact (belowF_s4_eq fuel k K w19 w18 n s).trans (congr (congr (congr (Eq.refl (belowF_s4 (R := Out) w19 w18 n s)) (rfl)) (rfl)) (funext fun a33 => funext fun a34 => belowF_l2_eq fuel n s K k a33 a34))
noncomputable def belowF_s5 {R : Type} (x37 : Int) (x38 : Int) (s : Int) (n : Int) (x39 : Int) (c0 : Int → Int → Option R) : Option R :=
  c0 x37 x38
theorem belowF_s5_eq (fuel : Nat)  (x37 : Int) (x38 : Int) (s : Int) (n : Int) (x39 : Int) : (kont (itX Tryd.prog mode T_div fuel 3 14 6 5 (roundK (evC (sub (bodyOf Tryd.prog 198) [1, 1, 1, 0, 1, 0, 0])) (evC (sub (bodyOf Tryd.prog 198) [1, 1, 1, 0, 1, 0, 1])) (fnX Tryd.prog mode T_div fuel 38 0) #[21, 22] 137430565816 [(0, .s (.int .u64 s)), (3, .ptr 0 1 0 0), (4, .ptr 1 1 0 0), (5, .ptr 2 1 0 0), (7, .ptr 3 1 0 0), (20, .fn (.func 222) [] [.ptr 4 1 0 0])])) (bodyOf Tryd.prog 222) [0] 0 (itE (behind ⟨[(0, .s (.int .u64 s)), (3, .ptr 0 1 0 0), (4, .ptr 1 1 0 0), (5, .ptr 2 1 0 0), (7, .ptr 3 1 0 0), (20, .fn (.func 222) [] [.ptr 4 1 0 0])], [(0, some ⟨3, .agg [.s (.int .i64 n)], true⟩), (1, some ⟨22, .agg [.s (.int .u64 0)], true⟩), (2, some ⟨3, .agg [.s (.int .i64 0)], true⟩), (3, some ⟨22, .agg [.s (.int .u64 (18446744073709551616 % (IntKind.u64.wrap (max n 2))))], true⟩), (4, some ⟨22, .agg [.s (.int .u64 s)], true⟩)], 5, none⟩ (kont (fnX Tryd.prog mode T_div fuel 38 0) (bodyOf Tryd.prog 198) [1, 1, 1, 0, 1, 0] 48 (endK Tryd.prog 0 0 198))))) .ret ⟨[], [(0, some ⟨3, .agg [.s (.int .i64 n)], true⟩), (1, some ⟨22, .agg [.s (.int .u64 x37)], true⟩), (2, some ⟨3, .agg [.s (.int .i64 x38)], true⟩), (3, some ⟨22, .agg [.s (.int .u64 x39)], true⟩), (4, some ⟨22, .agg [.s (.int .u64 x37)], true⟩), (5, none)], 6, (some .ret)⟩ = belowF_s5 x37 x38 s n x39 (fun (a40 : Int) (a41 : Int) => some (.tup [.s (.int .u64 a40), .s (.int .i64 a41)], [])) := by kernel_rfl
noncomputable def belowF_s1 {R : Type} (n : Int) (s : Int) (c0 : Option R) (c1 : Int → Int → Option R) : Option R :=
  grd (decide (2 ≤ (IntKind.u64.wrap (max n 2))) && decide ((IntKind.u64.wrap (max n 2)) ≤ 512)) <|
  br (n == 1)
    (c0)
    (c1 (18446744073709551616 % (IntKind.u64.wrap (max n 2))) s)
theorem belowF_s1_eq (fuel : Nat)  (n : Int) (s : Int) : callN Tryd.prog mode T_div fuel 198 [.s (.int .u64 s), .s (.int .i64 n)] [] = belowF_s1 n s (lpN (sub (bodyOf Tryd.prog 222) [0, 0]) (itX Tryd.prog mode T_div fuel 3 14 6 5 (roundK (evC (sub (bodyOf Tryd.prog 198) [1, 1, 1, 0, 1, 0, 0])) (evC (sub (bodyOf Tryd.prog 198) [1, 1, 1, 0, 1, 0, 1])) (fnX Tryd.prog mode T_div fuel 38 0) #[21, 22] 137430565816 [(0, .s (.int .u64 s)), (3, .ptr 0 1 0 0), (4, .ptr 1 1 0 0), (5, .ptr 2 1 0 0), (7, .ptr 3 1 0 0), (20, .fn (.func 222) [] [.ptr 4 1 0 0])])) 0 [0, 1] fuel ⟨[(0, .yl 5), (1, .ptr 4 1 0 0)], [(0, some ⟨3, .agg [.s (.int .i64 n)], true⟩), (1, some ⟨22, .agg [.s (.int .u64 0)], true⟩), (2, some ⟨3, .agg [.s (.int .i64 0)], true⟩), (3, some ⟨22, .agg [.s (.int .u64 0)], true⟩), (4, some ⟨22, .agg [.s (.int .u64 s)], true⟩), (5, none)], 6, none⟩ (kont (itX Tryd.prog mode T_div fuel 3 14 6 5 (roundK (evC (sub (bodyOf Tryd.prog 198) [1, 1, 1, 0, 1, 0, 0])) (evC (sub (bodyOf Tryd.prog 198) [1, 1, 1, 0, 1, 0, 1])) (fnX Tryd.prog mode T_div fuel 38 0) #[21, 22] 137430565816 [(0, .s (.int .u64 s)), (3, .ptr 0 1 0 0), (4, .ptr 1 1 0 0), (5, .ptr 2 1 0 0), (7, .ptr 3 1 0 0), (20, .fn (.func 222) [] [.ptr 4 1 0 0])])) (bodyOf Tryd.prog 222) [0] 0 (itE (behind ⟨[(0, .s (.int .u64 s)), (3, .ptr 0 1 0 0), (4, .ptr 1 1 0 0), (5, .ptr 2 1 0 0), (7, .ptr 3 1 0 0), (20, .fn (.func 222) [] [.ptr 4 1 0 0])], [(0, some ⟨3, .agg [.s (.int .i64 n)], true⟩), (1, some ⟨22, .agg [.s (.int .u64 0)], true⟩), (2, some ⟨3, .agg [.s (.int .i64 0)], true⟩), (3, some ⟨22, .agg [.s (.int .u64 0)], true⟩), (4, some ⟨22, .agg [.s (.int .u64 s)], true⟩)], 5, none⟩ (kont (fnX Tryd.prog mode T_div fuel 38 0) (bodyOf Tryd.prog 198) [1, 1, 1, 0, 1, 0] 48 (endK Tryd.prog 0 0 198)))))) (fun (a35 : Int) (a36 : Int) => lpN (sub (bodyOf Tryd.prog 222) [0, 0]) (itX Tryd.prog mode T_div fuel 3 14 6 5 (roundK (evC (sub (bodyOf Tryd.prog 198) [1, 1, 1, 0, 1, 0, 0])) (evC (sub (bodyOf Tryd.prog 198) [1, 1, 1, 0, 1, 0, 1])) (fnX Tryd.prog mode T_div fuel 38 0) #[21, 22] 137430565816 [(0, .s (.int .u64 s)), (3, .ptr 0 1 0 0), (4, .ptr 1 1 0 0), (5, .ptr 2 1 0 0), (7, .ptr 3 1 0 0), (20, .fn (.func 222) [] [.ptr 4 1 0 0])])) 0 [0, 1] fuel ⟨[(0, .yl 5), (1, .ptr 4 1 0 0)], [(0, some ⟨3, .agg [.s (.int .i64 n)], true⟩), (1, some ⟨22, .agg [.s (.int .u64 0)], true⟩), (2, some ⟨3, .agg [.s (.int .i64 0)], true⟩), (3, some ⟨22, .agg [.s (.int .u64 a35)], true⟩), (4, some ⟨22, .agg [.s (.int .u64 a36)], true⟩), (5, none)], 6, none⟩ (kont (itX Tryd.prog mode T_div fuel 3 14 6 5 (roundK (evC (sub (bodyOf Tryd.prog 198) [1, 1, 1, 0, 1, 0, 0])) (evC (sub (bodyOf Tryd.prog 198) [1, 1, 1, 0, 1, 0, 1])) (fnX Tryd.prog mode T_div fuel 38 0) #[21, 22] 137430565816 [(0, .s (.int .u64 s)), (3, .ptr 0 1 0 0), (4, .ptr 1 1 0 0), (5, .ptr 2 1 0 0), (7, .ptr 3 1 0 0), (20, .fn (.func 222) [] [.ptr 4 1 0 0])])) (bodyOf Tryd.prog 222) [0] 0 (itE (behind ⟨[(0, .s (.int .u64 s)), (3, .ptr 0 1 0 0), (4, .ptr 1 1 0 0), (5, .ptr 2 1 0 0), (7, .ptr 3 1 0 0), (20, .fn (.func 222) [] [.ptr 4 1 0 0])], [(0, some ⟨3, .agg [.s (.int .i64 n)], true⟩), (1, some ⟨22, .agg [.s (.int .u64 0)], true⟩), (2, some ⟨3, .agg [.s (.int .i64 0)], true⟩), (3, some ⟨22, .agg [.s (.int .u64 (18446744073709551616 % (IntKind.u64.wrap (max n 2))))], true⟩), (4, some ⟨22, .agg [.s (.int .u64 s)], true⟩)], 5, none⟩ (kont (fnX Tryd.prog mode T_div fuel 38 0) (bodyOf Tryd.prog 198) [1, 1, 1, 0, 1, 0] 48 (endK Tryd.prog 0 0 198)))))) := by kernel_rfl
noncomputable def belowF {R : Type} (fuel : Nat) (s : Int) (n : Int) (r0 : Int → Int → Option R) : Option R :=
  (belowF_s1 n s ((belowF_l1 fuel n s (fun (x11 : Int) (x12 : Int) => (belowF_s3 x11 x12 s n (fun (a13 : Int) (a14 : Int) => r0 a13 a14))) fuel)) (fun (a35 : Int) (a36 : Int) => (belowF_l2 fuel n s (fun (x37 : Int) (x38 : Int) (x39 : Int) => (belowF_s5 x37 x38 s n x39 (fun (a40 : Int) (a41 : Int) => r0 a40 a41))) fuel a35 a36)))
theorem belowF_eq (fuel : Nat) (s : Int) (n : Int) : callN Tryd.prog mode T_div fuel 198 [.s (.int .u64 s), .s (.int .i64 n)] [] = belowF fuel s n (fun (z0 : Int) (z1 : Int) => some (.tup [.s (.int .u64 z0), .s (.int .i64 z1)], [])) := by
  unfold belowF
  exact (belowF_s1_eq fuel  n s).trans (congr (congr (Eq.refl (belowF_s1 (R := Out) n s)) ((belowF_l1_eq fuel n s (kont (itX Tryd.prog mode T_div fuel 3 14 6 5 (roundK (evC (sub (bodyOf Tryd.prog 198) [1, 1, 1, 0, 1, 0, 0])) (evC (sub (bodyOf Tryd.prog 198) [1, 1, 1, 0, 1, 0, 1])) (fnX Tryd.prog mode T_div fuel 38 0) #[21, 22] 137430565816 [(0, .s (.int .u64 s)), (3, .ptr 0 1 0 0), (4, .ptr 1 1 0 0), (5, .ptr 2 1 0 0), (7, .ptr 3 1 0 0), (20, .fn (.func 222) [] [.ptr 4 1 0 0])])) (bodyOf Tryd.prog 222) [0] 0 (itE (behind ⟨[(0, .s (.int .u64 s)), (3, .ptr 0 1 0 0), (4, .ptr 1 1 0 0), (5, .ptr 2 1 0 0), (7, .ptr 3 1 0 0), (20, .fn (.func 222) [] [.ptr 4 1 0 0])], [(0, some ⟨3, .agg [.s (.int .i64 n)], true⟩), (1, some ⟨22, .agg [.s (.int .u64 0)], true⟩), (2, some ⟨3, .agg [.s (.int .i64 0)], true⟩), (3, some ⟨22, .agg [.s (.int .u64 0)], true⟩), (4, some ⟨22, .agg [.s (.int .u64 s)], true⟩)], 5, none⟩ (kont (fnX Tryd.prog mode T_div fuel 38 0) (bodyOf Tryd.prog 198) [1, 1, 1, 0, 1, 0] 48 (endK Tryd.prog 0 0 198))))) fuel ).trans (congrFun (congr (Eq.refl (belowF_l1 (R := Out) fuel n s)) (funext fun x11 => funext fun x12 => (belowF_s3_eq fuel  x11 x12 s n))) fuel))) (funext fun a35 => funext fun a36 => (belowF_l2_eq fuel n s (kont (itX Tryd.prog mode T_div fuel 3 14 6 5 (roundK (evC (sub (bodyOf Tryd.prog 198) [1, 1, 1, 0, 1, 0, 0])) (evC (sub (bodyOf Tryd.prog 198) [1, 1, 1, 0, 1, 0, 1])) (fnX Tryd.prog mode T_div fuel 38 0) #[21, 22] 137430565816 [(0, .s (.int .u64 s)), (3, .ptr 0 1 0 0), (4, .ptr 1 1 0 0), (5, .ptr 2 1 0 0), (7, .ptr 3 1 0 0), (20, .fn (.func 222) [] [.ptr 4 1 0 0])])) (bodyOf Tryd.prog 222) [0] 0 (itE (behind ⟨[(0, .s (.int .u64 s)), (3, .ptr 0 1 0 0), (4, .ptr 1 1 0 0), (5, .ptr 2 1 0 0), (7, .ptr 3 1 0 0), (20, .fn (.func 222) [] [.ptr 4 1 0 0])], [(0, some ⟨3, .agg [.s (.int .i64 n)], true⟩), (1, some ⟨22, .agg [.s (.int .u64 0)], true⟩), (2, some ⟨3, .agg [.s (.int .i64 0)], true⟩), (3, some ⟨22, .agg [.s (.int .u64 (18446744073709551616 % (IntKind.u64.wrap (max n 2))))], true⟩), (4, some ⟨22, .agg [.s (.int .u64 s)], true⟩)], 5, none⟩ (kont (fnX Tryd.prog mode T_div fuel 38 0) (bodyOf Tryd.prog 198) [1, 1, 1, 0, 1, 0] 48 (endK Tryd.prog 0 0 198))))) fuel a35 a36).trans (congrFun (congrFun (congrFun (congr (Eq.refl (belowF_l2 (R := Out) fuel n s)) (funext fun x37 => funext fun x38 => funext fun x39 => (belowF_s5_eq fuel  x37 x38 s n x39))) fuel) a35) a36)))
theorem below_loop {R : Type} (fuel : Nat) (n s0 rest : Int) (hn : 1 ≤ n) (hn2 : n ≤ 512) (hr : 0 ≤ rest) (hr2 : rest < 512) (k0 : Int → Int → Int → Option R) : ∀ (k : Nat) (s : Int) (r : Int × Int), search rest n k s = some r → belowF_l2 fuel n s0 k0 k rest s = k0 r.1 r.2 rest
  | 0, s, r, h => by cases h
  | k + 1, s, r, h => by
    unfold belowF_l2 belowF_s4
    have hx := mixed_range (nextS s)
    have hw : IntKind.u64.wrap n = n := wrap_u64 (by omega) (by omega)
    have hm1 := Int.emod_nonneg (mixedS (nextS s)) (show n ≠ 0 by omega)
    have hm2 := Int.emod_lt_of_pos (mixedS (nextS s)) (show 0 < n by omega)
    simp only [search] at h
    rw [hw, bnd_of (rem_pos hx.1 (by omega)), wrap_i64 (by omega) (by omega), br_if, br_if]
    by_cases h0 : rest = 0
    · subst h0
      rw [if_pos (by omega)] at h
      cases h
      have : ¬ (mixedS (nextS s) < IntKind.u64.wrap (0 - 0)) := by rw [wrap_u64 (by decide) (by decide)]; omega
      rw [if_neg (by simpa using this)]
      simp
    · rw [wrap_u64_mod, show (0 - rest) % 18446744073709551616 = 18446744073709551616 - rest by omega]
      by_cases hc : mixedS (nextS s) + rest < 18446744073709551616
      · rw [if_pos hc] at h
        cases h
        rw [if_pos (by simp; omega)]
      · rw [if_neg hc] at h
        rw [if_neg (by simp; omega), if_neg (by simpa using h0)]
        exact below_loop fuel n s0 rest hn hn2 hr hr2 k0 k _ r h
theorem below_fact (s : Int) (n : Int) (hg : (decide (0 ≤ s) && decide (s < 18446744073709551616) && decide (1 ≤ n) && decide (n ≤ 512)) = true) : Fact Tryd.prog gTab 198 [.s (.int .u64 s), .s (.int .i64 n)] [] (.tup [.s (.int .u64 ((belowS s n).1)), .s (.int .i64 ((belowS s n).2))], []) := by
  simp only [Bool.and_eq_true, decide_eq_true_eq] at hg
  obtain ⟨⟨⟨h0, h1⟩, hn⟩, hn2⟩ := hg
  have hr := rest_range hn hn2
  obtain ⟨k, r, hs⟩ := search_ends (n := n) h0 h1 (show 18446744073709551616 % n < 18446744073709551616 by omega)
  rw [below_of_search hs]
  refine callN_fact hN hM T_div_ok (n := k + 1) (mode := mode) ?_
  rw [belowF_eq]
  unfold belowF belowF_s1
  have hmx : IntKind.u64.wrap (max n 2) = max n 2 := wrap_u64 (by omega) (by omega)
  rw [hmx, grd_of (by simp; omega), br_if]
  by_cases h : n = 1
  · subst h
    rw [if_pos (by decide)]
    unfold belowF_l1 belowF_s2
    have hx := mixed_range (nextS s)
    have hw : IntKind.u64.wrap 1 = 1 := by decide
    have hm1 := Int.emod_nonneg (mixedS (nextS s)) (show (1 : Int) ≠ 0 by omega)
    have hm2 := Int.emod_lt_of_pos (mixedS (nextS s)) (show (0 : Int) < 1 by omega)
    cases k with
    | zero => cases hs
    | succ k =>
      simp only [search] at hs
      rw [if_pos (by omega)] at hs
      cases hs
      rw [hw, bnd_of (rem_pos hx.1 (by omega)), wrap_i64 (by omega) (by omega), br_if, if_neg (by simp; omega)]
      rfl
  · rw [if_neg (by simpa using h), show max n 2 = n by omega]
    dsimp only
    rw [below_loop (k + 1) n s _ hn hn2 hr.1 hr.2 _ (k + 1) s r (search_more hs 1)]
    rfl
noncomputable def below_ent : List V → List Blk → Option (Bool × Out)
  | [.s (.int .u64 s), .s (.int .i64 n)], [] => some ((decide (0 ≤ s) && decide (s < 18446744073709551616) && decide (1 ≤ n) && decide (n ≤ 512)), (.tup [.s (.int .u64 ((belowS s n).1)), .s (.int .i64 ((belowS s n).2))], []))
  | _, _ => none
theorem below_ok : ∀ args bs out, below_ent args bs = some (true, out) → Fact Tryd.prog gTab 198 args bs out := by
  intro args bs out h
  unfold below_ent at h
  split at h
  · rename_i s n
    simp only [Option.some.injEq, Prod.mk.injEq] at h
    obtain ⟨hg, rfl⟩ := h
    exact below_fact s n hg
  · cases h
noncomputable def T_below : Tbl := Tbl.cons 198 below_ent T_div
theorem T_below_ok : CallOk Tryd.prog gTab T_below := cons_ok T_div_ok below_ok
/-! Orders of random numbers: what they are. -/
def iotaS (n : Nat) : List Int := (List.range n).map Int.ofNat
theorem iota_succ (n : Nat) : iotaS n ++ [(n : Int)] = iotaS (n + 1) := by unfold iotaS; rw [List.range_succ, List.map_append]; rfl
theorem iota_len (n : Nat) : (iotaS n).length = n := by unfold iotaS; simp
def swpS (l : List Int) (i j : Nat) : List Int := (l.set i (l[j]?.getD 0)).set j (l[i]?.getD 0)
theorem swp_len (l : List Int) (i j : Nat) : (swpS l i j).length = l.length := by unfold swpS; simp
noncomputable def swapsS : Nat → Int → List Int → Int × List Int
  | 0, s, l => (s, l)
  | i + 1, s, l => swapsS i (belowS s ((i : Int) + 2)).1 (swpS l (i + 1) (belowS s ((i : Int) + 2)).2.toNat)
noncomputable def shuffleI (s n : Int) : Int × List Int := swapsS (n.toNat - 1) s (iotaS n.toNat)
noncomputable def shuffleS : Int → Int → Int × List Int := Classical.choose (⟨shuffleI, rfl⟩ : ∃ f, f = shuffleI)
theorem shuffleS_eq : shuffleS = shuffleI := Classical.choose_spec (⟨shuffleI, rfl⟩ : ∃ f, f = shuffleI)
def someOk (n many : Int) : Bool := sizedS n && decide (0 ≤ many) && decide (many ≤ n)
def riseI (m : Nat) (xs : List Int) : List Int := ((xs.take m).mergeSort fun x y => decide (x ≤ y)) ++ xs.drop m
noncomputable def sortPre : Nat → List Int → List Int := Classical.choose (⟨riseI, rfl⟩ : ∃ f, f = riseI)
theorem sortPre_eq : sortPre = riseI := Classical.choose_spec (⟨riseI, rfl⟩ : ∃ f, f = riseI)
noncomputable def someI (s n many : Int) : List Int := ((shuffleS s n).2.take many.toNat).mergeSort fun x y => decide (x ≤ y)
noncomputable def someS : Int → Int → Int → List Int := Classical.choose (⟨someI, rfl⟩ : ∃ f, f = someI)
theorem someS_eq : someS = someI := Classical.choose_spec (⟨someI, rfl⟩ : ∃ f, f = someI)
theorem search_range {rest n : Int} {r : Int × Int} (hn : 1 ≤ n) : ∀ {k : Nat} {s : Int}, search rest n k s = some r → (0 ≤ r.1 ∧ r.1 < 18446744073709551616) ∧ 0 ≤ r.2 ∧ r.2 < n
  | 0, s, h => by cases h
  | k + 1, s, h => by
    simp only [search] at h
    split at h
    · cases h
      exact ⟨next_range s, Int.emod_nonneg _ (by omega), Int.emod_lt_of_pos _ (by omega)⟩
    · exact search_range hn h
theorem below_range {s n : Int} (h0 : 0 ≤ s) (h1 : s < 18446744073709551616) (hn : 1 ≤ n) (hn2 : n ≤ 512) : (0 ≤ (belowS s n).1 ∧ (belowS s n).1 < 18446744073709551616) ∧ 0 ≤ (belowS s n).2 ∧ (belowS s n).2 < n := by
  have hr := rest_range hn hn2
  obtain ⟨k, r, hs⟩ := search_ends (n := n) h0 h1 (show 18446744073709551616 % n < 18446744073709551616 by omega)
  rw [below_of_search hs]
  exact search_range hn hs
theorem get_of {l : List Int} {i : Nat} (h : i < l.length) : l[i]? = some (l[i]?.getD 0) := by rw [List.getElem?_eq_getElem h]; rfl
noncomputable def inI (l : List Int) (many n : Int) : Bool := (l.take many.toNat).contains n
noncomputable def inS : List Int → Int → Int → Bool := Classical.choose (⟨inI, rfl⟩ : ∃ f, f = inI)
theorem inS_eq : inS = inI := Classical.choose_spec (⟨inI, rfl⟩ : ∃ f, f = inI)
def eqI_li (a b : List Int) : Bool := decide (a = b)
noncomputable def eqS_li : List Int → List Int → Bool := Classical.choose (⟨eqI_li, rfl⟩ : ∃ f, f = eqI_li)
theorem eqS_li_eq : eqS_li = eqI_li := Classical.choose_spec (⟨eqI_li, rfl⟩ : ∃ f, f = eqI_li)
theorem eqS_li_self (a : List Int) : eqS_li a a = true := by rw [eqS_li_eq]; simp [eqI_li]
theorem swp_perm {l : List Int} {i j : Nat} (hi : i < l.length) (hj : j < l.length) : (swpS l i j).Perm l := by
  have h := List.set_set_perm hi hj
  unfold swpS
  rw [List.getElem?_eq_getElem hi, List.getElem?_eq_getElem hj]
  exact h
theorem swaps_perm : ∀ (i : Nat) (s : Int) (l : List Int), i < l.length → l.length ≤ 512 → 0 ≤ s → s < 18446744073709551616 → (swapsS i s l).2.Perm l
  | 0, s, l, _, _, _, _ => List.Perm.refl _
  | i + 1, s, l, hi, hl, h0, h1 => by
    have hb := below_range (n := (i : Int) + 2) h0 h1 (by omega) (by omega)
    obtain ⟨⟨b0, b1⟩, b2, b3⟩ := hb
    rw [swapsS]
    exact (swaps_perm i _ _ (by rw [swp_len]; omega) (by rw [swp_len]; omega) b0 b1).trans (swp_perm hi (by omega))
theorem iota_nodup (n : Nat) : (iotaS n).Nodup := by
  unfold iotaS
  have h := List.nodup_range (n := n)
  unfold List.Nodup at h ⊢
  rw [List.pairwise_map]
  exact h.imp fun h e => h (by injection e)
theorem mem_iota {n : Nat} {x : Int} : x ∈ iotaS n ↔ 0 ≤ x ∧ x < n := by
  unfold iotaS
  rw [List.mem_map]
  constructor
  · rintro ⟨a, ha, rfl⟩
    rw [List.mem_range] at ha
    exact ⟨Int.natCast_nonneg a, Int.ofNat_lt.2 ha⟩
  · rintro ⟨h0, h1⟩
    exact ⟨x.toNat, List.mem_range.2 (by omega), by show ((x.toNat : Nat) : Int) = x; omega⟩
theorem shuffle_perm {s n : Int} (h0 : 0 ≤ s) (h1 : s < 18446744073709551616) (hn : 1 ≤ n) (hn2 : n ≤ 512) : (shuffleS s n).2.Perm (iotaS n.toNat) := by
  rw [shuffleS_eq]
  unfold shuffleI
  exact swaps_perm _ _ _ (by rw [iota_len]; omega) (by rw [iota_len]; omega) h0 h1
theorem mem_shuffle {s n x : Int} (h0 : 0 ≤ s) (h1 : s < 18446744073709551616) (hn : 1 ≤ n) (hn2 : n ≤ 512) : x ∈ (shuffleS s n).2 ↔ 0 ≤ x ∧ x < n := by
  rw [(shuffle_perm h0 h1 hn hn2).mem_iff, mem_iota]
  omega
theorem shuffle_nodup {s n : Int} (h0 : 0 ≤ s) (h1 : s < 18446744073709551616) (hn : 1 ≤ n) (hn2 : n ≤ 512) : (shuffleS s n).2.Nodup := (shuffle_perm h0 h1 hn hn2).nodup_iff.2 (iota_nodup _)
def pickS (p : Int → Bool) : Nat → Int → List Int
  | 0, _ => []
  | k + 1, i => if p i = true then i :: pickS p k (i + 1) else pickS p k (i + 1)
theorem mem_pick {p : Int → Bool} {x : Int} : ∀ {k : Nat} {i : Int}, x ∈ pickS p k i ↔ i ≤ x ∧ x < i + k ∧ p x = true
  | 0, i => by simp [pickS]; omega
  | k + 1, i => by
    have ih := mem_pick (p := p) (x := x) (k := k) (i := i + 1)
    rw [pickS]
    split
    · rename_i hp
      rw [List.mem_cons, ih]
      constructor
      · rintro (rfl | ⟨a, b, c⟩)
        · exact ⟨by omega, by omega, hp⟩
        · exact ⟨by omega, by omega, c⟩
      · rintro ⟨a, b, c⟩
        by_cases h : x = i
        · exact .inl h
        · exact .inr ⟨by omega, by omega, c⟩
    · rename_i hp
      rw [ih]
      constructor
      · rintro ⟨a, b, c⟩; exact ⟨by omega, by omega, c⟩
      · rintro ⟨a, b, c⟩
        have : x ≠ i := by rintro rfl; exact hp c
        exact ⟨by omega, by omega, c⟩
theorem pick_rise {p : Int → Bool} : ∀ {k : Nat} {i : Int}, (pickS p k i).Pairwise (· < ·)
  | 0, i => List.Pairwise.nil
  | k + 1, i => by
    rw [pickS]
    split
    · exact List.pairwise_cons.2 ⟨fun x hx => by have := (mem_pick.1 hx).1; omega, pick_rise⟩
    · exact pick_rise
theorem mem_some {s n many x : Int} : x ∈ someS s n many ↔ x ∈ (shuffleS s n).2.take many.toNat := by rw [someS_eq]; exact List.mem_mergeSort
theorem some_perm (s n many : Int) : (someS s n many).Perm ((shuffleS s n).2.take many.toNat) := by rw [someS_eq]; exact List.mergeSort_perm _ _
theorem some_rise (s n many : Int) : (someS s n many).Pairwise (· ≤ ·) := by
  rw [someS_eq]
  have := List.pairwise_mergeSort (le := fun x y : Int => decide (x ≤ y)) (fun a b c h1 h2 => by simp only [decide_eq_true_eq] at h1 h2 ⊢; omega) (fun a b => by simp; omega) ((shuffleS s n).2.take many.toNat)
  exact this.imp fun h => by simpa using h
theorem some_nodup {s n many : Int} (h0 : 0 ≤ s) (h1 : s < 18446744073709551616) (hn : 1 ≤ n) (hn2 : n ≤ 512) : (someS s n many).Nodup := (some_perm s n many).nodup_iff.2 ((shuffle_nodup h0 h1 hn hn2).sublist (List.take_sublist _ _))
theorem some_pick {s n many : Int} (h0 : 0 ≤ s) (h1 : s < 18446744073709551616) (hn : 1 ≤ n) (hn2 : n ≤ 512) : someS s n many = pickS (inS (shuffleS s n).2 many) n.toNat 0 := by
  refine List.Perm.eq_of_pairwise (le := (· ≤ ·)) (fun a b _ _ h h' => by omega) (some_rise s n many) (pick_rise.imp fun h => by omega) ?_
  refine (List.perm_ext_iff_of_nodup (some_nodup h0 h1 hn hn2) (pick_rise.imp fun h => by omega)).2 fun x => ?_
  rw [mem_some, mem_pick, inS_eq]
  unfold inI
  rw [List.contains_iff_mem]
  constructor
  · intro h
    have := (mem_shuffle h0 h1 hn hn2).1 ((List.take_sublist _ _).subset h)
    exact ⟨by omega, by omega, h⟩
  · exact fun h => h.2.2
theorem swaps_len : ∀ (i : Nat) (s : Int) (l : List Int), (swapsS i s l).2.length = l.length
  | 0, s, l => rfl
  | i + 1, s, l => by rw [swapsS, swaps_len i, swp_len]
theorem shuffle_len (s n : Int) : (shuffleS s n).2.length = n.toNat := by rw [shuffleS_eq]; unfold shuffleI; rw [swaps_len, iota_len]
theorem some_len {s n many : Int} (h : 0 ≤ many) (h2 : many ≤ n) : (someS s n many).length = many.toNat := by
  rw [(some_perm s n many).length_eq, List.length_take, shuffle_len]; omega
def mode1 : FuncId → Nat := fun f => bif Nat.beq f 178 then 2 else bif Nat.beq f 177 then 2 else 0
/-! downpour/random.Shuffle -/
noncomputable def shufOwnF_s3 {R : Type} (w11 : Int) (n : Int) (w12 : List Int) (w10 : Nat) (s : Int) (c0 : Nat → Int → List Int → Option R) (c1 : Nat → List Int → Option R) : Option R :=
  br (decide (w11 < n))
    (grd (Nat.beq w12.length w10) <|
    grd (okN (w10 + 1) 8) <|
    c0 ((w12 ++ [w11]).length) (IntKind.i64.wrap (w11 + 1)) (w12 ++ [w11]))
    (c1 w10 w12)
theorem shufOwnF_s3_eq (fuel : Nat) (k : Nat) (K : Ex → St → Option Out) (w11 : Int) (n : Int) (w12 : List Int) (w10 : Nat) (s : Int) : lpN (sub (bodyOf Tryd.prog 177) [1, 1, 1, 0, 1, 0, 0]) (fnX Tryd.prog mode1 T_below fuel 52 0) 4503599618983667 [0, 1, 4, 5, 6, 7, 14, 15] (k + 1) ⟨[(0, .s (.int .u64 s)), (1, .s (.int .i64 n)), (4, .s (.int .u64 0)), (5, .s (.slice none 0 0)), (6, .s (.int .i64 0)), (7, .sl 0 1 0 w10), (14, .s (.int .i64 n)), (15, .s (.int .i64 w11))], [(0, some ⟨3, .li .i64 w12, true⟩)], 1, none⟩ K = shufOwnF_s3 w11 n w12 w10 s (fun (a15 : Nat) (a16 : Int) (a17 : List Int) => lpN (sub (bodyOf Tryd.prog 177) [1, 1, 1, 0, 1, 0, 0]) (fnX Tryd.prog mode1 T_below fuel 52 0) 4503599618983667 [0, 1, 4, 5, 6, 7, 14, 15] k ⟨[(0, .s (.int .u64 s)), (1, .s (.int .i64 n)), (4, .s (.int .u64 0)), (5, .s (.slice none 0 0)), (6, .s (.int .i64 0)), (7, .sl 0 1 0 a15), (14, .s (.int .i64 n)), (15, .s (.int .i64 a16))], [(0, some ⟨3, .li .i64 a17, true⟩)], 1, none⟩ K) (fun (a18 : Nat) (a19 : List Int) => K (.exit 0) ⟨[(0, .s (.int .u64 s)), (1, .s (.int .i64 n)), (4, .s (.int .u64 0)), (5, .s (.slice none 0 0)), (6, .s (.int .i64 0)), (7, .sl 0 1 0 a18)], [(0, some ⟨3, .li .i64 a19, true⟩)], 1, none⟩) := by kernel_rfl
noncomputable def shufOwnF_l2 {R : Type} (fuel : Nat) (s : Int) (n : Int) (k0 : Nat → List Int → Option R) : Nat → Nat → Int → List Int → Option R
  | 0, _, _, _ => none
  | k + 1, w10, w11, w12 =>
    (shufOwnF_s3 w11 n w12 w10 s (fun (a15 : Nat) (a16 : Int) (a17 : List Int) => ( shufOwnF_l2 fuel s n k0 k a15 a16 a17 )) (fun (a18 : Nat) (a19 : List Int) => k0 a18 a19))
theorem shufOwnF_l2_eq (fuel : Nat) (s : Int) (n : Int) (K : Ex → St → Option Out) : ∀ (k : Nat) (w10 : Nat) (w11 : Int) (w12 : List Int), lpN (sub (bodyOf Tryd.prog 177) [1, 1, 1, 0, 1, 0, 0]) (fnX Tryd.prog mode1 T_below fuel 52 0) 4503599618983667 [0, 1, 4, 5, 6, 7, 14, 15] k ⟨[(0, .s (.int .u64 s)), (1, .s (.int .i64 n)), (4, .s (.int .u64 0)), (5, .s (.slice none 0 0)), (6, .s (.int .i64 0)), (7, .sl 0 1 0 w10), (14, .s (.int .i64 n)), (15, .s (.int .i64 w11))], [(0, some ⟨3, .li .i64 w12, true⟩)], 1, none⟩ K = shufOwnF_l2 fuel s n (fun (y13 : Nat) (y14 : List Int) => K (.exit 0) ⟨[(0, .s (.int .u64 s)), (1, .s (.int .i64 n)), (4, .s (.int .u64 0)), (5, .s (.slice none 0 0)), (6, .s (.int .i64 0)), (7, .sl 0 1 0 y13)], [(0, some ⟨3, .li .i64 y14, true⟩)], 1, none⟩) k w10 w11 w12
  | 0, _, _, _ => rfl
  | k + 1, w10, w11, w12 => by
    unfold shufOwnF_l2
    exact (shufOwnF_s3_eq fuel k K w11 n w12 w10 s).trans (congr (congr (Eq.refl (shufOwnF_s3 (R := Out) w11 n w12 w10 s)) (funext fun a15 => funext fun a16 => funext fun a17 => shufOwnF_l2_eq fuel s n K k a15 a16 a17)) (rfl))
noncomputable def shufOwnF_s2 {R : Type} (n : Int) (s : Int) (c0 : Nat → Int → List Int → Option R) (c1 : Option R) : Option R :=
  br (decide (0 < n))
    (c0 1 1 ([0]))
    (c1)
theorem shufOwnF_s2_eq (fuel : Nat) (k : Nat) (K : Ex → St → Option Out) (n : Int) (s : Int) : lpN (sub (bodyOf Tryd.prog 177) [1, 1, 1, 0, 1, 0, 0]) (fnX Tryd.prog mode1 T_below fuel 52 0) 4503599618983667 [0, 1, 4, 5, 6, 7, 14, 15] (k + 1) ⟨[(0, .s (.int .u64 s)), (1, .s (.int .i64 n)), (4, .s (.int .u64 0)), (5, .s (.slice none 0 0)), (6, .s (.int .i64 0)), (7, .s (.slice none 0 0)), (14, .s (.int .i64 n)), (15, .s (.int .i64 0))], [], 0, none⟩ K = shufOwnF_s2 n s (fun (a20 : Nat) (a21 : Int) (a22 : List Int) => lpN (sub (bodyOf Tryd.prog 177) [1, 1, 1, 0, 1, 0, 0]) (fnX Tryd.prog mode1 T_below fuel 52 0) 4503599618983667 [0, 1, 4, 5, 6, 7, 14, 15] k ⟨[(0, .s (.int .u64 s)), (1, .s (.int .i64 n)), (4, .s (.int .u64 0)), (5, .s (.slice none 0 0)), (6, .s (.int .i64 0)), (7, .sl 0 1 0 a20), (14, .s (.int .i64 n)), (15, .s (.int .i64 a21))], [(0, some ⟨3, .li .i64 a22, true⟩)], 1, none⟩ K) (K (.exit 0) ⟨[(0, .s (.int .u64 s)), (1, .s (.int .i64 n)), (4, .s (.int .u64 0)), (5, .s (.slice none 0 0)), (6, .s (.int .i64 0)), (7, .s (.slice none 0 0))], [], 0, none⟩) := by kernel_rfl
noncomputable def shufOwnF_l1 {R : Type} (fuel : Nat) (s : Int) (n : Int) (k0 : Nat → List Int → Option R) (k1 : Option R) : Nat → Option R
  | 0 => none
  | k + 1 =>
    (shufOwnF_s2 n s (fun (a20 : Nat) (a21 : Int) (a22 : List Int) => (shufOwnF_l2 fuel s n (fun (x23 : Nat) (x24 : List Int) => k0 x23 x24) k a20 a21 a22)) (k1))
theorem shufOwnF_l1_eq (fuel : Nat) (s : Int) (n : Int) (K : Ex → St → Option Out) : ∀ (k : Nat) , lpN (sub (bodyOf Tryd.prog 177) [1, 1, 1, 0, 1, 0, 0]) (fnX Tryd.prog mode1 T_below fuel 52 0) 4503599618983667 [0, 1, 4, 5, 6, 7, 14, 15] k ⟨[(0, .s (.int .u64 s)), (1, .s (.int .i64 n)), (4, .s (.int .u64 0)), (5, .s (.slice none 0 0)), (6, .s (.int .i64 0)), (7, .s (.slice none 0 0)), (14, .s (.int .i64 n)), (15, .s (.int .i64 0))], [], 0, none⟩ K = shufOwnF_l1 fuel s n (fun (y8 : Nat) (y9 : List Int) => K (.exit 0) ⟨[(0, .s (.int .u64 s)), (1, .s (.int .i64 n)), (4, .s (.int .u64 0)), (5, .s (.slice none 0 0)), (6, .s (.int .i64 0)), (7, .sl 0 1 0 y8)], [(0, some ⟨3, .li .i64 y9, true⟩)], 1, none⟩) (K (.exit 0) ⟨[(0, .s (.int .u64 s)), (1, .s (.int .i64 n)), (4, .s (.int .u64 0)), (5, .s (.slice none 0 0)), (6, .s (.int .i64 0)), (7, .s (.slice none 0 0))], [], 0, none⟩) k 
  | 0 => rfl
  | k + 1 => by
    unfold shufOwnF_l1
    exact (shufOwnF_s2_eq fuel k K n s).trans (congr (congr (Eq.refl (shufOwnF_s2 (R := Out) n s)) (funext fun a20 => funext fun a21 => funext fun a22 => shufOwnF_l2_eq fuel s n K k a20 a21 a22)) (rfl))
noncomputable def shufOwnF_s5 {R : Type} (w37 : Int) (w36 : Int) (x25 : Nat) (w38 : List Int) (c0 : Int → Int → List Int → Option R) (c1 : Int → List Int → Option R) : Option R :=
  br (decide (w37 > 0))
    (grd (decide (0 ≤ w36) && decide (w36 < 18446744073709551616) && decide (1 ≤ (IntKind.i64.wrap (w37 + 1))) && decide ((IntKind.i64.wrap (w37 + 1)) ≤ 512)) <|
    bnd (below ((belowS w36 (IntKind.i64.wrap (w37 + 1))).2) x25) fun j49 =>
    bnd (w38[(0 + j49)]?) fun e50 =>
    bnd (below w37 x25) fun j51 =>
    bnd (w38[(0 + j51)]?) fun e52 =>
    bnd (below w37 x25) fun j53 =>
    bnd (w38[(0 + j53)]?) fun e54 =>
    bnd (below ((belowS w36 (IntKind.i64.wrap (w37 + 1))).2) x25) fun j55 =>
    bnd ((w38.set (0 + j53) e50)[(0 + j55)]?) fun e56 =>
    c0 ((belowS w36 (IntKind.i64.wrap (w37 + 1))).1) (IntKind.i64.wrap (w37 - 1)) ((w38.set (0 + j53) e50).set (0 + j55) e52))
    (c1 w36 w38)
theorem shufOwnF_s5_eq (fuel : Nat) (k : Nat) (K : Ex → St → Option Out) (w37 : Int) (w36 : Int) (x25 : Nat) (w38 : List Int) : lpN (sub (bodyOf Tryd.prog 177) [1, 1, 1, 1, 0, 1, 0, 0]) (fnX Tryd.prog mode1 T_below fuel 52 0) 3377699720528113 [0, 4, 5, 6, 7, 9] (k + 1) ⟨[(0, .s (.int .u64 w36)), (4, .s (.int .u64 0)), (5, .s (.slice none 0 0)), (6, .s (.int .i64 0)), (7, .sl 0 1 0 x25), (9, .s (.int .i64 w37))], [(0, some ⟨3, .li .i64 w38, true⟩)], 1, none⟩ K = shufOwnF_s5 w37 w36 x25 w38 (fun (a57 : Int) (a58 : Int) (a59 : List Int) => lpN (sub (bodyOf Tryd.prog 177) [1, 1, 1, 1, 0, 1, 0, 0]) (fnX Tryd.prog mode1 T_below fuel 52 0) 3377699720528113 [0, 4, 5, 6, 7, 9] k ⟨[(0, .s (.int .u64 a57)), (4, .s (.int .u64 0)), (5, .s (.slice none 0 0)), (6, .s (.int .i64 0)), (7, .sl 0 1 0 x25), (9, .s (.int .i64 a58))], [(0, some ⟨3, .li .i64 a59, true⟩)], 1, none⟩ K) (fun (a60 : Int) (a61 : List Int) => K (.exit 2) ⟨[(0, .s (.int .u64 a60)), (4, .s (.int .u64 0)), (5, .s (.slice none 0 0)), (6, .s (.int .i64 0)), (7, .sl 0 1 0 x25)], [(0, some ⟨3, .li .i64 a61, true⟩)], 1, none⟩) := by kernel_rfl
noncomputable def shufOwnF_l3 {R : Type} (fuel : Nat) (x25 : Nat) (k0 : Int → List Int → Option R) : Nat → Int → Int → List Int → Option R
  | 0, _, _, _ => none
  | k + 1, w36, w37, w38 =>
    (shufOwnF_s5 w37 w36 x25 w38 (fun (a57 : Int) (a58 : Int) (a59 : List Int) => ( shufOwnF_l3 fuel x25 k0 k a57 a58 a59 )) (fun (a60 : Int) (a61 : List Int) => k0 a60 a61))
theorem shufOwnF_l3_eq (fuel : Nat) (x25 : Nat) (K : Ex → St → Option Out) : ∀ (k : Nat) (w36 : Int) (w37 : Int) (w38 : List Int), lpN (sub (bodyOf Tryd.prog 177) [1, 1, 1, 1, 0, 1, 0, 0]) (fnX Tryd.prog mode1 T_below fuel 52 0) 3377699720528113 [0, 4, 5, 6, 7, 9] k ⟨[(0, .s (.int .u64 w36)), (4, .s (.int .u64 0)), (5, .s (.slice none 0 0)), (6, .s (.int .i64 0)), (7, .sl 0 1 0 x25), (9, .s (.int .i64 w37))], [(0, some ⟨3, .li .i64 w38, true⟩)], 1, none⟩ K = shufOwnF_l3 fuel x25 (fun (y47 : Int) (y48 : List Int) => K (.exit 2) ⟨[(0, .s (.int .u64 y47)), (4, .s (.int .u64 0)), (5, .s (.slice none 0 0)), (6, .s (.int .i64 0)), (7, .sl 0 1 0 x25)], [(0, some ⟨3, .li .i64 y48, true⟩)], 1, none⟩) k w36 w37 w38
  | 0, _, _, _ => rfl
  | k + 1, w36, w37, w38 => by
    unfold shufOwnF_l3
    exact (shufOwnF_s5_eq fuel k K w37 w36 x25 w38).trans (congr (congr (Eq.refl (shufOwnF_s5 (R := Out) w37 w36 x25 w38)) (funext fun a57 => funext fun a58 => funext fun a59 => shufOwnF_l3_eq fuel x25 K k a57 a58 a59)) (rfl))
noncomputable def shufOwnF_s6 {R : Type} (x65 : Int) (x25 : Nat) (x66 : List Int) (c0 : Int → Nat → Nat → Int → List Int → Option R) : Option R :=
  c0 x65 0 x25 0 x66
theorem shufOwnF_s6_eq (fuel : Nat)  (x65 : Int) (x25 : Nat) (x66 : List Int) : (kont (fnX Tryd.prog mode1 T_below fuel 52 0) (bodyOf Tryd.prog 177) [1, 1, 1, 1, 0, 1, 0] 112 (endK Tryd.prog 2 0 177)) (.exit 2) ⟨[(0, .s (.int .u64 x65)), (4, .s (.int .u64 0)), (5, .s (.slice none 0 0)), (6, .s (.int .i64 0)), (7, .sl 0 1 0 x25)], [(0, some ⟨3, .li .i64 x66, true⟩)], 1, none⟩ = shufOwnF_s6 x65 x25 x66 (fun (a67 : Int) (a68 : Nat) (a69 : Nat) (a70 : Int) (a71 : List Int) => some (.tup [.s (.int .u64 a67), .sl 0 1 a68 a69, .s (.int .i64 a70)], [some ⟨3, .li .i64 a71, true⟩])) := by kernel_rfl
noncomputable def shufOwnF_s4 {R : Type} (s : Int) (n : Int) (x26 : List Int) (x25 : Nat) (c0 : Int → Int → List Int → Option R) : Option R :=
  c0 s (IntKind.i64.wrap (n - 1)) x26
theorem shufOwnF_s4_eq (fuel : Nat)  (s : Int) (n : Int) (x26 : List Int) (x25 : Nat) : (kont (fnX Tryd.prog mode1 T_below fuel 52 0) (bodyOf Tryd.prog 177) [1, 1, 1, 0, 1, 0] 112 (endK Tryd.prog 2 0 177)) (.exit 0) ⟨[(0, .s (.int .u64 s)), (1, .s (.int .i64 n)), (4, .s (.int .u64 0)), (5, .s (.slice none 0 0)), (6, .s (.int .i64 0)), (7, .sl 0 1 0 x25)], [(0, some ⟨3, .li .i64 x26, true⟩)], 1, none⟩ = shufOwnF_s4 s n x26 x25 (fun (a62 : Int) (a63 : Int) (a64 : List Int) => lpN (sub (bodyOf Tryd.prog 177) [1, 1, 1, 1, 0, 1, 0, 0]) (fnX Tryd.prog mode1 T_below fuel 52 0) 3377699720528113 [0, 4, 5, 6, 7, 9] fuel ⟨[(0, .s (.int .u64 a62)), (4, .s (.int .u64 0)), (5, .s (.slice none 0 0)), (6, .s (.int .i64 0)), (7, .sl 0 1 0 x25), (9, .s (.int .i64 a63))], [(0, some ⟨3, .li .i64 a64, true⟩)], 1, none⟩ (kont (fnX Tryd.prog mode1 T_below fuel 52 0) (bodyOf Tryd.prog 177) [1, 1, 1, 1, 0, 1, 0] 112 (endK Tryd.prog 2 0 177))) := by kernel_rfl
noncomputable def shufOwnF_s8 {R : Type} (w72 : Int) (s : Int) (c0 : Option R) : Option R :=
  br (decide (w72 > 0))
    (grd (decide (0 ≤ s) && decide (s < 18446744073709551616) && decide (1 ≤ (IntKind.i64.wrap (w72 + 1))) && decide ((IntKind.i64.wrap (w72 + 1)) ≤ 512)) <|
    none)
    (c0)
theorem shufOwnF_s8_eq (fuel : Nat) (k : Nat) (K : Ex → St → Option Out) (w72 : Int) (s : Int) : lpN (sub (bodyOf Tryd.prog 177) [1, 1, 1, 1, 0, 1, 0, 0]) (fnX Tryd.prog mode1 T_below fuel 52 0) 3377699720528113 [0, 4, 5, 6, 7, 9] (k + 1) ⟨[(0, .s (.int .u64 s)), (4, .s (.int .u64 0)), (5, .s (.slice none 0 0)), (6, .s (.int .i64 0)), (7, .s (.slice none 0 0)), (9, .s (.int .i64 w72))], [], 0, none⟩ K = shufOwnF_s8 w72 s (K (.exit 2) ⟨[(0, .s (.int .u64 s)), (4, .s (.int .u64 0)), (5, .s (.slice none 0 0)), (6, .s (.int .i64 0)), (7, .s (.slice none 0 0))], [], 0, none⟩) := by kernel_rfl
noncomputable def shufOwnF_l4 {R : Type} (fuel : Nat) (s : Int) (k0 : Option R) : Nat → Int → Option R
  | 0, _ => none
  | k + 1, w72 =>
    (shufOwnF_s8 w72 s (k0))
theorem shufOwnF_l4_eq (fuel : Nat) (s : Int) (K : Ex → St → Option Out) : ∀ (k : Nat) (w72 : Int), lpN (sub (bodyOf Tryd.prog 177) [1, 1, 1, 1, 0, 1, 0, 0]) (fnX Tryd.prog mode1 T_below fuel 52 0) 3377699720528113 [0, 4, 5, 6, 7, 9] k ⟨[(0, .s (.int .u64 s)), (4, .s (.int .u64 0)), (5, .s (.slice none 0 0)), (6, .s (.int .i64 0)), (7, .s (.slice none 0 0)), (9, .s (.int .i64 w72))], [], 0, none⟩ K = shufOwnF_l4 fuel s (K (.exit 2) ⟨[(0, .s (.int .u64 s)), (4, .s (.int .u64 0)), (5, .s (.slice none 0 0)), (6, .s (.int .i64 0)), (7, .s (.slice none 0 0))], [], 0, none⟩) k w72
  | 0, _ => rfl
  | k + 1, w72 => by
    unfold shufOwnF_l4
    exact (shufOwnF_s8_eq fuel k K w72 s)
noncomputable def shufOwnF_s9 {R : Type} (s : Int) (c0 : Int → Int → Option R) : Option R :=
  c0 s 0
theorem shufOwnF_s9_eq (fuel : Nat)  (s : Int) : (kont (fnX Tryd.prog mode1 T_below fuel 52 0) (bodyOf Tryd.prog 177) [1, 1, 1, 1, 0, 1, 0] 112 (endK Tryd.prog 2 0 177)) (.exit 2) ⟨[(0, .s (.int .u64 s)), (4, .s (.int .u64 0)), (5, .s (.slice none 0 0)), (6, .s (.int .i64 0)), (7, .s (.slice none 0 0))], [], 0, none⟩ = shufOwnF_s9 s (fun (a74 : Int) (a75 : Int) => some (.tup [.s (.int .u64 a74), .s (.slice none 0 0), .s (.int .i64 a75)], [])) := by kernel_rfl
noncomputable def shufOwnF_s7 {R : Type} (n : Int) (s : Int) (c0 : Int → Option R) : Option R :=
  c0 (IntKind.i64.wrap (n - 1))
theorem shufOwnF_s7_eq (fuel : Nat)  (n : Int) (s : Int) : (kont (fnX Tryd.prog mode1 T_below fuel 52 0) (bodyOf Tryd.prog 177) [1, 1, 1, 0, 1, 0] 112 (endK Tryd.prog 2 0 177)) (.exit 0) ⟨[(0, .s (.int .u64 s)), (1, .s (.int .i64 n)), (4, .s (.int .u64 0)), (5, .s (.slice none 0 0)), (6, .s (.int .i64 0)), (7, .s (.slice none 0 0))], [], 0, none⟩ = shufOwnF_s7 n s (fun (a73 : Int) => lpN (sub (bodyOf Tryd.prog 177) [1, 1, 1, 1, 0, 1, 0, 0]) (fnX Tryd.prog mode1 T_below fuel 52 0) 3377699720528113 [0, 4, 5, 6, 7, 9] fuel ⟨[(0, .s (.int .u64 s)), (4, .s (.int .u64 0)), (5, .s (.slice none 0 0)), (6, .s (.int .i64 0)), (7, .s (.slice none 0 0)), (9, .s (.int .i64 a73))], [], 0, none⟩ (kont (fnX Tryd.prog mode1 T_below fuel 52 0) (bodyOf Tryd.prog 177) [1, 1, 1, 1, 0, 1, 0] 112 (endK Tryd.prog 2 0 177))) := by kernel_rfl
noncomputable def shufOwnF_s1 {R : Type} (n : Int) (s : Int) (c0 : Int → Int → Option R) (c1 : Option R) : Option R :=
  br (!(sizedS n))
    (c0 0 2)
    (c1)
theorem shufOwnF_s1_eq (fuel : Nat)  (n : Int) (s : Int) : callN Tryd.prog mode1 T_below fuel 177 [.s (.int .u64 s), .s (.int .i64 n)] [] = shufOwnF_s1 n s (fun (a1 : Int) (a2 : Int) => some (.tup [.s (.int .u64 a1), .s (.slice none 0 0), .s (.int .i64 a2)], [])) (lpN (sub (bodyOf Tryd.prog 177) [1, 1, 1, 0, 1, 0, 0]) (fnX Tryd.prog mode1 T_below fuel 52 0) 4503599618983667 [0, 1, 4, 5, 6, 7, 14, 15] fuel ⟨[(0, .s (.int .u64 s)), (1, .s (.int .i64 n)), (4, .s (.int .u64 0)), (5, .s (.slice none 0 0)), (6, .s (.int .i64 0)), (7, .s (.slice none 0 0)), (14, .s (.int .i64 n)), (15, .s (.int .i64 0))], [], 0, none⟩ (kont (fnX Tryd.prog mode1 T_below fuel 52 0) (bodyOf Tryd.prog 177) [1, 1, 1, 0, 1, 0] 112 (endK Tryd.prog 2 0 177))) := by kernel_rfl
noncomputable def shufOwnF {R : Type} (fuel : Nat) (s : Int) (n : Int) (r0 : Int → Int → Option R) (r1 : Int → Nat → Nat → Int → List Int → Option R) : Option R :=
  (shufOwnF_s1 n s (fun (a1 : Int) (a2 : Int) => r0 a1 a2) ((shufOwnF_l1 fuel s n (fun (x25 : Nat) (x26 : List Int) => (shufOwnF_s4 s n x26 x25 (fun (a62 : Int) (a63 : Int) (a64 : List Int) => (shufOwnF_l3 fuel x25 (fun (x65 : Int) (x66 : List Int) => (shufOwnF_s6 x65 x25 x66 (fun (a67 : Int) (a68 : Nat) (a69 : Nat) (a70 : Int) (a71 : List Int) => r1 a67 a68 a69 a70 a71))) fuel a62 a63 a64)))) ((shufOwnF_s7 n s (fun (a73 : Int) => (shufOwnF_l4 fuel s ((shufOwnF_s9 s (fun (a74 : Int) (a75 : Int) => r0 a74 a75))) fuel a73)))) fuel)))
theorem shufOwnF_eq (fuel : Nat) (s : Int) (n : Int) : callN Tryd.prog mode1 T_below fuel 177 [.s (.int .u64 s), .s (.int .i64 n)] [] = shufOwnF fuel s n (fun (z0 : Int) (z1 : Int) => some (.tup [.s (.int .u64 z0), .s (.slice none 0 0), .s (.int .i64 z1)], [])) (fun (z0 : Int) (z1 : Nat) (z2 : Nat) (z3 : Int) (z4 : List Int) => some (.tup [.s (.int .u64 z0), .sl 0 1 z1 z2, .s (.int .i64 z3)], [some ⟨3, .li .i64 z4, true⟩])) := by
  unfold shufOwnF
  exact (shufOwnF_s1_eq fuel  n s).trans (congr (congr (Eq.refl (shufOwnF_s1 (R := Out) n s)) (rfl)) ((shufOwnF_l1_eq fuel s n (kont (fnX Tryd.prog mode1 T_below fuel 52 0) (bodyOf Tryd.prog 177) [1, 1, 1, 0, 1, 0] 112 (endK Tryd.prog 2 0 177)) fuel ).trans (congrFun (congr (congr (Eq.refl (shufOwnF_l1 (R := Out) fuel s n)) (funext fun x25 => funext fun x26 => (shufOwnF_s4_eq fuel  s n x26 x25).trans (congr (Eq.refl (shufOwnF_s4 (R := Out) s n x26 x25)) (funext fun a62 => funext fun a63 => funext fun a64 => (shufOwnF_l3_eq fuel x25 (kont (fnX Tryd.prog mode1 T_below fuel 52 0) (bodyOf Tryd.prog 177) [1, 1, 1, 1, 0, 1, 0] 112 (endK Tryd.prog 2 0 177)) fuel a62 a63 a64).trans (congrFun (congrFun (congrFun (congrFun (congr (Eq.refl (shufOwnF_l3 (R := Out) fuel x25)) (funext fun x65 => funext fun x66 => (shufOwnF_s6_eq fuel  x65 x25 x66))) fuel) a62) a63) a64))))) ((shufOwnF_s7_eq fuel  n s).trans (congr (Eq.refl (shufOwnF_s7 (R := Out) n s)) (funext fun a73 => (shufOwnF_l4_eq fuel s (kont (fnX Tryd.prog mode1 T_below fuel 52 0) (bodyOf Tryd.prog 177) [1, 1, 1, 1, 0, 1, 0] 112 (endK Tryd.prog 2 0 177)) fuel a73).trans (congrFun (congrFun (congr (Eq.refl (shufOwnF_l4 (R := Out) fuel s)) ((shufOwnF_s9_eq fuel  s))) fuel) a73))))) fuel)))
theorem shufOwn_app {R : Type} (fuel : Nat) (s n : Int) (k0 : Nat → List Int → Option R) (h1 : 1 ≤ n) (h2 : n ≤ 512) : ∀ (k j : Nat), (j : Int) ≤ n → n < (j : Int) + k → shufOwnF_l2 fuel s n k0 k j (j : Int) (iotaS j) = k0 n.toNat (iotaS n.toNat)
  | 0, j, hj, hk => by omega
  | k + 1, j, hj, hk => by
    unfold shufOwnF_l2 shufOwnF_s3
    rw [br_if]
    by_cases hc : (j : Int) < n
    · rw [if_pos (by simpa using hc), iota_len, grd_of (beq_self _), grd_of (okN_of (by omega) (by omega)), iota_succ, iota_len, wrap_i64 (by omega) (by omega), show (j : Int) + 1 = ((j + 1 : Nat) : Int) by omega]
      exact shufOwn_app fuel s n k0 h1 h2 k (j + 1) (by omega) (by omega)
    · rw [if_neg (by simpa using hc), show n.toNat = j by omega]
theorem shufOwn_swaps {R : Type} (fuel m : Nat) (hm : m ≤ 512) (k0 : Int → List Int → Option R) : ∀ (i k : Nat) (s : Int) (l : List Int), l.length = m → i < m → 0 ≤ s → s < 18446744073709551616 → i < k → shufOwnF_l3 fuel m k0 k s (i : Int) l = k0 (swapsS i s l).1 (swapsS i s l).2 ∧ (swapsS i s l).2.length = m
  | _, 0, s, l, hl, hi, h0, h1, hk => by omega
  | 0, k + 1, s, l, hl, hi, h0, h1, hk => by
    unfold shufOwnF_l3 shufOwnF_s5
    rw [br_if, if_neg (by decide)]
    exact ⟨rfl, hl⟩
  | i + 1, k + 1, s, l, hl, hi, h0, h1, hk => by
    unfold shufOwnF_l3 shufOwnF_s5
    have hw : IntKind.i64.wrap (((i + 1 : Nat) : Int) + 1) = (i : Int) + 2 := by rw [wrap_i64 (by omega) (by omega)]; omega
    have hb := below_range (n := (i : Int) + 2) h0 h1 (by omega) (by omega)
    obtain ⟨⟨b0, b1⟩, b2, b3⟩ := hb
    have e1 : below (belowS s ((i : Int) + 2)).2 m = some (belowS s ((i : Int) + 2)).2.toNat := below_of b2 (by omega)
    have e2 : below ((i + 1 : Nat) : Int) m = some (i + 1) := below_of (i := ((i + 1 : Nat) : Int)) (by omega) (by omega)
    have b4 : (belowS s ((i : Int) + 2)).2.toNat < m := by omega
    have hl1 : IntKind.i64.wrap (((i + 1 : Nat) : Int) - 1) = (i : Int) := by rw [wrap_i64 (by omega) (by omega)]; omega
    have ih := fun l' hl' => shufOwn_swaps fuel m hm k0 i k (belowS s ((i : Int) + 2)).1 l' hl' (by omega) b0 b1 (by omega)
    rw [hw, br_if, if_pos (by simp), grd_of (by simp; omega), hl1, swapsS]
    rw [e1]
    generalize belowS s ((i : Int) + 2) = b at *
    generalize b.2.toNat = j at *
    obtain ⟨x, hx⟩ : ∃ x, l[j]? = some x := ⟨_, List.getElem?_eq_getElem (by omega)⟩
    obtain ⟨y, hy⟩ : ∃ y, l[i + 1]? = some y := ⟨_, List.getElem?_eq_getElem (by omega)⟩
    obtain ⟨z, hz⟩ : ∃ z, (l.set (i + 1) x)[j]? = some z := ⟨_, List.getElem?_eq_getElem (by simp; omega)⟩
    have hsw : swpS l (i + 1) j = (l.set (i + 1) x).set j y := by unfold swpS; rw [hx, hy]; rfl
    rw [hsw]
    simp only [e2, bnd_some, Nat.zero_add, hx, hy, hz]
    exact ih _ (by simpa using hl)
theorem shufOwn_fact (s : Int) (n : Int) (hg : (decide (0 ≤ s) && decide (s < 18446744073709551616) && decide (1 ≤ n) && decide (n ≤ 512)) = true) : Fact Tryd.prog gTab 177 [.s (.int .u64 s), .s (.int .i64 n)] [] (.tup [.s (.int .u64 ((shuffleS s n).1)), .sl 0 1 0 (Int.toNat n), .s (.int .i64 0)], [some ⟨3, .li .i64 ((shuffleS s n).2), true⟩]) := by
  simp only [Bool.and_eq_true, decide_eq_true_eq] at hg
  obtain ⟨⟨⟨h0, h1⟩, hn⟩, hn2⟩ := hg
  obtain ⟨F, hF⟩ : ∃ F : Nat, F = 599 := ⟨_, rfl⟩
  refine callN_fact hN hM T_below_ok (n := F + 1) (mode := mode1) ?_
  rw [shufOwnF_eq]
  obtain ⟨j, rfl⟩ : ∃ j : Nat, n = (j : Int) := ⟨n.toNat, by omega⟩
  have hs := fun (k0 : Int → List Int → Option Out) => shufOwn_swaps (R := Out) (F + 1) j (by omega) k0 (j - 1) (F + 1) s (iotaS j) (iota_len j) (by omega) h0 h1 (by omega)
  have hj1 : IntKind.i64.wrap ((j : Int) - 1) = ((j - 1 : Nat) : Int) := by rw [wrap_i64 (by omega) (by omega)]; omega
  have hsh : shuffleS s (j : Int) = swapsS (j - 1) s (iotaS j) := by rw [shuffleS_eq]; unfold shuffleI; simp
  have hz : sizedS (j : Int) = true := by unfold sizedS; simp; omega
  have ha := fun k0 => shufOwn_app (R := Out) (F + 1) s (j : Int) k0 hn hn2 F 1 (by omega) (by omega)
  unfold shufOwnF shufOwnF_s1
  rw [hz, br_if, if_neg (by decide)]
  unfold shufOwnF_l1 shufOwnF_s2
  dsimp only
  rw [br_if, if_pos (by simp; omega)]
  simp only [show [(0 : Int)] = iotaS 1 from rfl, show (1 : Int) = ((1 : Nat) : Int) from rfl, ha]
  unfold shufOwnF_s4
  simp only [hj1, Int.toNat_natCast, (hs _).1, hsh]
  rfl
noncomputable def shufOwn_ent : List V → List Blk → Option (Bool × Out)
  | [.s (.int .u64 s), .s (.int .i64 n)], [] => some ((decide (0 ≤ s) && decide (s < 18446744073709551616) && decide (1 ≤ n) && decide (n ≤ 512)), (.tup [.s (.int .u64 ((shuffleS s n).1)), .sl 0 1 0 (Int.toNat n), .s (.int .i64 0)], [some ⟨3, .li .i64 ((shuffleS s n).2), true⟩]))
  | _, _ => none
theorem shufOwn_ok : ∀ args bs out, shufOwn_ent args bs = some (true, out) → Fact Tryd.prog gTab 177 args bs out := by
  intro args bs out h
  unfold shufOwn_ent at h
  split at h
  · rename_i s n
    simp only [Option.some.injEq, Prod.mk.injEq] at h
    obtain ⟨hg, rfl⟩ := h
    exact shufOwn_fact s n hg
  · cases h
noncomputable def T_shufOwn : Tbl := Tbl.cons 177 shufOwn_ent T_below
theorem T_shufOwn_ok : CallOk Tryd.prog gTab T_shufOwn := cons_ok T_below_ok shufOwn_ok
/-! slices.Sort[[]int,int] -/
def laysSort_ren : Go.Shelf.Ren := ⟨fun | 189 => 178 | 125 => 200 | 257 => 199 | 128 => 216 | 129 => 197 | 294 => 208 | 295 => 209 | 296 => 210 | 297 => 211 | 298 => 212 | 299 => 213 | 216 => 139 | 300 => 214 | 301 => 215 | 328 => 223 | 329 => 224 | 330 => 225 | 331 => 226 | 332 => 227 | 215 => 182 | 343 => 229 | n => n, fun | 28 => 23 | 3 => 3 | 46 => 191 | 0 => 0 | 51 => 222 | 53 => 22 | 4 => 4 | 183 => 246 | 182 => 245 | 131 => 250 | 5 => 5 | 9 => 9 | 218 => 261 | 222 => 265 | 228 => 267 | 229 => 268 | n => n, fun | n => n⟩
theorem laysSort : Go.Proofs.Lays.n189 Tryd.prog laysSort_ren where
  mixed := by kernel_rfl
  f125 := Tryd.func200.trans (congrArg some (by kernel_rfl))
  f128 := Tryd.func216.trans (congrArg some (by kernel_rfl))
  f129 := Tryd.func197.trans (congrArg some (by kernel_rfl))
  f189 := Tryd.func178.trans (congrArg some (by kernel_rfl))
  f215 := Tryd.func182.trans (congrArg some (by kernel_rfl))
  f216 := Tryd.func139.trans (congrArg some (by kernel_rfl))
  f257 := Tryd.func199.trans (congrArg some (by kernel_rfl))
  f294 := Tryd.func208.trans (congrArg some (by kernel_rfl))
  f295 := Tryd.func209.trans (congrArg some (by kernel_rfl))
  f296 := Tryd.func210.trans (congrArg some (by kernel_rfl))
  f297 := Tryd.func211.trans (congrArg some (by kernel_rfl))
  f298 := Tryd.func212.trans (congrArg some (by kernel_rfl))
  f299 := Tryd.func213.trans (congrArg some (by kernel_rfl))
  f300 := Tryd.func214.trans (congrArg some (by kernel_rfl))
  f301 := Tryd.func215.trans (congrArg some (by kernel_rfl))
  f328 := Tryd.func223.trans (congrArg some (by kernel_rfl))
  f329 := Tryd.func224.trans (congrArg some (by kernel_rfl))
  f330 := Tryd.func225.trans (congrArg some (by kernel_rfl))
  f331 := Tryd.func226.trans (congrArg some (by kernel_rfl))
  f332 := Tryd.func227.trans (congrArg some (by kernel_rfl))
  f343 := Tryd.func229.trans (congrArg some (by kernel_rfl))
  t0 := Tryd.underlying0
  a0 := Tryd.isAgg0
  z0 := Tryd.sizeOf0
  v0 := Tryd.zeroValue0
  t3 := Tryd.underlying3
  a3 := Tryd.isAgg3
  z3 := Tryd.sizeOf3
  v3 := Tryd.zeroValue3
  t4 := Tryd.underlying4
  a4 := Tryd.isAgg4
  z4 := Tryd.sizeOf4
  v4 := Tryd.zeroValue4
  t5 := Tryd.underlying5
  a5 := Tryd.isAgg5
  z5 := Tryd.sizeOf5
  v5 := Tryd.zeroValue5
  t9 := Tryd.underlying9
  a9 := Tryd.isAgg9
  z9 := Tryd.sizeOf9
  v9 := Tryd.zeroValue9
  t28 := Tryd.underlying23
  a28 := Tryd.isAgg23
  z28 := Tryd.sizeOf23
  v28 := Tryd.zeroValue23
  t46 := Tryd.underlying191
  a46 := Tryd.isAgg191
  z46 := Tryd.sizeOf191
  v46 := Tryd.zeroValue191
  t51 := Tryd.underlying222
  a51 := Tryd.isAgg222
  z51 := Tryd.sizeOf222
  v51 := Tryd.zeroValue222
  t53 := Tryd.underlying22
  a53 := Tryd.isAgg22
  z53 := Tryd.sizeOf22
  v53 := Tryd.zeroValue22
  t131 := Tryd.underlying250
  a131 := Tryd.isAgg250
  z131 := Tryd.sizeOf250
  v131 := Tryd.zeroValue250
  t182 := Tryd.underlying245
  a182 := Tryd.isAgg245
  z182 := Tryd.sizeOf245
  v182 := Tryd.zeroValue245
  t183 := Tryd.underlying246
  a183 := Tryd.isAgg246
  z183 := Tryd.sizeOf246
  v183 := Tryd.zeroValue246
  t218 := Tryd.underlying261
  a218 := Tryd.isAgg261
  z218 := Tryd.sizeOf261
  v218 := Tryd.zeroValue261
  t222 := Tryd.underlying265
  a222 := Tryd.isAgg265
  z222 := Tryd.sizeOf265
  v222 := Tryd.zeroValue265
  t228 := Tryd.underlying267
  a228 := Tryd.isAgg267
  z228 := Tryd.sizeOf267
  v228 := Tryd.zeroValue267
  t229 := Tryd.underlying268
  a229 := Tryd.isAgg268
  z229 := Tryd.sizeOf268
  v229 := Tryd.zeroValue268
theorem sort_fact (m : Nat) (xs : List Int) (hg : (Nat.ble m xs.length && Nat.ble xs.length 1000000) = true) : Fact Tryd.prog gTab 178 [.sl 0 1 0 m] [⟨3, .li .i64 xs, true⟩] (.tup [], [some ⟨3, .li .i64 (sortPre m xs), true⟩]) := by
  rw [Bool.and_eq_true] at hg
  have hm := Nat.le_of_ble_eq_true hg.1
  have hx := Nat.le_of_ble_eq_true hg.2
  refine fact_put (Go.PM.enters_of (by kernel_rfl)) rfl rfl fun w ρ I ys k hb hk hsz hr => ?_
  simp only [RVs, RV] at hr
  obtain ⟨y, r, rfl, ⟨k', cap, ty, n, p, rfl, hp, hk', hz, hlen, hL, hsh, hn⟩, rfl⟩ := hr
  rw [hk] at hk'
  cases hk'
  have hp0 : p = 0 ∨ m = 0 := by rcases hp with h | h <;> omega
  obtain ⟨cs, fz, zs, h1, h2, h3, h4, h5, h6⟩ := id hb
  have hF : zs = xs.map (.int .i64) := h2
  subst hF
  have hl : (xs.take m).length = m := by simp; omega
  have hH : Go.Sort.Holds (Value.int .i64) w k.r p (xs.take m).toArray := by
    intro j hj
    have hj' : j < m := by simpa [hl] using hj
    have hp' : p = 0 := by rcases hp0 with h | h <;> omega
    subst hp'
    have hc := h3 j (.int .i64 (xs[j]'(by omega))) (by simp)
    have hcs : j < cs.size := by
      rw [Nat.zero_add] at hc
      have e : w.cell? ⟨k.r, j, none⟩ = cs[j]? := by simp [World.cell?, h1]
      rw [e] at hc
      exact (Array.getElem?_eq_some_iff.1 hc).1
    refine ⟨?_, (h4 j hcs).2⟩
    rw [hc, getElem!_pos _ j hj]
    simp
  have hs := Any.slices_Sort_int laysSort k.r p cap (xs.take m) w hH hsz (by omega)
  have hlen2 : ((xs.take m).mergeSort fun x y => decide (x ≤ y)).length = m := by rw [List.length_mergeSort, hl]
  rw [hl] at hs
  refine hs.mono fun e w' ⟨he, q, os, hw'⟩ => ⟨he, ?_⟩
  rw [Go.Lib.sorted_world _ _ _ _ _ _ _ _ hH (by simp [hlen2, hl])] at hw'
  have hw2 : w' = Go.Sort.grow ((w.drewN q).setCells k.r 0 (((xs.take m).mergeSort fun x y => decide (x ≤ y)).map (.int .i64))) os := by
    rw [hw']
    rcases hp0 with h | h
    · rw [h]
    · have : ((xs.take m).mergeSort fun x y => decide (x ≤ y)) = [] := List.eq_nil_of_length_eq_zero (by rw [hlen2, h])
      rw [this]; rfl
  have := put_ints (q := q) (os := os) hb (ys := (xs.take m).mergeSort fun x y => decide (x ≤ y)) (by rw [hlen2]; exact hm)
  rw [hw2, sortPre_eq]
  unfold riseI
  rw [hlen2] at this
  exact this
noncomputable def sort_ent : List V → List Blk → Option (Bool × Out)
  | [.sl 0 1 0 m], [⟨3, .li .i64 xs, true⟩] => some ((Nat.ble m xs.length && Nat.ble xs.length 1000000), (.tup [], [some ⟨3, .li .i64 (sortPre m xs), true⟩]))
  | _, _ => none
theorem sort_ok : ∀ args bs out, sort_ent args bs = some (true, out) → Fact Tryd.prog gTab 178 args bs out := by
  intro args bs out h
  unfold sort_ent at h
  split at h
  · rename_i m xs
    simp only [Option.some.injEq, Prod.mk.injEq] at h
    obtain ⟨hg, rfl⟩ := h
    exact sort_fact m xs hg
  · cases h
noncomputable def T_sort : Tbl := Tbl.cons 178 sort_ent T_shufOwn
theorem T_sort_ok : CallOk Tryd.prog gTab T_sort := cons_ok T_shufOwn_ok sort_ok
/-! downpour/random.Some -/
noncomputable def someF_s1 {R : Type} (n : Int) (many : Int) (s : Int) (c0 : Int → Int → Option R) (c1 : Int → List Int → Int → Option R) : Option R :=
  br (!(sizedS n))
    (c0 0 2)
    (br (decide (many < 0))
      (c0 0 2)
      (br (decide (many > n))
        (c0 0 2)
        (grd (decide (0 ≤ s) && decide (s < 18446744073709551616) && decide (1 ≤ n) && decide (n ≤ 512)) <|
        bnd (upTo many (Int.toNat n)) fun j7 =>
        grd (Nat.ble (j7 - 0) ((shuffleS s n).2).length && Nat.ble ((shuffleS s n).2).length 1000000) <|
        bnd (upTo many (Int.toNat n)) fun j8 =>
        c1 ((shuffleS s n).1) (((sortPre (j7 - 0) ((shuffleS s n).2)).drop 0).take (j8 - 0)) 0)))
theorem someF_s1_eq (fuel : Nat)  (n : Int) (many : Int) (s : Int) : callN Tryd.prog mode1 T_sort fuel 122 [.s (.int .u64 s), .s (.int .i64 n), .s (.int .i64 many)] [] = someF_s1 n many s (fun (a1 : Int) (a2 : Int) => some (.tup [.s (.int .u64 a1), .s (.slice none 0 0), .s (.int .i64 a2)], [])) (fun (a9 : Int) (a10 : List Int) (a11 : Int) => some (.tup [.s (.int .u64 a9), .li .i64 a10, .s (.int .i64 a11)], [])) := by kernel_rfl
noncomputable def someF {R : Type} (fuel : Nat) (s : Int) (n : Int) (many : Int) (r0 : Int → Int → Option R) (r1 : Int → List Int → Int → Option R) : Option R :=
  (someF_s1 n many s (fun (a1 : Int) (a2 : Int) => r0 a1 a2) (fun (a9 : Int) (a10 : List Int) (a11 : Int) => r1 a9 a10 a11))
theorem someF_eq (fuel : Nat) (s : Int) (n : Int) (many : Int) : callN Tryd.prog mode1 T_sort fuel 122 [.s (.int .u64 s), .s (.int .i64 n), .s (.int .i64 many)] [] = someF fuel s n many (fun (z0 : Int) (z1 : Int) => some (.tup [.s (.int .u64 z0), .s (.slice none 0 0), .s (.int .i64 z1)], [])) (fun (z0 : Int) (z1 : List Int) (z2 : Int) => some (.tup [.s (.int .u64 z0), .li .i64 z1, .s (.int .i64 z2)], [])) := by
  unfold someF
  exact (someF_s1_eq fuel  n many s)
theorem some_fact (s : Int) (n : Int) (many : Int) (hg : (decide (0 ≤ s) && decide (s < 18446744073709551616)) = true) : Fact Tryd.prog gTab 122 [.s (.int .u64 s), .s (.int .i64 n), .s (.int .i64 many)] [] (.tup [.s (.int .u64 (if someOk n many = true then (shuffleS s n).1 else 0)), .li .i64 (if someOk n many = true then someS s n many else []), .s (.int .i64 (if someOk n many = true then 0 else 2))], []) := by
  cases hz : someOk n many with
  | false =>
    refine Fact.out (v := .tup [.s (.int .u64 0), .s (.slice none 0 0), .s (.int .i64 2)]) (bs' := []) ?_ (fun _ _ _ x h => RV_tup_two (fun _ h => RVs_two (fun _ h => h) (fun _ h => RVs_two (fun _ h => RV_nil_li h) (fun _ h => h) h) h) h)
    refine callN_fact hN hM T_sort_ok (n := 0) (mode := mode1) ?_
    rw [someF_eq]
    unfold someF someF_s1
    unfold someOk at hz
    simp only [br_if]
    cases h : sizedS n with
    | false => rfl
    | true =>
      rw [h] at hz
      simp only [Bool.true_and, Bool.and_eq_false_iff, decide_eq_false_iff_not] at hz
      by_cases h1 : many < 0
      · simp [h1]
      · have h2 : many > n := by omega
        simp [h1, h2]
  | true =>
    refine callN_fact hN hM T_sort_ok (n := 0) (mode := mode1) ?_
    rw [someF_eq]
    unfold someF someF_s1
    have hz' := hz
    unfold someOk at hz'
    simp only [Bool.and_eq_true, decide_eq_true_eq] at hz'
    obtain ⟨⟨h1, h2⟩, h3⟩ := hz'
    have h1' := h1
    unfold sizedS at h1'
    simp only [Bool.and_eq_true, decide_eq_true_eq] at h1' hg
    have hl := shuffle_len s n
    rw [h1, br_if, br_if, br_if, if_neg (by decide), if_neg (by simpa using h2), if_neg (by simpa using h3), grd_of (by simp; omega), bnd_of (upTo_of h2 (by omega))]
    rw [grd_of (by rw [Bool.and_eq_true]; exact ⟨Nat.ble_eq_true_of_le (by omega), Nat.ble_eq_true_of_le (by omega)⟩)]
    dsimp only
    have e : ((sortPre (many.toNat - 0) (shuffleS s n).2).drop 0).take (many.toNat - 0) = someS s n many := by
      rw [List.drop_zero, Nat.sub_zero, sortPre_eq, someS_eq]
      unfold riseI someI
      rw [List.take_append_of_le_length (by rw [List.length_mergeSort, List.length_take]; omega), List.take_of_length_le (by rw [List.length_mergeSort, List.length_take]; omega)]
    rw [bnd_of (upTo_of h2 (by omega)), e]
    simp
noncomputable def some_ent : List V → List Blk → Option (Bool × Out)
  | [.s (.int .u64 s), .s (.int .i64 n), .s (.int .i64 many)], [] => some ((decide (0 ≤ s) && decide (s < 18446744073709551616)), (.tup [.s (.int .u64 (if someOk n many = true then (shuffleS s n).1 else 0)), .li .i64 (if someOk n many = true then someS s n many else []), .s (.int .i64 (if someOk n many = true then 0 else 2))], []))
  | _, _ => none
theorem some_ok : ∀ args bs out, some_ent args bs = some (true, out) → Fact Tryd.prog gTab 122 args bs out := by
  intro args bs out h
  unfold some_ent at h
  split at h
  · rename_i s n many
    simp only [Option.some.injEq, Prod.mk.injEq] at h
    obtain ⟨hg, rfl⟩ := h
    exact some_fact s n many hg
  · cases h
noncomputable def T_some : Tbl := Tbl.cons 122 some_ent T_sort
theorem T_some_ok : CallOk Tryd.prog gTab T_some := cons_ok T_sort_ok some_ok
def mode2 : FuncId → Nat := fun f => 0
/-! downpour/random.Shuffle -/
noncomputable def shufF_s3 {R : Type} (w11 : Int) (n : Int) (w12 : List Int) (w10 : Nat) (s : Int) (c0 : Nat → Int → List Int → Option R) (c1 : Nat → List Int → Option R) : Option R :=
  br (decide (w11 < n))
    (grd (Nat.beq w12.length w10) <|
    grd (okN (w10 + 1) 8) <|
    c0 ((w12 ++ [w11]).length) (IntKind.i64.wrap (w11 + 1)) (w12 ++ [w11]))
    (c1 w10 w12)
theorem shufF_s3_eq (fuel : Nat) (k : Nat) (K : Ex → St → Option Out) (w11 : Int) (n : Int) (w12 : List Int) (w10 : Nat) (s : Int) : lpN (sub (bodyOf Tryd.prog 177) [1, 1, 1, 0, 1, 0, 0]) (fnX Tryd.prog mode2 T_some fuel 52 0) 4503599618983667 [0, 1, 4, 5, 6, 7, 14, 15] (k + 1) ⟨[(0, .s (.int .u64 s)), (1, .s (.int .i64 n)), (4, .s (.int .u64 0)), (5, .s (.slice none 0 0)), (6, .s (.int .i64 0)), (7, .sl 0 1 0 w10), (14, .s (.int .i64 n)), (15, .s (.int .i64 w11))], [(0, some ⟨3, .li .i64 w12, true⟩)], 1, none⟩ K = shufF_s3 w11 n w12 w10 s (fun (a15 : Nat) (a16 : Int) (a17 : List Int) => lpN (sub (bodyOf Tryd.prog 177) [1, 1, 1, 0, 1, 0, 0]) (fnX Tryd.prog mode2 T_some fuel 52 0) 4503599618983667 [0, 1, 4, 5, 6, 7, 14, 15] k ⟨[(0, .s (.int .u64 s)), (1, .s (.int .i64 n)), (4, .s (.int .u64 0)), (5, .s (.slice none 0 0)), (6, .s (.int .i64 0)), (7, .sl 0 1 0 a15), (14, .s (.int .i64 n)), (15, .s (.int .i64 a16))], [(0, some ⟨3, .li .i64 a17, true⟩)], 1, none⟩ K) (fun (a18 : Nat) (a19 : List Int) => K (.exit 0) ⟨[(0, .s (.int .u64 s)), (1, .s (.int .i64 n)), (4, .s (.int .u64 0)), (5, .s (.slice none 0 0)), (6, .s (.int .i64 0)), (7, .sl 0 1 0 a18)], [(0, some ⟨3, .li .i64 a19, true⟩)], 1, none⟩) := by kernel_rfl
noncomputable def shufF_l2 {R : Type} (fuel : Nat) (s : Int) (n : Int) (k0 : Nat → List Int → Option R) : Nat → Nat → Int → List Int → Option R
  | 0, _, _, _ => none
  | k + 1, w10, w11, w12 =>
    (shufF_s3 w11 n w12 w10 s (fun (a15 : Nat) (a16 : Int) (a17 : List Int) => ( shufF_l2 fuel s n k0 k a15 a16 a17 )) (fun (a18 : Nat) (a19 : List Int) => k0 a18 a19))
theorem shufF_l2_eq (fuel : Nat) (s : Int) (n : Int) (K : Ex → St → Option Out) : ∀ (k : Nat) (w10 : Nat) (w11 : Int) (w12 : List Int), lpN (sub (bodyOf Tryd.prog 177) [1, 1, 1, 0, 1, 0, 0]) (fnX Tryd.prog mode2 T_some fuel 52 0) 4503599618983667 [0, 1, 4, 5, 6, 7, 14, 15] k ⟨[(0, .s (.int .u64 s)), (1, .s (.int .i64 n)), (4, .s (.int .u64 0)), (5, .s (.slice none 0 0)), (6, .s (.int .i64 0)), (7, .sl 0 1 0 w10), (14, .s (.int .i64 n)), (15, .s (.int .i64 w11))], [(0, some ⟨3, .li .i64 w12, true⟩)], 1, none⟩ K = shufF_l2 fuel s n (fun (y13 : Nat) (y14 : List Int) => K (.exit 0) ⟨[(0, .s (.int .u64 s)), (1, .s (.int .i64 n)), (4, .s (.int .u64 0)), (5, .s (.slice none 0 0)), (6, .s (.int .i64 0)), (7, .sl 0 1 0 y13)], [(0, some ⟨3, .li .i64 y14, true⟩)], 1, none⟩) k w10 w11 w12
  | 0, _, _, _ => rfl
  | k + 1, w10, w11, w12 => by
    unfold shufF_l2
    exact (shufF_s3_eq fuel k K w11 n w12 w10 s).trans (congr (congr (Eq.refl (shufF_s3 (R := Out) w11 n w12 w10 s)) (funext fun a15 => funext fun a16 => funext fun a17 => shufF_l2_eq fuel s n K k a15 a16 a17)) (rfl))
noncomputable def shufF_s2 {R : Type} (n : Int) (s : Int) (c0 : Nat → Int → List Int → Option R) (c1 : Option R) : Option R :=
  br (decide (0 < n))
    (c0 1 1 ([0]))
    (c1)
theorem shufF_s2_eq (fuel : Nat) (k : Nat) (K : Ex → St → Option Out) (n : Int) (s : Int) : lpN (sub (bodyOf Tryd.prog 177) [1, 1, 1, 0, 1, 0, 0]) (fnX Tryd.prog mode2 T_some fuel 52 0) 4503599618983667 [0, 1, 4, 5, 6, 7, 14, 15] (k + 1) ⟨[(0, .s (.int .u64 s)), (1, .s (.int .i64 n)), (4, .s (.int .u64 0)), (5, .s (.slice none 0 0)), (6, .s (.int .i64 0)), (7, .s (.slice none 0 0)), (14, .s (.int .i64 n)), (15, .s (.int .i64 0))], [], 0, none⟩ K = shufF_s2 n s (fun (a20 : Nat) (a21 : Int) (a22 : List Int) => lpN (sub (bodyOf Tryd.prog 177) [1, 1, 1, 0, 1, 0, 0]) (fnX Tryd.prog mode2 T_some fuel 52 0) 4503599618983667 [0, 1, 4, 5, 6, 7, 14, 15] k ⟨[(0, .s (.int .u64 s)), (1, .s (.int .i64 n)), (4, .s (.int .u64 0)), (5, .s (.slice none 0 0)), (6, .s (.int .i64 0)), (7, .sl 0 1 0 a20), (14, .s (.int .i64 n)), (15, .s (.int .i64 a21))], [(0, some ⟨3, .li .i64 a22, true⟩)], 1, none⟩ K) (K (.exit 0) ⟨[(0, .s (.int .u64 s)), (1, .s (.int .i64 n)), (4, .s (.int .u64 0)), (5, .s (.slice none 0 0)), (6, .s (.int .i64 0)), (7, .s (.slice none 0 0))], [], 0, none⟩) := by kernel_rfl
noncomputable def shufF_l1 {R : Type} (fuel : Nat) (s : Int) (n : Int) (k0 : Nat → List Int → Option R) (k1 : Option R) : Nat → Option R
  | 0 => none
  | k + 1 =>
    (shufF_s2 n s (fun (a20 : Nat) (a21 : Int) (a22 : List Int) => (shufF_l2 fuel s n (fun (x23 : Nat) (x24 : List Int) => k0 x23 x24) k a20 a21 a22)) (k1))
theorem shufF_l1_eq (fuel : Nat) (s : Int) (n : Int) (K : Ex → St → Option Out) : ∀ (k : Nat) , lpN (sub (bodyOf Tryd.prog 177) [1, 1, 1, 0, 1, 0, 0]) (fnX Tryd.prog mode2 T_some fuel 52 0) 4503599618983667 [0, 1, 4, 5, 6, 7, 14, 15] k ⟨[(0, .s (.int .u64 s)), (1, .s (.int .i64 n)), (4, .s (.int .u64 0)), (5, .s (.slice none 0 0)), (6, .s (.int .i64 0)), (7, .s (.slice none 0 0)), (14, .s (.int .i64 n)), (15, .s (.int .i64 0))], [], 0, none⟩ K = shufF_l1 fuel s n (fun (y8 : Nat) (y9 : List Int) => K (.exit 0) ⟨[(0, .s (.int .u64 s)), (1, .s (.int .i64 n)), (4, .s (.int .u64 0)), (5, .s (.slice none 0 0)), (6, .s (.int .i64 0)), (7, .sl 0 1 0 y8)], [(0, some ⟨3, .li .i64 y9, true⟩)], 1, none⟩) (K (.exit 0) ⟨[(0, .s (.int .u64 s)), (1, .s (.int .i64 n)), (4, .s (.int .u64 0)), (5, .s (.slice none 0 0)), (6, .s (.int .i64 0)), (7, .s (.slice none 0 0))], [], 0, none⟩) k 
  | 0 => rfl
  | k + 1 => by
    unfold shufF_l1
    exact (shufF_s2_eq fuel k K n s).trans (congr (congr (Eq.refl (shufF_s2 (R := Out) n s)) (funext fun a20 => funext fun a21 => funext fun a22 => shufF_l2_eq fuel s n K k a20 a21 a22)) (rfl))
noncomputable def shufF_s5 {R : Type} (w37 : Int) (w36 : Int) (x25 : Nat) (w38 : List Int) (c0 : Int → Int → List Int → Option R) (c1 : Int → List Int → Option R) : Option R :=
  br (decide (w37 > 0))
    (grd (decide (0 ≤ w36) && decide (w36 < 18446744073709551616) && decide (1 ≤ (IntKind.i64.wrap (w37 + 1))) && decide ((IntKind.i64.wrap (w37 + 1)) ≤ 512)) <|
    bnd (below ((belowS w36 (IntKind.i64.wrap (w37 + 1))).2) x25) fun j49 =>
    bnd (w38[(0 + j49)]?) fun e50 =>
    bnd (below w37 x25) fun j51 =>
    bnd (w38[(0 + j51)]?) fun e52 =>
    bnd (below w37 x25) fun j53 =>
    bnd (w38[(0 + j53)]?) fun e54 =>
    bnd (below ((belowS w36 (IntKind.i64.wrap (w37 + 1))).2) x25) fun j55 =>
    bnd ((w38.set (0 + j53) e50)[(0 + j55)]?) fun e56 =>
    c0 ((belowS w36 (IntKind.i64.wrap (w37 + 1))).1) (IntKind.i64.wrap (w37 - 1)) ((w38.set (0 + j53) e50).set (0 + j55) e52))
    (c1 w36 w38)
theorem shufF_s5_eq (fuel : Nat) (k : Nat) (K : Ex → St → Option Out) (w37 : Int) (w36 : Int) (x25 : Nat) (w38 : List Int) : lpN (sub (bodyOf Tryd.prog 177) [1, 1, 1, 1, 0, 1, 0, 0]) (fnX Tryd.prog mode2 T_some fuel 52 0) 3377699720528113 [0, 4, 5, 6, 7, 9] (k + 1) ⟨[(0, .s (.int .u64 w36)), (4, .s (.int .u64 0)), (5, .s (.slice none 0 0)), (6, .s (.int .i64 0)), (7, .sl 0 1 0 x25), (9, .s (.int .i64 w37))], [(0, some ⟨3, .li .i64 w38, true⟩)], 1, none⟩ K = shufF_s5 w37 w36 x25 w38 (fun (a57 : Int) (a58 : Int) (a59 : List Int) => lpN (sub (bodyOf Tryd.prog 177) [1, 1, 1, 1, 0, 1, 0, 0]) (fnX Tryd.prog mode2 T_some fuel 52 0) 3377699720528113 [0, 4, 5, 6, 7, 9] k ⟨[(0, .s (.int .u64 a57)), (4, .s (.int .u64 0)), (5, .s (.slice none 0 0)), (6, .s (.int .i64 0)), (7, .sl 0 1 0 x25), (9, .s (.int .i64 a58))], [(0, some ⟨3, .li .i64 a59, true⟩)], 1, none⟩ K) (fun (a60 : Int) (a61 : List Int) => K (.exit 2) ⟨[(0, .s (.int .u64 a60)), (4, .s (.int .u64 0)), (5, .s (.slice none 0 0)), (6, .s (.int .i64 0)), (7, .sl 0 1 0 x25)], [(0, some ⟨3, .li .i64 a61, true⟩)], 1, none⟩) := by kernel_rfl
noncomputable def shufF_l3 {R : Type} (fuel : Nat) (x25 : Nat) (k0 : Int → List Int → Option R) : Nat → Int → Int → List Int → Option R
  | 0, _, _, _ => none
  | k + 1, w36, w37, w38 =>
    (shufF_s5 w37 w36 x25 w38 (fun (a57 : Int) (a58 : Int) (a59 : List Int) => ( shufF_l3 fuel x25 k0 k a57 a58 a59 )) (fun (a60 : Int) (a61 : List Int) => k0 a60 a61))
theorem shufF_l3_eq (fuel : Nat) (x25 : Nat) (K : Ex → St → Option Out) : ∀ (k : Nat) (w36 : Int) (w37 : Int) (w38 : List Int), lpN (sub (bodyOf Tryd.prog 177) [1, 1, 1, 1, 0, 1, 0, 0]) (fnX Tryd.prog mode2 T_some fuel 52 0) 3377699720528113 [0, 4, 5, 6, 7, 9] k ⟨[(0, .s (.int .u64 w36)), (4, .s (.int .u64 0)), (5, .s (.slice none 0 0)), (6, .s (.int .i64 0)), (7, .sl 0 1 0 x25), (9, .s (.int .i64 w37))], [(0, some ⟨3, .li .i64 w38, true⟩)], 1, none⟩ K = shufF_l3 fuel x25 (fun (y47 : Int) (y48 : List Int) => K (.exit 2) ⟨[(0, .s (.int .u64 y47)), (4, .s (.int .u64 0)), (5, .s (.slice none 0 0)), (6, .s (.int .i64 0)), (7, .sl 0 1 0 x25)], [(0, some ⟨3, .li .i64 y48, true⟩)], 1, none⟩) k w36 w37 w38
  | 0, _, _, _ => rfl
  | k + 1, w36, w37, w38 => by
    unfold shufF_l3
    exact (shufF_s5_eq fuel k K w37 w36 x25 w38).trans (congr (congr (Eq.refl (shufF_s5 (R := Out) w37 w36 x25 w38)) (funext fun a57 => funext fun a58 => funext fun a59 => shufF_l3_eq fuel x25 K k a57 a58 a59)) (rfl))
noncomputable def shufF_s6 {R : Type} (x65 : Int) (x66 : List Int) (x25 : Nat) (c0 : Int → List Int → Int → Option R) : Option R :=
  c0 x65 ((x66.drop 0).take x25) 0
theorem shufF_s6_eq (fuel : Nat)  (x65 : Int) (x66 : List Int) (x25 : Nat) : (kont (fnX Tryd.prog mode2 T_some fuel 52 0) (bodyOf Tryd.prog 177) [1, 1, 1, 1, 0, 1, 0] 112 (endK Tryd.prog 0 0 177)) (.exit 2) ⟨[(0, .s (.int .u64 x65)), (4, .s (.int .u64 0)), (5, .s (.slice none 0 0)), (6, .s (.int .i64 0)), (7, .sl 0 1 0 x25)], [(0, some ⟨3, .li .i64 x66, true⟩)], 1, none⟩ = shufF_s6 x65 x66 x25 (fun (a67 : Int) (a68 : List Int) (a69 : Int) => some (.tup [.s (.int .u64 a67), .li .i64 a68, .s (.int .i64 a69)], [])) := by kernel_rfl
noncomputable def shufF_s4 {R : Type} (s : Int) (n : Int) (x26 : List Int) (x25 : Nat) (c0 : Int → Int → List Int → Option R) : Option R :=
  c0 s (IntKind.i64.wrap (n - 1)) x26
theorem shufF_s4_eq (fuel : Nat)  (s : Int) (n : Int) (x26 : List Int) (x25 : Nat) : (kont (fnX Tryd.prog mode2 T_some fuel 52 0) (bodyOf Tryd.prog 177) [1, 1, 1, 0, 1, 0] 112 (endK Tryd.prog 0 0 177)) (.exit 0) ⟨[(0, .s (.int .u64 s)), (1, .s (.int .i64 n)), (4, .s (.int .u64 0)), (5, .s (.slice none 0 0)), (6, .s (.int .i64 0)), (7, .sl 0 1 0 x25)], [(0, some ⟨3, .li .i64 x26, true⟩)], 1, none⟩ = shufF_s4 s n x26 x25 (fun (a62 : Int) (a63 : Int) (a64 : List Int) => lpN (sub (bodyOf Tryd.prog 177) [1, 1, 1, 1, 0, 1, 0, 0]) (fnX Tryd.prog mode2 T_some fuel 52 0) 3377699720528113 [0, 4, 5, 6, 7, 9] fuel ⟨[(0, .s (.int .u64 a62)), (4, .s (.int .u64 0)), (5, .s (.slice none 0 0)), (6, .s (.int .i64 0)), (7, .sl 0 1 0 x25), (9, .s (.int .i64 a63))], [(0, some ⟨3, .li .i64 a64, true⟩)], 1, none⟩ (kont (fnX Tryd.prog mode2 T_some fuel 52 0) (bodyOf Tryd.prog 177) [1, 1, 1, 1, 0, 1, 0] 112 (endK Tryd.prog 0 0 177))) := by kernel_rfl
noncomputable def shufF_s8 {R : Type} (w70 : Int) (s : Int) (c0 : Option R) : Option R :=
  br (decide (w70 > 0))
    (grd (decide (0 ≤ s) && decide (s < 18446744073709551616) && decide (1 ≤ (IntKind.i64.wrap (w70 + 1))) && decide ((IntKind.i64.wrap (w70 + 1)) ≤ 512)) <|
    none)
    (c0)
theorem shufF_s8_eq (fuel : Nat) (k : Nat) (K : Ex → St → Option Out) (w70 : Int) (s : Int) : lpN (sub (bodyOf Tryd.prog 177) [1, 1, 1, 1, 0, 1, 0, 0]) (fnX Tryd.prog mode2 T_some fuel 52 0) 3377699720528113 [0, 4, 5, 6, 7, 9] (k + 1) ⟨[(0, .s (.int .u64 s)), (4, .s (.int .u64 0)), (5, .s (.slice none 0 0)), (6, .s (.int .i64 0)), (7, .s (.slice none 0 0)), (9, .s (.int .i64 w70))], [], 0, none⟩ K = shufF_s8 w70 s (K (.exit 2) ⟨[(0, .s (.int .u64 s)), (4, .s (.int .u64 0)), (5, .s (.slice none 0 0)), (6, .s (.int .i64 0)), (7, .s (.slice none 0 0))], [], 0, none⟩) := by kernel_rfl
noncomputable def shufF_l4 {R : Type} (fuel : Nat) (s : Int) (k0 : Option R) : Nat → Int → Option R
  | 0, _ => none
  | k + 1, w70 =>
    (shufF_s8 w70 s (k0))
theorem shufF_l4_eq (fuel : Nat) (s : Int) (K : Ex → St → Option Out) : ∀ (k : Nat) (w70 : Int), lpN (sub (bodyOf Tryd.prog 177) [1, 1, 1, 1, 0, 1, 0, 0]) (fnX Tryd.prog mode2 T_some fuel 52 0) 3377699720528113 [0, 4, 5, 6, 7, 9] k ⟨[(0, .s (.int .u64 s)), (4, .s (.int .u64 0)), (5, .s (.slice none 0 0)), (6, .s (.int .i64 0)), (7, .s (.slice none 0 0)), (9, .s (.int .i64 w70))], [], 0, none⟩ K = shufF_l4 fuel s (K (.exit 2) ⟨[(0, .s (.int .u64 s)), (4, .s (.int .u64 0)), (5, .s (.slice none 0 0)), (6, .s (.int .i64 0)), (7, .s (.slice none 0 0))], [], 0, none⟩) k w70
  | 0, _ => rfl
  | k + 1, w70 => by
    unfold shufF_l4
    exact (shufF_s8_eq fuel k K w70 s)
noncomputable def shufF_s9 {R : Type} (s : Int) (c0 : Int → Int → Option R) : Option R :=
  c0 s 0
theorem shufF_s9_eq (fuel : Nat)  (s : Int) : (kont (fnX Tryd.prog mode2 T_some fuel 52 0) (bodyOf Tryd.prog 177) [1, 1, 1, 1, 0, 1, 0] 112 (endK Tryd.prog 0 0 177)) (.exit 2) ⟨[(0, .s (.int .u64 s)), (4, .s (.int .u64 0)), (5, .s (.slice none 0 0)), (6, .s (.int .i64 0)), (7, .s (.slice none 0 0))], [], 0, none⟩ = shufF_s9 s (fun (a72 : Int) (a73 : Int) => some (.tup [.s (.int .u64 a72), .s (.slice none 0 0), .s (.int .i64 a73)], [])) := by kernel_rfl
noncomputable def shufF_s7 {R : Type} (n : Int) (s : Int) (c0 : Int → Option R) : Option R :=
  c0 (IntKind.i64.wrap (n - 1))
theorem shufF_s7_eq (fuel : Nat)  (n : Int) (s : Int) : (kont (fnX Tryd.prog mode2 T_some fuel 52 0) (bodyOf Tryd.prog 177) [1, 1, 1, 0, 1, 0] 112 (endK Tryd.prog 0 0 177)) (.exit 0) ⟨[(0, .s (.int .u64 s)), (1, .s (.int .i64 n)), (4, .s (.int .u64 0)), (5, .s (.slice none 0 0)), (6, .s (.int .i64 0)), (7, .s (.slice none 0 0))], [], 0, none⟩ = shufF_s7 n s (fun (a71 : Int) => lpN (sub (bodyOf Tryd.prog 177) [1, 1, 1, 1, 0, 1, 0, 0]) (fnX Tryd.prog mode2 T_some fuel 52 0) 3377699720528113 [0, 4, 5, 6, 7, 9] fuel ⟨[(0, .s (.int .u64 s)), (4, .s (.int .u64 0)), (5, .s (.slice none 0 0)), (6, .s (.int .i64 0)), (7, .s (.slice none 0 0)), (9, .s (.int .i64 a71))], [], 0, none⟩ (kont (fnX Tryd.prog mode2 T_some fuel 52 0) (bodyOf Tryd.prog 177) [1, 1, 1, 1, 0, 1, 0] 112 (endK Tryd.prog 0 0 177))) := by kernel_rfl
noncomputable def shufF_s1 {R : Type} (n : Int) (s : Int) (c0 : Int → Int → Option R) (c1 : Option R) : Option R :=
  br (!(sizedS n))
    (c0 0 2)
    (c1)
theorem shufF_s1_eq (fuel : Nat)  (n : Int) (s : Int) : callN Tryd.prog mode2 T_some fuel 177 [.s (.int .u64 s), .s (.int .i64 n)] [] = shufF_s1 n s (fun (a1 : Int) (a2 : Int) => some (.tup [.s (.int .u64 a1), .s (.slice none 0 0), .s (.int .i64 a2)], [])) (lpN (sub (bodyOf Tryd.prog 177) [1, 1, 1, 0, 1, 0, 0]) (fnX Tryd.prog mode2 T_some fuel 52 0) 4503599618983667 [0, 1, 4, 5, 6, 7, 14, 15] fuel ⟨[(0, .s (.int .u64 s)), (1, .s (.int .i64 n)), (4, .s (.int .u64 0)), (5, .s (.slice none 0 0)), (6, .s (.int .i64 0)), (7, .s (.slice none 0 0)), (14, .s (.int .i64 n)), (15, .s (.int .i64 0))], [], 0, none⟩ (kont (fnX Tryd.prog mode2 T_some fuel 52 0) (bodyOf Tryd.prog 177) [1, 1, 1, 0, 1, 0] 112 (endK Tryd.prog 0 0 177))) := by kernel_rfl
noncomputable def shufF {R : Type} (fuel : Nat) (s : Int) (n : Int) (r0 : Int → Int → Option R) (r1 : Int → List Int → Int → Option R) : Option R :=
  (shufF_s1 n s (fun (a1 : Int) (a2 : Int) => r0 a1 a2) ((shufF_l1 fuel s n (fun (x25 : Nat) (x26 : List Int) => (shufF_s4 s n x26 x25 (fun (a62 : Int) (a63 : Int) (a64 : List Int) => (shufF_l3 fuel x25 (fun (x65 : Int) (x66 : List Int) => (shufF_s6 x65 x66 x25 (fun (a67 : Int) (a68 : List Int) (a69 : Int) => r1 a67 a68 a69))) fuel a62 a63 a64)))) ((shufF_s7 n s (fun (a71 : Int) => (shufF_l4 fuel s ((shufF_s9 s (fun (a72 : Int) (a73 : Int) => r0 a72 a73))) fuel a71)))) fuel)))
theorem shufF_eq (fuel : Nat) (s : Int) (n : Int) : callN Tryd.prog mode2 T_some fuel 177 [.s (.int .u64 s), .s (.int .i64 n)] [] = shufF fuel s n (fun (z0 : Int) (z1 : Int) => some (.tup [.s (.int .u64 z0), .s (.slice none 0 0), .s (.int .i64 z1)], [])) (fun (z0 : Int) (z1 : List Int) (z2 : Int) => some (.tup [.s (.int .u64 z0), .li .i64 z1, .s (.int .i64 z2)], [])) := by
  unfold shufF
  exact (shufF_s1_eq fuel  n s).trans (congr (congr (Eq.refl (shufF_s1 (R := Out) n s)) (rfl)) ((shufF_l1_eq fuel s n (kont (fnX Tryd.prog mode2 T_some fuel 52 0) (bodyOf Tryd.prog 177) [1, 1, 1, 0, 1, 0] 112 (endK Tryd.prog 0 0 177)) fuel ).trans (congrFun (congr (congr (Eq.refl (shufF_l1 (R := Out) fuel s n)) (funext fun x25 => funext fun x26 => (shufF_s4_eq fuel  s n x26 x25).trans (congr (Eq.refl (shufF_s4 (R := Out) s n x26 x25)) (funext fun a62 => funext fun a63 => funext fun a64 => (shufF_l3_eq fuel x25 (kont (fnX Tryd.prog mode2 T_some fuel 52 0) (bodyOf Tryd.prog 177) [1, 1, 1, 1, 0, 1, 0] 112 (endK Tryd.prog 0 0 177)) fuel a62 a63 a64).trans (congrFun (congrFun (congrFun (congrFun (congr (Eq.refl (shufF_l3 (R := Out) fuel x25)) (funext fun x65 => funext fun x66 => (shufF_s6_eq fuel  x65 x66 x25))) fuel) a62) a63) a64))))) ((shufF_s7_eq fuel  n s).trans (congr (Eq.refl (shufF_s7 (R := Out) n s)) (funext fun a71 => (shufF_l4_eq fuel s (kont (fnX Tryd.prog mode2 T_some fuel 52 0) (bodyOf Tryd.prog 177) [1, 1, 1, 1, 0, 1, 0] 112 (endK Tryd.prog 0 0 177)) fuel a71).trans (congrFun (congrFun (congr (Eq.refl (shufF_l4 (R := Out) fuel s)) ((shufF_s9_eq fuel  s))) fuel) a71))))) fuel)))
theorem shuf_app {R : Type} (fuel : Nat) (s n : Int) (k0 : Nat → List Int → Option R) (h1 : 1 ≤ n) (h2 : n ≤ 512) : ∀ (k j : Nat), (j : Int) ≤ n → n < (j : Int) + k → shufF_l2 fuel s n k0 k j (j : Int) (iotaS j) = k0 n.toNat (iotaS n.toNat)
  | 0, j, hj, hk => by omega
  | k + 1, j, hj, hk => by
    unfold shufF_l2 shufF_s3
    rw [br_if]
    by_cases hc : (j : Int) < n
    · rw [if_pos (by simpa using hc), iota_len, grd_of (beq_self _), grd_of (okN_of (by omega) (by omega)), iota_succ, iota_len, wrap_i64 (by omega) (by omega), show (j : Int) + 1 = ((j + 1 : Nat) : Int) by omega]
      exact shuf_app fuel s n k0 h1 h2 k (j + 1) (by omega) (by omega)
    · rw [if_neg (by simpa using hc), show n.toNat = j by omega]
theorem shuf_swaps {R : Type} (fuel m : Nat) (hm : m ≤ 512) (k0 : Int → List Int → Option R) : ∀ (i k : Nat) (s : Int) (l : List Int), l.length = m → i < m → 0 ≤ s → s < 18446744073709551616 → i < k → shufF_l3 fuel m k0 k s (i : Int) l = k0 (swapsS i s l).1 (swapsS i s l).2 ∧ (swapsS i s l).2.length = m
  | _, 0, s, l, hl, hi, h0, h1, hk => by omega
  | 0, k + 1, s, l, hl, hi, h0, h1, hk => by
    unfold shufF_l3 shufF_s5
    rw [br_if, if_neg (by decide)]
    exact ⟨rfl, hl⟩
  | i + 1, k + 1, s, l, hl, hi, h0, h1, hk => by
    unfold shufF_l3 shufF_s5
    have hw : IntKind.i64.wrap (((i + 1 : Nat) : Int) + 1) = (i : Int) + 2 := by rw [wrap_i64 (by omega) (by omega)]; omega
    have hb := below_range (n := (i : Int) + 2) h0 h1 (by omega) (by omega)
    obtain ⟨⟨b0, b1⟩, b2, b3⟩ := hb
    have e1 : below (belowS s ((i : Int) + 2)).2 m = some (belowS s ((i : Int) + 2)).2.toNat := below_of b2 (by omega)
    have e2 : below ((i + 1 : Nat) : Int) m = some (i + 1) := below_of (i := ((i + 1 : Nat) : Int)) (by omega) (by omega)
    have b4 : (belowS s ((i : Int) + 2)).2.toNat < m := by omega
    have hl1 : IntKind.i64.wrap (((i + 1 : Nat) : Int) - 1) = (i : Int) := by rw [wrap_i64 (by omega) (by omega)]; omega
    have ih := fun l' hl' => shuf_swaps fuel m hm k0 i k (belowS s ((i : Int) + 2)).1 l' hl' (by omega) b0 b1 (by omega)
    rw [hw, br_if, if_pos (by simp), grd_of (by simp; omega), hl1, swapsS]
    rw [e1]
    generalize belowS s ((i : Int) + 2) = b at *
    generalize b.2.toNat = j at *
    obtain ⟨x, hx⟩ : ∃ x, l[j]? = some x := ⟨_, List.getElem?_eq_getElem (by omega)⟩
    obtain ⟨y, hy⟩ : ∃ y, l[i + 1]? = some y := ⟨_, List.getElem?_eq_getElem (by omega)⟩
    obtain ⟨z, hz⟩ : ∃ z, (l.set (i + 1) x)[j]? = some z := ⟨_, List.getElem?_eq_getElem (by simp; omega)⟩
    have hsw : swpS l (i + 1) j = (l.set (i + 1) x).set j y := by unfold swpS; rw [hx, hy]; rfl
    rw [hsw]
    simp only [e2, bnd_some, Nat.zero_add, hx, hy, hz]
    exact ih _ (by simpa using hl)
theorem shuf_fact (s : Int) (n : Int) (hg : (decide (0 ≤ s) && decide (s < 18446744073709551616)) = true) : Fact Tryd.prog gTab 177 [.s (.int .u64 s), .s (.int .i64 n)] [] (.tup [.s (.int .u64 (if sizedS n = true then (shuffleS s n).1 else 0)), .li .i64 (if sizedS n = true then (shuffleS s n).2 else []), .s (.int .i64 (if sizedS n = true then 0 else 2))], []) := by
  cases hz : sizedS n with
  | false =>
    refine Fact.out (v := .tup [.s (.int .u64 0), .s (.slice none 0 0), .s (.int .i64 2)]) (bs' := []) ?_ (fun _ _ _ x h => RV_tup_two (fun _ h => RVs_two (fun _ h => h) (fun _ h => RVs_two (fun _ h => RV_nil_li h) (fun _ h => h) h) h) h)
    refine callN_fact hN hM T_some_ok (n := 0) (mode := mode2) ?_
    rw [shufF_eq]
    unfold shufF shufF_s1
    rw [hz]
    exact br_tt _ _
  | true =>
  have hg' : (decide (0 ≤ s) && decide (s < 18446744073709551616) && decide (1 ≤ n) && decide (n ≤ 512)) = true := by
    unfold sizedS at hz; rw [Bool.and_assoc, hg, hz]; rfl
  clear hg
  have hg := hg'
  clear hg'
  simp only [Bool.and_eq_true, decide_eq_true_eq] at hg
  obtain ⟨⟨⟨h0, h1⟩, hn⟩, hn2⟩ := hg
  obtain ⟨F, hF⟩ : ∃ F : Nat, F = 599 := ⟨_, rfl⟩
  refine callN_fact hN hM T_some_ok (n := F + 1) (mode := mode2) ?_
  rw [shufF_eq]
  obtain ⟨j, rfl⟩ : ∃ j : Nat, n = (j : Int) := ⟨n.toNat, by omega⟩
  have hs := fun (k0 : Int → List Int → Option Out) => shuf_swaps (R := Out) (F + 1) j (by omega) k0 (j - 1) (F + 1) s (iotaS j) (iota_len j) (by omega) h0 h1 (by omega)
  have hj1 : IntKind.i64.wrap ((j : Int) - 1) = ((j - 1 : Nat) : Int) := by rw [wrap_i64 (by omega) (by omega)]; omega
  have hsh : shuffleS s (j : Int) = swapsS (j - 1) s (iotaS j) := by rw [shuffleS_eq]; unfold shuffleI; simp
  have ha := fun k0 => shuf_app (R := Out) (F + 1) s (j : Int) k0 hn hn2 F 1 (by omega) (by omega)
  unfold shufF shufF_s1
  rw [hz, br_if, if_neg (by decide)]
  unfold shufF_l1 shufF_s2
  dsimp only
  rw [br_if, if_pos (by simp; omega)]
  simp only [show [(0 : Int)] = iotaS 1 from rfl, show (1 : Int) = ((1 : Nat) : Int) from rfl, ha]
  unfold shufF_s4
  simp only [hj1, Int.toNat_natCast, (hs _).1, hsh]
  unfold shufF_s6
  have hlen := (hs (fun _ _ => none)).2
  rw [List.drop_zero, List.take_of_length_le (by omega)]
  simp
noncomputable def shuf_ent : List V → List Blk → Option (Bool × Out)
  | [.s (.int .u64 s), .s (.int .i64 n)], [] => some ((decide (0 ≤ s) && decide (s < 18446744073709551616)), (.tup [.s (.int .u64 (if sizedS n = true then (shuffleS s n).1 else 0)), .li .i64 (if sizedS n = true then (shuffleS s n).2 else []), .s (.int .i64 (if sizedS n = true then 0 else 2))], []))
  | _, _ => none
theorem shuf_ok : ∀ args bs out, shuf_ent args bs = some (true, out) → Fact Tryd.prog gTab 177 args bs out := by
  intro args bs out h
  unfold shuf_ent at h
  split at h
  · rename_i s n
    simp only [Option.some.injEq, Prod.mk.injEq] at h
    obtain ⟨hg, rfl⟩ := h
    exact shuf_fact s n hg
  · cases h
noncomputable def T_shuf : Tbl := Tbl.cons 177 shuf_ent T_some
theorem T_shuf_ok : CallOk Tryd.prog gTab T_shuf := cons_ok T_some_ok shuf_ok
/-! downpour/downpourref01.Numbers -/
noncomputable def refNumbersF_s2 {R : Type} (w6 : Int) (w5 : Int) (a : List Int) (b : List Int) (c0 : Option R) (c1 : Int → Int → Option R) (c2 : Option R) : Option R :=
  br (decide (w6 < w5))
    (bnd (ix a w6) fun e9 =>
    bnd (ix b w6) fun e10 =>
    br (e9 != e10)
      (c0)
      (c1 w5 (IntKind.i64.wrap (w6 + 1))))
    (c2)
theorem refNumbersF_s2_eq (fuel : Nat) (k : Nat) (K : Ex → St → Option Out) (w6 : Int) (w5 : Int) (a : List Int) (b : List Int) : lpN (sub (bodyOf Tryd.prog 18) [1, 1, 0, 1, 0, 0]) (fnX Tryd.prog mode2 T_shuf fuel 26 0) 16 [0, 1, 4, 12, 13] (k + 1) ⟨[(0, .li .i64 a), (1, .li .i64 b), (4, .s (.bool false)), (12, .s (.int .i64 w5)), (13, .s (.int .i64 w6))], [], 0, none⟩ K = refNumbersF_s2 w6 w5 a b (K .ret ⟨[(4, .s (.bool false))], [], 0, none⟩) (fun (a11 : Int) (a12 : Int) => lpN (sub (bodyOf Tryd.prog 18) [1, 1, 0, 1, 0, 0]) (fnX Tryd.prog mode2 T_shuf fuel 26 0) 16 [0, 1, 4, 12, 13] k ⟨[(0, .li .i64 a), (1, .li .i64 b), (4, .s (.bool false)), (12, .s (.int .i64 a11)), (13, .s (.int .i64 a12))], [], 0, none⟩ K) (K (.exit 0) ⟨[(4, .s (.bool false))], [], 0, none⟩) := by kernel_rfl
noncomputable def refNumbersF_l1 {R : Type} (fuel : Nat) (a : List Int) (b : List Int) (k0 : Option R) (k1 : Option R) : Nat → Int → Int → Option R
  | 0, _, _ => none
  | k + 1, w5, w6 =>
    (refNumbersF_s2 w6 w5 a b (k0) (fun (a11 : Int) (a12 : Int) => ( refNumbersF_l1 fuel a b k0 k1 k a11 a12 )) (k1))
theorem refNumbersF_l1_eq (fuel : Nat) (a : List Int) (b : List Int) (K : Ex → St → Option Out) : ∀ (k : Nat) (w5 : Int) (w6 : Int), lpN (sub (bodyOf Tryd.prog 18) [1, 1, 0, 1, 0, 0]) (fnX Tryd.prog mode2 T_shuf fuel 26 0) 16 [0, 1, 4, 12, 13] k ⟨[(0, .li .i64 a), (1, .li .i64 b), (4, .s (.bool false)), (12, .s (.int .i64 w5)), (13, .s (.int .i64 w6))], [], 0, none⟩ K = refNumbersF_l1 fuel a b (K .ret ⟨[(4, .s (.bool false))], [], 0, none⟩) (K (.exit 0) ⟨[(4, .s (.bool false))], [], 0, none⟩) k w5 w6
  | 0, _, _ => rfl
  | k + 1, w5, w6 => by
    unfold refNumbersF_l1
    exact (refNumbersF_s2_eq fuel k K w6 w5 a b).trans (congr (congr (congr (Eq.refl (refNumbersF_s2 (R := Out) w6 w5 a b)) (rfl)) (funext fun a11 => funext fun a12 => refNumbersF_l1_eq fuel a b K k a11 a12)) (rfl))
noncomputable def refNumbersF_s3 {R : Type}  (c0 : Bool → Option R) : Option R :=
  c0 false
theorem refNumbersF_s3_eq (fuel : Nat)   : (kont (fnX Tryd.prog mode2 T_shuf fuel 26 0) (bodyOf Tryd.prog 18) [1, 1, 0, 1, 0] 16 (endK Tryd.prog 0 0 18)) .ret ⟨[(4, .s (.bool false))], [], 0, none⟩ = refNumbersF_s3  (fun (a15 : Bool) => some (.s (.bool a15), [])) := by kernel_rfl
noncomputable def refNumbersF_s4 {R : Type}  (c0 : Bool → Option R) : Option R :=
  c0 true
theorem refNumbersF_s4_eq (fuel : Nat)   : (kont (fnX Tryd.prog mode2 T_shuf fuel 26 0) (bodyOf Tryd.prog 18) [1, 1, 0, 1, 0] 16 (endK Tryd.prog 0 0 18)) (.exit 0) ⟨[(4, .s (.bool false))], [], 0, none⟩ = refNumbersF_s4  (fun (a16 : Bool) => some (.s (.bool a16), [])) := by kernel_rfl
noncomputable def refNumbersF_s1 {R : Type} (a : List Int) (b : List Int) (c0 : Bool → Option R) (c1 : Int → Int → Option R) : Option R :=
  br ((((a.length : Nat) : Int) : Int) != ((b.length : Nat) : Int))
    (c0 false)
    (c1 ((a.length : Nat) : Int) 0)
theorem refNumbersF_s1_eq (fuel : Nat)  (a : List Int) (b : List Int) : callN Tryd.prog mode2 T_shuf fuel 18 [.li .i64 a, .li .i64 b] [] = refNumbersF_s1 a b (fun (a1 : Bool) => some (.s (.bool a1), [])) (fun (a13 : Int) (a14 : Int) => lpN (sub (bodyOf Tryd.prog 18) [1, 1, 0, 1, 0, 0]) (fnX Tryd.prog mode2 T_shuf fuel 26 0) 16 [0, 1, 4, 12, 13] fuel ⟨[(0, .li .i64 a), (1, .li .i64 b), (4, .s (.bool false)), (12, .s (.int .i64 a13)), (13, .s (.int .i64 a14))], [], 0, none⟩ (kont (fnX Tryd.prog mode2 T_shuf fuel 26 0) (bodyOf Tryd.prog 18) [1, 1, 0, 1, 0] 16 (endK Tryd.prog 0 0 18))) := by kernel_rfl
noncomputable def refNumbersF {R : Type} (fuel : Nat) (a : List Int) (b : List Int) (r0 : Bool → Option R) : Option R :=
  (refNumbersF_s1 a b (fun (a1 : Bool) => r0 a1) (fun (a13 : Int) (a14 : Int) => (refNumbersF_l1 fuel a b ((refNumbersF_s3 (fun (a15 : Bool) => r0 a15))) ((refNumbersF_s4 (fun (a16 : Bool) => r0 a16))) fuel a13 a14)))
theorem refNumbersF_eq (fuel : Nat) (a : List Int) (b : List Int) : callN Tryd.prog mode2 T_shuf fuel 18 [.li .i64 a, .li .i64 b] [] = refNumbersF fuel a b (fun (z0 : Bool) => some (.s (.bool z0), [])) := by
  unfold refNumbersF
  exact (refNumbersF_s1_eq fuel  a b).trans (congr (congr (Eq.refl (refNumbersF_s1 (R := Out) a b)) (rfl)) (funext fun a13 => funext fun a14 => (refNumbersF_l1_eq fuel a b (kont (fnX Tryd.prog mode2 T_shuf fuel 26 0) (bodyOf Tryd.prog 18) [1, 1, 0, 1, 0] 16 (endK Tryd.prog 0 0 18)) fuel a13 a14).trans (congrFun (congrFun (congrFun (congr (congr (Eq.refl (refNumbersF_l1 (R := Out) fuel a b)) ((refNumbersF_s3_eq fuel  ))) ((refNumbersF_s4_eq fuel  ))) fuel) a13) a14)))
theorem refNumbers_loop {R : Type} (fuel : Nat) (a b : List Int) (hab : a.length = b.length) (hx : a.length ≤ 1000000) (k0 k1 : Option R) : ∀ (k j : Nat), j ≤ a.length → a.length < j + k → refNumbersF_l1 fuel a b k0 k1 k (a.length : Int) (j : Int) = if a.drop j = b.drop j then k1 else k0
  | 0, j, h1, h2 => by omega
  | k + 1, j, h1, h2 => by
    unfold refNumbersF_l1 refNumbersF_s2
    rw [br_if]
    by_cases hc : j < a.length
    · have hc2 : j < b.length := by omega
      rw [if_pos (by simpa using hc), bnd_of ((ix_nat a j).trans (List.getElem?_eq_getElem hc)), bnd_of ((ix_nat b j).trans (List.getElem?_eq_getElem hc2)), br_if, List.drop_eq_getElem_cons hc, List.drop_eq_getElem_cons hc2, wrap_i64 (by omega) (by omega), show (j : Int) + 1 = ((j + 1 : Nat) : Int) by omega]
      dsimp only
      rw [refNumbers_loop fuel a b hab hx k0 k1 k (j + 1) (by omega) (by omega)]
      generalize a[j] = x
      generalize b[j] = y
      generalize a.drop (j + 1) = t
      generalize b.drop (j + 1) = u
      by_cases he : x = y <;> simp [he]
    · rw [if_neg (by simpa using hc), List.drop_eq_nil_of_le (by omega), List.drop_eq_nil_of_le (by omega)]
      simp
theorem refNumbers_fact (a : List Int) (b : List Int) (hg : (decide (a.length ≤ 1000000)) = true) : Fact Tryd.prog gTab 18 [.li .i64 a, .li .i64 b] [] (.s (.bool (eqS_li a b)), []) := by
  have hg := of_decide_eq_true hg
  refine callN_fact hN hM T_shuf_ok (n := a.length + 1) (mode := mode2) ?_
  rw [refNumbersF_eq]
  unfold refNumbersF refNumbersF_s1
  rw [br_if]
  by_cases hab : a.length = b.length
  · rw [if_neg (by simp; omega)]
    dsimp only
    have := refNumbers_loop (R := Out) (a.length + 1) a b hab hg
    rw [show (0 : Int) = ((0 : Nat) : Int) from rfl, this _ _ _ _ (by omega) (by omega), List.drop_zero, List.drop_zero, eqS_li_eq]
    unfold eqI_li refNumbersF_s3 refNumbersF_s4
    by_cases h : a = b <;> simp [h]
  · rw [if_pos (by simp; omega), eqS_li_eq]
    unfold eqI_li
    have : a ≠ b := by rintro rfl; exact hab rfl
    simp [this]
noncomputable def refNumbers_ent : List V → List Blk → Option (Bool × Out)
  | [w0, w1], [] => (asSl (.int .i64) w0).bind fun a => (asSl (.int .i64) w1).bind fun b => some ((decide (a.length ≤ 1000000)), (.s (.bool (eqS_li a b)), []))
  | _, _ => none
theorem refNumbers_ok : ∀ args bs out, refNumbers_ent args bs = some (true, out) → Fact Tryd.prog gTab 18 args bs out := by
  intro args bs out h
  unfold refNumbers_ent at h
  split at h
  · rename_i w0 w1
    obtain ⟨a, h_a, h⟩ := Option.bind_eq_some_iff.1 h
    obtain ⟨b, h_b, h⟩ := Option.bind_eq_some_iff.1 h
    simp only [Option.some.injEq, Prod.mk.injEq] at h
    obtain ⟨hg, rfl⟩ := h
    exact (refNumbers_fact a b hg).args (fun _ _ _ => fun _ h => RVs_two (fun _ h => RV_li h_a h) (fun _ h => RVs_two (fun _ h => RV_li h_b h) (fun _ h => h) h) h)
  · cases h
noncomputable def T_refNumbers : Tbl := Tbl.cons 18 refNumbers_ent T_shuf
theorem T_refNumbers_ok : CallOk Tryd.prog gTab T_refNumbers := cons_ok T_shuf_ok refNumbers_ok
def mode3 : FuncId → Nat := fun f => bif Nat.beq f 179 then 2 else 0
/-! downpour/bitrow.sized -/
noncomputable def rsizedF_s1 {R : Type} (n : Int) (c0 : Bool → Option R) : Option R :=
  br (decide (n ≥ 0))
    (c0 (decide (n ≤ 512)))
    (c0 false)
theorem rsizedF_s1_eq (fuel : Nat)  (n : Int) : callN Tryd.prog mode3 T_refNumbers fuel 124 [.s (.int .i64 n)] [] = rsizedF_s1 n (fun (a1 : Bool) => some (.s (.bool a1), [])) := by kernel_rfl
noncomputable def rsizedF {R : Type} (fuel : Nat) (n : Int) (r0 : Bool → Option R) : Option R :=
  (rsizedF_s1 n (fun (a1 : Bool) => r0 a1))
theorem rsizedF_eq (fuel : Nat) (n : Int) : callN Tryd.prog mode3 T_refNumbers fuel 124 [.s (.int .i64 n)] [] = rsizedF fuel n (fun (z0 : Bool) => some (.s (.bool z0), [])) := by
  unfold rsizedF
  exact (rsizedF_s1_eq fuel  n)
theorem rsized_fact (n : Int) : Fact Tryd.prog gTab 124 [.s (.int .i64 n)] [] (.s (.bool (szB n)), []) := by
  refine callN_fact hN hM T_refNumbers_ok (n := 0) (mode := mode3) ?_
  rw [rsizedF_eq]
  unfold rsizedF rsizedF_s1 szB
  rw [br_if]
  by_cases h : 0 ≤ n
  · simp [h]
  · simp [h]
noncomputable def rsized_ent : List V → List Blk → Option (Bool × Out)
  | [.s (.int .i64 n)], [] => some (true, (.s (.bool (szB n)), []))
  | _, _ => none
theorem rsized_ok : ∀ args bs out, rsized_ent args bs = some (true, out) → Fact Tryd.prog gTab 124 args bs out := by
  intro args bs out h
  unfold rsized_ent at h
  split at h
  · rename_i n
    simp only [Option.some.injEq, Prod.mk.injEq] at h
    obtain ⟨_, rfl⟩ := h
    exact rsized_fact n
  · cases h
noncomputable def T_rsized : Tbl := Tbl.cons 124 rsized_ent T_refNumbers
theorem T_rsized_ok : CallOk Tryd.prog gTab T_rsized := cons_ok T_refNumbers_ok rsized_ok
/-! downpour/bitrow.fresh -/
noncomputable def freshF_s1 {R : Type} (n : Int) (c0 : Int → Nat → Nat → List Int → Option R) : Option R :=
  bnd (divI .quo .i64 (IntKind.i64.wrap ((IntKind.i64.wrap (n + 64)) - 1)) 64) fun v1 =>
  bnd (mkN v1 v1 8) fun n2 =>
  c0 n 0 n2 (List.replicate n2 (0 : Int))
theorem freshF_s1_eq (fuel : Nat)  (n : Int) : callN Tryd.prog mode3 T_rsized fuel 179 [.s (.int .i64 n)] [] = freshF_s1 n (fun (a3 : Int) (a4 : Nat) (a5 : Nat) (a6 : List Int) => some (.agg [.s (.int .i64 a3), .sl 0 1 a4 a5], [some ⟨22, .li .u64 a6, true⟩])) := by kernel_rfl
noncomputable def freshF {R : Type} (fuel : Nat) (n : Int) (r0 : Int → Nat → Nat → List Int → Option R) : Option R :=
  (freshF_s1 n (fun (a3 : Int) (a4 : Nat) (a5 : Nat) (a6 : List Int) => r0 a3 a4 a5 a6))
theorem freshF_eq (fuel : Nat) (n : Int) : callN Tryd.prog mode3 T_rsized fuel 179 [.s (.int .i64 n)] [] = freshF fuel n (fun (z0 : Int) (z1 : Nat) (z2 : Nat) (z3 : List Int) => some (.agg [.s (.int .i64 z0), .sl 0 1 z1 z2], [some ⟨22, .li .u64 z3, true⟩])) := by
  unfold freshF
  exact (freshF_s1_eq fuel  n)
theorem count_words {n : Int} (h0 : 0 ≤ n) (h1 : n ≤ 512) : divI .quo .i64 (IntKind.i64.wrap (IntKind.i64.wrap (n + 64) - 1)) 64 = some ((nw n : Nat) : Int) := by
  rw [wrap_i64 (x := n + 64) (by omega) (by omega), wrap_i64 (by omega) (by omega), quo_i64 (by omega) (by omega) (by decide), nw_cast h0]
  congr 2
  omega
theorem fresh_fact (n : Int) (hg : (szB n) = true) : Fact Tryd.prog gTab 179 [.s (.int .i64 n)] [] (.agg [.s (.int .i64 n), .sl 0 1 0 (nw n)], [some ⟨22, .li .u64 (zerosS (nw n)), true⟩]) := by
  obtain ⟨h0, h1⟩ := szB_iff.1 hg
  refine callN_fact hN hM T_rsized_ok (n := 0) (mode := mode3) ?_
  rw [freshF_eq]
  unfold freshF freshF_s1
  have hl := nw_le h1
  rw [count_words h0 h1, bnd_some, bnd_of (mkN_of (by omega) (by omega) (by omega)), Int.toNat_natCast, zerosS_eq]
  rfl
noncomputable def fresh_ent : List V → List Blk → Option (Bool × Out)
  | [.s (.int .i64 n)], [] => some ((szB n), (.agg [.s (.int .i64 n), .sl 0 1 0 (nw n)], [some ⟨22, .li .u64 (zerosS (nw n)), true⟩]))
  | _, _ => none
theorem fresh_ok : ∀ args bs out, fresh_ent args bs = some (true, out) → Fact Tryd.prog gTab 179 args bs out := by
  intro args bs out h
  unfold fresh_ent at h
  split at h
  · rename_i n
    simp only [Option.some.injEq, Prod.mk.injEq] at h
    obtain ⟨hg, rfl⟩ := h
    exact fresh_fact n hg
  · cases h
noncomputable def T_fresh : Tbl := Tbl.cons 179 fresh_ent T_rsized
theorem T_fresh_ok : CallOk Tryd.prog gTab T_fresh := cons_ok T_rsized_ok fresh_ok
/-! downpour/bitrow.Right -/
noncomputable def rightF_s1 {R : Type} (n : Int) (ws : List Int) (c0 : Bool → Option R) : Option R :=
  br (!(szB n))
    (c0 false)
    (bnd (divI .quo .i64 (IntKind.i64.wrap ((IntKind.i64.wrap (n + 64)) - 1)) 64) fun v2 =>
    br (((ws.length : Nat) : Int) != v2)
      (c0 false)
      (bnd (divI .rem .i64 n 64) fun v4 =>
      br (v4 == 0)
        (c0 true)
        (bnd (ix ws (IntKind.i64.wrap (((ws.length : Nat) : Int) - 1))) fun e6 =>
        bnd (divI .rem .i64 n 64) fun v7 =>
        bnd (shfI .shr .u64 e6 v7) fun v8 =>
        c0 (v8 == 0))))
theorem rightF_s1_eq (fuel : Nat)  (n : Int) (ws : List Int) : callN Tryd.prog mode3 T_fresh fuel 69 [.agg [.s (.int .i64 n), .li .u64 ws]] [] = rightF_s1 n ws (fun (a1 : Bool) => some (.s (.bool a1), [])) := by kernel_rfl
noncomputable def rightF {R : Type} (fuel : Nat) (n : Int) (ws : List Int) (r0 : Bool → Option R) : Option R :=
  (rightF_s1 n ws (fun (a1 : Bool) => r0 a1))
theorem rightF_eq (fuel : Nat) (n : Int) (ws : List Int) : callN Tryd.prog mode3 T_fresh fuel 69 [.agg [.s (.int .i64 n), .li .u64 ws]] [] = rightF fuel n ws (fun (z0 : Bool) => some (.s (.bool z0), [])) := by
  unfold rightF
  exact (rightF_s1_eq fuel  n ws)
theorem right_fact (n : Int) (ws : List Int) (hg : (okW ws) = true) : Fact Tryd.prog gTab 69 [.agg [.s (.int .i64 n), .li .u64 ws]] [] (.s (.bool (rtS n ws)), []) := by
  have hok := okW_iff.1 hg
  refine callN_fact hN hM T_fresh_ok (n := 0) (mode := mode3) ?_
  rw [rightF_eq]
  unfold rightF rightF_s1
  by_cases hs : szB n = true
  · obtain ⟨h0, h1⟩ := szB_iff.1 hs
    have hw := nw_cast h0
    rw [hs, br_if, if_neg (by decide), count_words h0 h1, bnd_some, br_if]
    by_cases hl : ws.length = nw n
    · rw [if_neg (by simp [hl]), bnd_of (rem_pos h0 (by decide)), br_if]
      obtain ⟨j, rfl⟩ : ∃ j : Nat, n = (j : Int) := ⟨n.toNat, by omega⟩
      have hlt := val_lt hok
      by_cases hm : (j : Int) % 64 = 0
      · rw [if_pos (by simpa using hm)]
        have : rtS (j : Int) ws = true := rtS_iff.2 ⟨⟨h0, h1⟩, hl, by rw [Int.toNat_natCast]; rwa [show 64 * ws.length = j by omega] at hlt⟩
        rw [this]
      · rw [if_neg (by simpa using hm)]
        have hpos : 0 < ws.length := by omega
        have hi : IntKind.i64.wrap (((ws.length : Nat) : Int) - 1) = ((ws.length - 1 : Nat) : Int) := by rw [wrap_i64 (by omega) (by omega)]; omega
        have hget : ws[ws.length - 1]? = some (ws.getD (ws.length - 1) 0) := by rw [List.getD_eq_getElem?_getD, List.getElem?_eq_getElem (by omega)]; rfl
        have hr := hok.getD (ws.length - 1)
        rw [hi, bnd_of ((ix_nat _ _).trans hget), bnd_of (rem_pos h0 (by decide)), show (j : Int) % 64 = ((j % 64 : Nat) : Int) by omega, bnd_of (shr_nat hr.1 (Nat.mod_lt _ (by decide)))]
        have hli := last_iff hok hpos (n := j) (by omega)
        rw [show j - 64 * (ws.length - 1) = j % 64 by omega] at hli
        refine congrArg (fun b => (some (V.s (.bool b), []) : Option Out)) ?_
        rw [Bool.eq_iff_iff, rtS_iff]
        simp only [beq_iff_eq]
        constructor
        · intro h
          exact ⟨⟨h0, h1⟩, hl, by rw [Int.toNat_natCast]; exact hli.1 (by omega)⟩
        · rintro ⟨_, _, h⟩
          rw [Int.toNat_natCast] at h
          have := hli.2 h
          omega
    · rw [if_pos (by simp; omega)]
      have : rtS n ws = false := by rw [Bool.eq_false_iff]; intro h; exact hl (rtS_iff.1 h).2.1
      rw [this]
  · rw [br_if, if_pos (by simpa using hs)]
    have : rtS n ws = false := by rw [Bool.eq_false_iff]; intro h; exact hs (szB_iff.2 (rtS_iff.1 h).1)
    rw [this]
noncomputable def right_ent : List V → List Blk → Option (Bool × Out)
  | [.agg [.s (.int .i64 n), w0]], [] => (asSl (.int .u64) w0).bind fun ws => some ((okW ws), (.s (.bool (rtS n ws)), []))
  | _, _ => none
theorem right_ok : ∀ args bs out, right_ent args bs = some (true, out) → Fact Tryd.prog gTab 69 args bs out := by
  intro args bs out h
  unfold right_ent at h
  split at h
  · rename_i n w0
    obtain ⟨ws, h_ws, h⟩ := Option.bind_eq_some_iff.1 h
    simp only [Option.some.injEq, Prod.mk.injEq] at h
    obtain ⟨hg, rfl⟩ := h
    exact (right_fact n ws hg).args (fun _ _ _ => fun _ h => RVs_two (fun _ h => RV_agg_two (fun _ h => RVs_two (fun _ h => h) (fun _ h => RVs_two (fun _ h => RV_li h_ws h) (fun _ h => h) h) h) h) (fun _ h => h) h)
  · cases h
noncomputable def T_right : Tbl := Tbl.cons 69 right_ent T_fresh
theorem T_right_ok : CallOk Tryd.prog gTab T_right := cons_ok T_fresh_ok right_ok
/-! downpour/bitrow.Of -/
noncomputable def rowOfF_s2 {R : Type} (w14 : Int) (w15 : Int) (l : List Int) (w16 : Nat) (w17 : List Int) (n : Int) (c0 : Nat → List Int → Option R) (c1 : Nat → List Int → Option R) (c2 : Int → Int → Nat → List Int → Option R) (c3 : Nat → List Int → Option R) : Option R :=
  br (decide (w14 < w15))
    (bnd (ix l w14) fun e30 =>
    br (decide (e30 < 0))
      (c0 w16 w17)
      (br (decide (e30 ≥ n))
        (c1 w16 w17)
        (bnd (divI .quo .i64 e30 64) fun v35 =>
        bnd (below v35 w16) fun j36 =>
        bnd (w17[(0 + j36)]?) fun e37 =>
        bnd (divI .rem .i64 e30 64) fun v38 =>
        bnd (shfI .shl .u64 1 v38) fun v39 =>
        bnd (below v35 w16) fun j40 =>
        bnd (w17[(0 + j40)]?) fun e41 =>
        c2 w15 (IntKind.i64.wrap (w14 + 1)) w16 (w17.set (0 + j40) (orI .u64 e37 v39)))))
    (c3 w16 w17)
theorem rowOfF_s2_eq (fuel : Nat) (k : Nat) (K : Ex → St → Option Out) (w14 : Int) (w15 : Int) (l : List Int) (w16 : Nat) (w17 : List Int) (n : Int) : lpN (sub (bodyOf Tryd.prog 123) [1, 1, 1, 0, 1, 0, 0]) (fnX Tryd.prog mode3 T_right fuel 42 0) 2199023255664 [0, 4, 5, 6, 15, 16, 17] (k + 1) ⟨[(0, .s (.int .i64 n)), (4, .ptr 0 2 0 0), (5, .s (.int .i64 0)), (6, .ptr 1 2 0 0), (15, .li .i64 l), (16, .s (.int .i64 w15)), (17, .s (.int .i64 w14))], [(0, some ⟨29, .agg [.s (.int .i64 0), .s (.slice none 0 0)], true⟩), (1, some ⟨29, .agg [.s (.int .i64 n), .sl 2 1 0 w16], true⟩), (2, some ⟨22, .li .u64 w17, true⟩)], 3, none⟩ K = rowOfF_s2 w14 w15 l w16 w17 n (fun (a31 : Nat) (a32 : List Int) => K .ret ⟨[(4, .ptr 0 2 0 0), (5, .s (.int .i64 3)), (6, .ptr 1 2 0 0)], [(0, some ⟨29, .agg [.s (.int .i64 0), .s (.slice none 0 0)], true⟩), (1, some ⟨29, .agg [.s (.int .i64 n), .sl 2 1 0 a31], true⟩), (2, some ⟨22, .li .u64 a32, true⟩)], 3, none⟩) (fun (a33 : Nat) (a34 : List Int) => K .ret ⟨[(4, .ptr 0 2 0 0), (5, .s (.int .i64 3)), (6, .ptr 1 2 0 0)], [(0, some ⟨29, .agg [.s (.int .i64 0), .s (.slice none 0 0)], true⟩), (1, some ⟨29, .agg [.s (.int .i64 n), .sl 2 1 0 a33], true⟩), (2, some ⟨22, .li .u64 a34, true⟩)], 3, none⟩) (fun (a42 : Int) (a43 : Int) (a44 : Nat) (a45 : List Int) => lpN (sub (bodyOf Tryd.prog 123) [1, 1, 1, 0, 1, 0, 0]) (fnX Tryd.prog mode3 T_right fuel 42 0) 2199023255664 [0, 4, 5, 6, 15, 16, 17] k ⟨[(0, .s (.int .i64 n)), (4, .ptr 0 2 0 0), (5, .s (.int .i64 0)), (6, .ptr 1 2 0 0), (15, .li .i64 l), (16, .s (.int .i64 a42)), (17, .s (.int .i64 a43))], [(0, some ⟨29, .agg [.s (.int .i64 0), .s (.slice none 0 0)], true⟩), (1, some ⟨29, .agg [.s (.int .i64 n), .sl 2 1 0 a44], true⟩), (2, some ⟨22, .li .u64 a45, true⟩)], 3, none⟩ K) (fun (a46 : Nat) (a47 : List Int) => K (.exit 0) ⟨[(4, .ptr 0 2 0 0), (5, .s (.int .i64 0)), (6, .ptr 1 2 0 0)], [(0, some ⟨29, .agg [.s (.int .i64 0), .s (.slice none 0 0)], true⟩), (1, some ⟨29, .agg [.s (.int .i64 n), .sl 2 1 0 a46], true⟩), (2, some ⟨22, .li .u64 a47, true⟩)], 3, none⟩) := by kernel_rfl
noncomputable def rowOfF_l1 {R : Type} (fuel : Nat) (n : Int) (l : List Int) (k0 : Nat → List Int → Option R) (k1 : Nat → List Int → Option R) : Nat → Int → Int → Nat → List Int → Option R
  | 0, _, _, _, _ => none
  | k + 1, w15, w14, w16, w17 =>
    (rowOfF_s2 w14 w15 l w16 w17 n (fun (a31 : Nat) (a32 : List Int) => k0 a31 a32) (fun (a33 : Nat) (a34 : List Int) => k0 a33 a34) (fun (a42 : Int) (a43 : Int) (a44 : Nat) (a45 : List Int) => ( rowOfF_l1 fuel n l k0 k1 k a42 a43 a44 a45 )) (fun (a46 : Nat) (a47 : List Int) => k1 a46 a47))
theorem rowOfF_l1_eq (fuel : Nat) (n : Int) (l : List Int) (K : Ex → St → Option Out) : ∀ (k : Nat) (w15 : Int) (w14 : Int) (w16 : Nat) (w17 : List Int), lpN (sub (bodyOf Tryd.prog 123) [1, 1, 1, 0, 1, 0, 0]) (fnX Tryd.prog mode3 T_right fuel 42 0) 2199023255664 [0, 4, 5, 6, 15, 16, 17] k ⟨[(0, .s (.int .i64 n)), (4, .ptr 0 2 0 0), (5, .s (.int .i64 0)), (6, .ptr 1 2 0 0), (15, .li .i64 l), (16, .s (.int .i64 w15)), (17, .s (.int .i64 w14))], [(0, some ⟨29, .agg [.s (.int .i64 0), .s (.slice none 0 0)], true⟩), (1, some ⟨29, .agg [.s (.int .i64 n), .sl 2 1 0 w16], true⟩), (2, some ⟨22, .li .u64 w17, true⟩)], 3, none⟩ K = rowOfF_l1 fuel n l (fun (y26 : Nat) (y27 : List Int) => K .ret ⟨[(4, .ptr 0 2 0 0), (5, .s (.int .i64 3)), (6, .ptr 1 2 0 0)], [(0, some ⟨29, .agg [.s (.int .i64 0), .s (.slice none 0 0)], true⟩), (1, some ⟨29, .agg [.s (.int .i64 n), .sl 2 1 0 y26], true⟩), (2, some ⟨22, .li .u64 y27, true⟩)], 3, none⟩) (fun (y28 : Nat) (y29 : List Int) => K (.exit 0) ⟨[(4, .ptr 0 2 0 0), (5, .s (.int .i64 0)), (6, .ptr 1 2 0 0)], [(0, some ⟨29, .agg [.s (.int .i64 0), .s (.slice none 0 0)], true⟩), (1, some ⟨29, .agg [.s (.int .i64 n), .sl 2 1 0 y28], true⟩), (2, some ⟨22, .li .u64 y29, true⟩)], 3, none⟩) k w15 w14 w16 w17
  | 0, _, _, _, _ => rfl
  | k + 1, w15, w14, w16, w17 => by
    unfold rowOfF_l1
    exact (rowOfF_s2_eq fuel k K w14 w15 l w16 w17 n).trans (congr (congr (congr (congr (Eq.refl (rowOfF_s2 (R := Out) w14 w15 l w16 w17 n)) (rfl)) (rfl)) (funext fun a42 => funext fun a43 => funext fun a44 => funext fun a45 => rowOfF_l1_eq fuel n l K k a42 a43 a44 a45)) (rfl))
noncomputable def rowOfF_s3 {R : Type} (n : Int) (x52 : Nat) (x53 : List Int) (c0 : Int → Int → Option R) : Option R :=
  c0 0 3
theorem rowOfF_s3_eq (fuel : Nat)  (n : Int) (x52 : Nat) (x53 : List Int) : (kont (fnX Tryd.prog mode3 T_right fuel 42 0) (bodyOf Tryd.prog 123) [1, 1, 1, 0, 1, 0] 48 (endK Tryd.prog 0 0 123)) .ret ⟨[(4, .ptr 0 2 0 0), (5, .s (.int .i64 3)), (6, .ptr 1 2 0 0)], [(0, some ⟨29, .agg [.s (.int .i64 0), .s (.slice none 0 0)], true⟩), (1, some ⟨29, .agg [.s (.int .i64 n), .sl 2 1 0 x52], true⟩), (2, some ⟨22, .li .u64 x53, true⟩)], 3, none⟩ = rowOfF_s3 n x52 x53 (fun (a54 : Int) (a55 : Int) => some (.tup [.agg [.s (.int .i64 a54), .s (.slice none 0 0)], .s (.int .i64 a55)], [])) := by kernel_rfl
noncomputable def rowOfF_s4 {R : Type} (n : Int) (x57 : List Int) (x56 : Nat) (c0 : Int → List Int → Int → Option R) : Option R :=
  c0 n ((x57.drop 0).take x56) 0
theorem rowOfF_s4_eq (fuel : Nat)  (n : Int) (x57 : List Int) (x56 : Nat) : (kont (fnX Tryd.prog mode3 T_right fuel 42 0) (bodyOf Tryd.prog 123) [1, 1, 1, 0, 1, 0] 48 (endK Tryd.prog 0 0 123)) (.exit 0) ⟨[(4, .ptr 0 2 0 0), (5, .s (.int .i64 0)), (6, .ptr 1 2 0 0)], [(0, some ⟨29, .agg [.s (.int .i64 0), .s (.slice none 0 0)], true⟩), (1, some ⟨29, .agg [.s (.int .i64 n), .sl 2 1 0 x56], true⟩), (2, some ⟨22, .li .u64 x57, true⟩)], 3, none⟩ = rowOfF_s4 n x57 x56 (fun (a58 : Int) (a59 : List Int) (a60 : Int) => some (.tup [.agg [.s (.int .i64 a58), .li .u64 a59], .s (.int .i64 a60)], [])) := by kernel_rfl
noncomputable def rowOfF_s1 {R : Type} (n : Int) (l : List Int) (c0 : Int → Int → Option R) (c1 : Int → Int → Nat → List Int → Option R) : Option R :=
  br (!(szB n))
    (c0 0 2)
    (grd (szB n) <|
    c1 ((l.length : Nat) : Int) 0 (nw n) (zerosS (nw n)))
theorem rowOfF_s1_eq (fuel : Nat)  (n : Int) (l : List Int) : callN Tryd.prog mode3 T_right fuel 123 [.s (.int .i64 n), .li .i64 l] [] = rowOfF_s1 n l (fun (a1 : Int) (a2 : Int) => some (.tup [.agg [.s (.int .i64 a1), .s (.slice none 0 0)], .s (.int .i64 a2)], [])) (fun (a48 : Int) (a49 : Int) (a50 : Nat) (a51 : List Int) => lpN (sub (bodyOf Tryd.prog 123) [1, 1, 1, 0, 1, 0, 0]) (fnX Tryd.prog mode3 T_right fuel 42 0) 2199023255664 [0, 4, 5, 6, 15, 16, 17] fuel ⟨[(0, .s (.int .i64 n)), (4, .ptr 0 2 0 0), (5, .s (.int .i64 0)), (6, .ptr 1 2 0 0), (15, .li .i64 l), (16, .s (.int .i64 a48)), (17, .s (.int .i64 a49))], [(0, some ⟨29, .agg [.s (.int .i64 0), .s (.slice none 0 0)], true⟩), (1, some ⟨29, .agg [.s (.int .i64 n), .sl 2 1 0 a50], true⟩), (2, some ⟨22, .li .u64 a51, true⟩)], 3, none⟩ (kont (fnX Tryd.prog mode3 T_right fuel 42 0) (bodyOf Tryd.prog 123) [1, 1, 1, 0, 1, 0] 48 (endK Tryd.prog 0 0 123))) := by kernel_rfl
noncomputable def rowOfF {R : Type} (fuel : Nat) (n : Int) (l : List Int) (r0 : Int → Int → Option R) (r1 : Int → List Int → Int → Option R) : Option R :=
  (rowOfF_s1 n l (fun (a1 : Int) (a2 : Int) => r0 a1 a2) (fun (a48 : Int) (a49 : Int) (a50 : Nat) (a51 : List Int) => (rowOfF_l1 fuel n l (fun (x52 : Nat) (x53 : List Int) => (rowOfF_s3 n x52 x53 (fun (a54 : Int) (a55 : Int) => r0 a54 a55))) (fun (x56 : Nat) (x57 : List Int) => (rowOfF_s4 n x57 x56 (fun (a58 : Int) (a59 : List Int) (a60 : Int) => r1 a58 a59 a60))) fuel a48 a49 a50 a51)))
theorem rowOfF_eq (fuel : Nat) (n : Int) (l : List Int) : callN Tryd.prog mode3 T_right fuel 123 [.s (.int .i64 n), .li .i64 l] [] = rowOfF fuel n l (fun (z0 : Int) (z1 : Int) => some (.tup [.agg [.s (.int .i64 z0), .s (.slice none 0 0)], .s (.int .i64 z1)], [])) (fun (z0 : Int) (z1 : List Int) (z2 : Int) => some (.tup [.agg [.s (.int .i64 z0), .li .u64 z1], .s (.int .i64 z2)], [])) := by
  unfold rowOfF
  exact (rowOfF_s1_eq fuel  n l).trans (congr (congr (Eq.refl (rowOfF_s1 (R := Out) n l)) (rfl)) (funext fun a48 => funext fun a49 => funext fun a50 => funext fun a51 => (rowOfF_l1_eq fuel n l (kont (fnX Tryd.prog mode3 T_right fuel 42 0) (bodyOf Tryd.prog 123) [1, 1, 1, 0, 1, 0] 48 (endK Tryd.prog 0 0 123)) fuel a48 a49 a50 a51).trans (congrFun (congrFun (congrFun (congrFun (congrFun (congr (congr (Eq.refl (rowOfF_l1 (R := Out) fuel n l)) (funext fun x52 => funext fun x53 => (rowOfF_s3_eq fuel  n x52 x53))) (funext fun x56 => funext fun x57 => (rowOfF_s4_eq fuel  n x57 x56))) fuel) a48) a49) a50) a51)))
theorem rowOf_loop {R : Type} (fuel : Nat) (n : Int) (l : List Int) (h0 : 0 ≤ n) (h1 : n ≤ 512) (hl : l.length ≤ 1000000) (k0 k1 : Nat → List Int → Option R) (r : Option R) (hr0 : (¬ ∀ z ∈ l, 0 ≤ z ∧ z < n) → ∀ a b, k0 a b = r)
    (hr1 : (∀ z ∈ l, 0 ≤ z ∧ z < n) → k1 (nw n) (ofS n l) = r) : ∀ (k i : Nat) (ws : List Int), i ≤ l.length → l.length < i + k → Ok ws → ws.length = nw n →
    (∀ z ∈ l.take i, 0 ≤ z ∧ z < n) → (∀ j, (val ws).testBit j = decide ((j : Int) ∈ l.take i)) → rowOfF_l1 fuel n l k0 k1 k (l.length : Int) (i : Int) (nw n) ws = r
  | 0, i, ws, hi, hk, _, _, _, _ => by omega
  | k + 1, i, ws, hi, hk, hok, hlen, hr, hb => by
    have hw := nw_cast h0
    unfold rowOfF_l1 rowOfF_s2
    rw [br_if]
    by_cases hc : i < l.length
    · have hm := List.getElem_mem hc
      have htk : ∀ z, z ∈ l.take (i + 1) ↔ z ∈ l.take i ∨ z = l[i] := fun z => by
        rw [List.take_succ_eq_append_getElem hc, List.mem_append, List.mem_singleton]
      rw [if_pos (by simpa using hc), bnd_of ((ix_nat l i).trans (List.getElem?_eq_getElem hc)), br_if]
      by_cases hz : 0 ≤ l[i] ∧ l[i] < n
      · rw [if_neg (by simp; omega), br_if, if_neg (by simp; omega)]
        obtain ⟨b, hbz⟩ : ∃ b : Nat, l[i] = (b : Int) := ⟨l[i].toNat, by omega⟩
        rw [hbz] at hz htk ⊢
        have hj : b / 64 < ws.length := by omega
        have e1 : divI .quo .i64 (b : Int) 64 = some ((b / 64 : Nat) : Int) := by rw [quo_i64 (by omega) (by omega) (by decide)]; norm_cast
        have e2 : divI .rem .i64 (b : Int) 64 = some ((b % 64 : Nat) : Int) := by rw [rem_pos (by omega) (by decide)]; norm_cast
        have e3 : below ((b / 64 : Nat) : Int) (nw n) = some (b / 64) := by rw [below_of (by omega) (by omega)]; rfl
        have e4 : ws[b / 64]? = some (ws.getD (b / 64) 0) := by rw [List.getD_eq_getElem?_getD, List.getElem?_eq_getElem hj]; rfl
        have hg := hok.getD (b / 64)
        have hb64 : b % 64 < 64 := Nat.mod_lt _ (by decide)
        have hp : 2 ^ (b % 64) < 2 ^ 64 := Nat.pow_lt_pow_right (by omega) hb64
        have hor : orI .u64 (ws.getD (b / 64) 0) ((2 ^ (b % 64) : Nat) : Int) = (((ws.getD (b / 64) 0).toNat ||| 2 ^ (b % 64) : Nat) : Int) := by
          rw [orI_nat hg.1 hg.2 (Int.natCast_nonneg _) (by generalize 2 ^ (b % 64) = p at hp ⊢; omega), Int.toNat_natCast]
        have hset := val_set_or hok (b / 64) (b % 64) hj hb64
        have hoks := ok_set_or hok (b / 64) (b % 64) hj hb64
        rw [show 64 * (b / 64) + b % 64 = b from Nat.div_add_mod b 64] at hset
        simp only [e1, bnd_some, e3, Nat.zero_add, e4, e2, shl_one hb64, hor]
        rw [wrap_i64 (by omega) (by omega), show (i : Int) + 1 = ((i + 1 : Nat) : Int) by omega]
        refine rowOf_loop fuel n l h0 h1 hl k0 k1 r hr0 hr1 k (i + 1) _ (by omega) (by omega) hoks (by rw [List.length_set]; exact hlen) ?_ ?_
        · intro z hzm
          rcases (htk z).1 hzm with hzm | rfl
          · exact hr z hzm
          · exact hz
        · intro j
          rw [hset, Nat.testBit_or, hb j, Nat.testBit_two_pow, ← Bool.decide_or, decide_eq_decide, htk]
          constructor
          · rintro (h | h)
            · exact .inl h
            · exact .inr (by omega)
          · rintro (h | h)
            · exact .inl h
            · exact .inr (by omega)
      · have hbad : ¬ ∀ z ∈ l, 0 ≤ z ∧ z < n := fun g => hz (g _ hm)
        by_cases hn : l[i] < 0
        · rw [if_pos (by simpa using hn)]; exact hr0 hbad _ _
        · rw [if_neg (by simpa using hn), br_if, if_pos (by simp; omega)]; exact hr0 hbad _ _
    · rw [if_neg (by simpa using hc)]
      have e : l.take i = l := List.take_of_length_le (by omega)
      rw [e] at hr hb
      rw [words_of (n := n) (l := l) hok hlen (fun j => by rw [hb j, decide_eq_decide]; exact ⟨fun h => ⟨h, (hr _ h).2⟩, fun h => h.1⟩)]
      exact hr1 hr
theorem rowOf_fact (n : Int) (l : List Int) (hg : (decide (l.length ≤ 1000000)) = true) : Fact Tryd.prog gTab 123 [.s (.int .i64 n), .li .i64 l] [] (.tup [.agg [.s (.int .i64 (if ofOk n l = true then n else 0)), .li .u64 (if ofOk n l = true then ofS n l else [])], .s (.int .i64 (ofErr n l))], []) := by
  have hl := of_decide_eq_true hg
  have hnil : ∀ e : Int, ofOk n l = false → ofErr n l = e → Fact Tryd.prog gTab 123 [.s (.int .i64 n), .li .i64 l] [] (.tup [.agg [.s (.int .i64 0), .s (.slice none 0 0)], .s (.int .i64 e)], []) → Fact Tryd.prog gTab 123 [.s (.int .i64 n), .li .i64 l] [] (.tup [.agg [.s (.int .i64 (if ofOk n l = true then n else 0)), .li .u64 (if ofOk n l = true then ofS n l else [])], .s (.int .i64 (ofErr n l))], []) := by
    intro e h1 h2 h
    rw [h1, h2]
    exact h.out fun _ _ _ x h => RV_tup_two (fun _ h => RVs_two (fun _ h => RV_agg_two (fun _ h => RVs_two (fun _ h => h) (fun _ h => RVs_two (fun _ h => RV_nil_li h) (fun _ h => h) h) h) h) (fun _ h => h) h) h
  by_cases hs : szB n = true
  · obtain ⟨h0, h1⟩ := szB_iff.1 hs
    have hlen := nw_le h1
    have hloop := fun (k0 k1 : Nat → List Int → Option Out) r hr0 hr1 => rowOf_loop (l.length + 1) n l h0 h1 hl k0 k1 r hr0 hr1 (l.length + 1) 0 (zerosS (nw n)) (by omega) (by omega) (by rw [zerosS_eq]; exact ok_replicate _) (by rw [zerosS_eq]; exact List.length_replicate) (fun z hz => by simp at hz) (fun j => by rw [zerosS_eq]; unfold zerosI; rw [val_replicate]; simp)
    by_cases hall : ∀ z ∈ l, 0 ≤ z ∧ z < n
    · have hok : ofOk n l = true := ofOk_iff.2 ⟨⟨h0, h1⟩, hall⟩
      have he : ofErr n l = 0 := by rw [ofErr_eq]; unfold ofErrI; rw [if_pos hok]
      rw [hok, he]
      refine callN_fact hN hM T_right_ok (n := l.length + 1) (mode := mode3) ?_
      rw [rowOfF_eq]
      unfold rowOfF rowOfF_s1
      rw [hs, br_if, if_neg (by decide), grd_tt]
      refine hloop _ _ _ (fun h => absurd hall h) fun _ => ?_
      unfold rowOfF_s4
      rw [List.drop_zero, ← of_len n l, List.take_length]
      rfl
    · have hok : ofOk n l = false := by rw [Bool.eq_false_iff]; intro h; exact hall (ofOk_iff.1 h).2
      refine hnil 3 hok (by rw [ofErr_eq]; unfold ofErrI; rw [hok, hs]; rfl) ?_
      refine callN_fact hN hM T_right_ok (n := l.length + 1) (mode := mode3) ?_
      rw [rowOfF_eq]
      unfold rowOfF rowOfF_s1
      rw [hs, br_if, if_neg (by decide), grd_tt]
      exact hloop _ _ _ (fun _ _ _ => rfl) fun h => absurd h hall
  · have hok : ofOk n l = false := by rw [Bool.eq_false_iff]; intro h; exact hs (szB_iff.2 (ofOk_iff.1 h).1)
    have hs' : szB n = false := by rw [Bool.eq_false_iff]; exact hs
    refine hnil 2 hok (by rw [ofErr_eq]; unfold ofErrI; rw [hok, hs']; rfl) ?_
    refine callN_fact hN hM T_right_ok (n := 0) (mode := mode3) ?_
    rw [rowOfF_eq]
    unfold rowOfF rowOfF_s1
    rw [hs', br_if, if_pos (by decide)]
noncomputable def rowOf_ent : List V → List Blk → Option (Bool × Out)
  | [.s (.int .i64 n), w0], [] => (asSl (.int .i64) w0).bind fun l => some ((decide (l.length ≤ 1000000)), (.tup [.agg [.s (.int .i64 (if ofOk n l = true then n else 0)), .li .u64 (if ofOk n l = true then ofS n l else [])], .s (.int .i64 (ofErr n l))], []))
  | _, _ => none
theorem rowOf_ok : ∀ args bs out, rowOf_ent args bs = some (true, out) → Fact Tryd.prog gTab 123 args bs out := by
  intro args bs out h
  unfold rowOf_ent at h
  split at h
  · rename_i n w0
    obtain ⟨l, h_l, h⟩ := Option.bind_eq_some_iff.1 h
    simp only [Option.some.injEq, Prod.mk.injEq] at h
    obtain ⟨hg, rfl⟩ := h
    exact (rowOf_fact n l hg).args (fun _ _ _ => fun _ h => RVs_two (fun _ h => h) (fun _ h => RVs_two (fun _ h => RV_li h_l h) (fun _ h => h) h) h)
  · cases h
noncomputable def T_rowOf : Tbl := Tbl.cons 123 rowOf_ent T_right
theorem T_rowOf_ok : CallOk Tryd.prog gTab T_rowOf := cons_ok T_right_ok rowOf_ok
/-! downpour/bitrow.Get -/
noncomputable def getF_s1 {R : Type} (ws : List Int) (n : Int) (i : Int) (c0 : Int → Int → Option R) : Option R :=
  grd (okW ws) <|
  br (!(rtS n ws))
    (c0 0 1)
    (br (decide (i < 0))
      (c0 0 3)
      (br (decide (i ≥ n))
        (c0 0 3)
        (bnd (divI .quo .i64 i 64) fun v7 =>
        bnd (ix ws v7) fun e8 =>
        bnd (divI .rem .i64 i 64) fun v9 =>
        bnd (shfI .shr .u64 e8 v9) fun v10 =>
        c0 (IntKind.i64.wrap (andI .u64 v10 1)) 0)))
theorem getF_s1_eq (fuel : Nat)  (ws : List Int) (n : Int) (i : Int) : callN Tryd.prog mode3 T_rowOf fuel 86 [.agg [.s (.int .i64 n), .li .u64 ws], .s (.int .i64 i)] [] = getF_s1 ws n i (fun (a1 : Int) (a2 : Int) => some (.tup [.s (.int .i64 a1), .s (.int .i64 a2)], [])) := by kernel_rfl
noncomputable def getF {R : Type} (fuel : Nat) (n : Int) (ws : List Int) (i : Int) (r0 : Int → Int → Option R) : Option R :=
  (getF_s1 ws n i (fun (a1 : Int) (a2 : Int) => r0 a1 a2))
theorem getF_eq (fuel : Nat) (n : Int) (ws : List Int) (i : Int) : callN Tryd.prog mode3 T_rowOf fuel 86 [.agg [.s (.int .i64 n), .li .u64 ws], .s (.int .i64 i)] [] = getF fuel n ws i (fun (z0 : Int) (z1 : Int) => some (.tup [.s (.int .i64 z0), .s (.int .i64 z1)], [])) := by
  unfold getF
  exact (getF_s1_eq fuel  ws n i)
theorem get_fact (n : Int) (ws : List Int) (i : Int) (hg : (okW ws) = true) : Fact Tryd.prog gTab 86 [.agg [.s (.int .i64 n), .li .u64 ws], .s (.int .i64 i)] [] (.tup [.s (.int .i64 (getS n ws i)), .s (.int .i64 (getErr n ws i))], []) := by
  have hok := okW_iff.1 hg
  refine callN_fact hN hM T_rowOf_ok (n := 0) (mode := mode3) ?_
  rw [getF_eq]
  unfold getF getF_s1
  rw [grd_of hg, br_if, br_if, br_if, getS_eq, getErr_eq]
  unfold getI getErrI
  by_cases hr : rtS n ws = true
  · have hr' := rtS_iff.1 hr
    obtain ⟨⟨a1, a2⟩, a3, a4⟩ := hr'
    have hw := nw_cast a1
    rw [if_neg (by simp [hr])]
    by_cases h0 : i < 0
    · rw [if_pos (by simpa using h0)]
      have : ¬ (0 ≤ i ∧ i < n) := by omega
      simp [hr, this]
    · rw [if_neg (by simpa using h0)]
      by_cases h1 : i < n
      · rw [if_neg (by simp; omega)]
        obtain ⟨j, rfl⟩ : ∃ j : Nat, i = (j : Int) := ⟨i.toNat, by omega⟩
        have hj : j / 64 < ws.length := by omega
        have e1 : divI .quo .i64 (j : Int) 64 = some ((j / 64 : Nat) : Int) := by rw [quo_i64 (by omega) (by omega) (by decide)]; norm_cast
        have e2 : divI .rem .i64 (j : Int) 64 = some ((j % 64 : Nat) : Int) := by rw [rem_pos (by omega) (by decide)]; norm_cast
        have e4 : ix ws ((j / 64 : Nat) : Int) = some (ws.getD (j / 64) 0) := by rw [ix_nat, List.getD_eq_getElem?_getD, List.getElem?_eq_getElem hj]; rfl
        have hg2 := hok.getD (j / 64)
        have hb64 : j % 64 < 64 := Nat.mod_lt _ (by decide)
        simp only [e1, bnd_some, e4, e2, shr_nat hg2.1 hb64]
        have hq : (ws.getD (j / 64) 0).toNat / 2 ^ (j % 64) < 18446744073709551616 := Nat.lt_of_le_of_lt (Nat.div_le_self _ _) (by omega)
        have hw : IntKind.i64.wrap (andI .u64 (((ws.getD (j / 64) 0).toNat / 2 ^ (j % 64) : Nat) : Int) 1) = bitI ws (j : Int) := by
          rw [andI_nat (Int.natCast_nonneg _) (by omega) (by decide) (by decide), Int.toNat_natCast, show (1 : Int).toNat = 1 from rfl, Nat.and_one_is_mod, wrap_i64 (by omega) (by omega)]
          unfold bitI
          rw [Int.toNat_natCast, testBit_val hok, Nat.testBit_eq_decide_div_mod_eq]
          generalize (ws.getD (j / 64) 0).toNat / 2 ^ (j % 64) = q
          by_cases h : q % 2 = 1
          · simp [h]
          · simp [h]; omega
        rw [hw, if_pos ⟨hr, by omega, h1⟩, if_pos hr, if_pos ⟨by omega, h1⟩]
      · rw [if_pos (by simp; omega)]
        have : ¬ (0 ≤ i ∧ i < n) := by omega
        simp [hr, this]
  · rw [if_pos (by simp [hr])]
    simp [hr]
noncomputable def get_ent : List V → List Blk → Option (Bool × Out)
  | [.agg [.s (.int .i64 n), w0], .s (.int .i64 i)], [] => (asSl (.int .u64) w0).bind fun ws => some ((okW ws), (.tup [.s (.int .i64 (getS n ws i)), .s (.int .i64 (getErr n ws i))], []))
  | _, _ => none
theorem get_ok : ∀ args bs out, get_ent args bs = some (true, out) → Fact Tryd.prog gTab 86 args bs out := by
  intro args bs out h
  unfold get_ent at h
  split at h
  · rename_i n w0 i
    obtain ⟨ws, h_ws, h⟩ := Option.bind_eq_some_iff.1 h
    simp only [Option.some.injEq, Prod.mk.injEq] at h
    obtain ⟨hg, rfl⟩ := h
    exact (get_fact n ws i hg).args (fun _ _ _ => fun _ h => RVs_two (fun _ h => RV_agg_two (fun _ h => RVs_two (fun _ h => h) (fun _ h => RVs_two (fun _ h => RV_li h_ws h) (fun _ h => h) h) h) h) (fun _ h => h) h)
  · cases h
noncomputable def T_get : Tbl := Tbl.cons 86 get_ent T_rowOf
theorem T_get_ok : CallOk Tryd.prog gTab T_get := cons_ok T_rowOf_ok get_ok
def mode4 : FuncId → Nat := fun f => 0
/-! downpour/downpourref01.words -/
noncomputable def refWordsF_s1 {R : Type} (n : Int) (c0 : Int → Option R) : Option R :=
  bnd (divI .quo .i64 (IntKind.i64.wrap (n + 63)) 64) fun v1 =>
  c0 v1
theorem refWordsF_s1_eq (fuel : Nat)  (n : Int) : callN Tryd.prog mode4 T_get fuel 133 [.s (.int .i64 n)] [] = refWordsF_s1 n (fun (a2 : Int) => some (.s (.int .i64 a2), [])) := by kernel_rfl
noncomputable def refWordsF {R : Type} (fuel : Nat) (n : Int) (r0 : Int → Option R) : Option R :=
  (refWordsF_s1 n (fun (a2 : Int) => r0 a2))
theorem refWordsF_eq (fuel : Nat) (n : Int) : callN Tryd.prog mode4 T_get fuel 133 [.s (.int .i64 n)] [] = refWordsF fuel n (fun (z0 : Int) => some (.s (.int .i64 z0), [])) := by
  unfold refWordsF
  exact (refWordsF_s1_eq fuel  n)
theorem refWords_fact (n : Int) (hg : (decide (0 ≤ n) && decide (n ≤ 1000000)) = true) : Fact Tryd.prog gTab 133 [.s (.int .i64 n)] [] (.s (.int .i64 (((nw n : Nat) : Int))), []) := by
  simp only [Bool.and_eq_true, decide_eq_true_eq] at hg
  refine callN_fact hN hM T_get_ok (n := 0) (mode := mode4) ?_
  rw [refWordsF_eq]
  unfold refWordsF refWordsF_s1
  rw [wrap_i64 (by omega) (by omega), bnd_of (quo_i64 (by omega) (by omega) (by decide)), nw_cast hg.1]
noncomputable def refWords_ent : List V → List Blk → Option (Bool × Out)
  | [.s (.int .i64 n)], [] => some ((decide (0 ≤ n) && decide (n ≤ 1000000)), (.s (.int .i64 (((nw n : Nat) : Int))), []))
  | _, _ => none
theorem refWords_ok : ∀ args bs out, refWords_ent args bs = some (true, out) → Fact Tryd.prog gTab 133 args bs out := by
  intro args bs out h
  unfold refWords_ent at h
  split at h
  · rename_i n
    simp only [Option.some.injEq, Prod.mk.injEq] at h
    obtain ⟨hg, rfl⟩ := h
    exact refWords_fact n hg
  · cases h
noncomputable def T_refWords : Tbl := Tbl.cons 133 refWords_ent T_get
theorem T_refWords_ok : CallOk Tryd.prog gTab T_refWords := cons_ok T_get_ok refWords_ok
/-! downpour/downpourref01.In -/
noncomputable def refIn1F_s2 {R : Type} (w4 : Int) (w3 : Int) (l : List Int) (n : Int) (c0 : Option R) (c1 : Int → Int → Option R) (c2 : Option R) : Option R :=
  br (decide (w4 < w3))
    (bnd (ix l w4) fun e6 =>
    br (e6 == n)
      (c0)
      (c1 w3 (IntKind.i64.wrap (w4 + 1))))
    (c2)
theorem refIn1F_s2_eq (fuel : Nat) (k : Nat) (K : Ex → St → Option Out) (w4 : Int) (w3 : Int) (l : List Int) (n : Int) : lpN (sub (bodyOf Tryd.prog 80) [1, 0, 1, 0, 0]) (fnX Tryd.prog mode4 T_refWords fuel 17 0) 16 [1, 4, 7, 8, 9] (k + 1) ⟨[(1, .s (.int .i64 n)), (4, .s (.bool false)), (7, .li .i64 l), (8, .s (.int .i64 w3)), (9, .s (.int .i64 w4))], [], 0, none⟩ K = refIn1F_s2 w4 w3 l n (K .ret ⟨[(4, .s (.bool true))], [], 0, none⟩) (fun (a7 : Int) (a8 : Int) => lpN (sub (bodyOf Tryd.prog 80) [1, 0, 1, 0, 0]) (fnX Tryd.prog mode4 T_refWords fuel 17 0) 16 [1, 4, 7, 8, 9] k ⟨[(1, .s (.int .i64 n)), (4, .s (.bool false)), (7, .li .i64 l), (8, .s (.int .i64 a7)), (9, .s (.int .i64 a8))], [], 0, none⟩ K) (K (.exit 0) ⟨[(4, .s (.bool false))], [], 0, none⟩) := by kernel_rfl
noncomputable def refIn1F_l1 {R : Type} (fuel : Nat) (n : Int) (l : List Int) (k0 : Option R) (k1 : Option R) : Nat → Int → Int → Option R
  | 0, _, _ => none
  | k + 1, w3, w4 =>
    (refIn1F_s2 w4 w3 l n (k0) (fun (a7 : Int) (a8 : Int) => ( refIn1F_l1 fuel n l k0 k1 k a7 a8 )) (k1))
theorem refIn1F_l1_eq (fuel : Nat) (n : Int) (l : List Int) (K : Ex → St → Option Out) : ∀ (k : Nat) (w3 : Int) (w4 : Int), lpN (sub (bodyOf Tryd.prog 80) [1, 0, 1, 0, 0]) (fnX Tryd.prog mode4 T_refWords fuel 17 0) 16 [1, 4, 7, 8, 9] k ⟨[(1, .s (.int .i64 n)), (4, .s (.bool false)), (7, .li .i64 l), (8, .s (.int .i64 w3)), (9, .s (.int .i64 w4))], [], 0, none⟩ K = refIn1F_l1 fuel n l (K .ret ⟨[(4, .s (.bool true))], [], 0, none⟩) (K (.exit 0) ⟨[(4, .s (.bool false))], [], 0, none⟩) k w3 w4
  | 0, _, _ => rfl
  | k + 1, w3, w4 => by
    unfold refIn1F_l1
    exact (refIn1F_s2_eq fuel k K w4 w3 l n).trans (congr (congr (congr (Eq.refl (refIn1F_s2 (R := Out) w4 w3 l n)) (rfl)) (funext fun a7 => funext fun a8 => refIn1F_l1_eq fuel n l K k a7 a8)) (rfl))
noncomputable def refIn1F_s3 {R : Type}  (c0 : Bool → Option R) : Option R :=
  c0 true
theorem refIn1F_s3_eq (fuel : Nat)   : (kont (fnX Tryd.prog mode4 T_refWords fuel 17 0) (bodyOf Tryd.prog 80) [1, 0, 1, 0] 16 (endK Tryd.prog 0 0 80)) .ret ⟨[(4, .s (.bool true))], [], 0, none⟩ = refIn1F_s3  (fun (a11 : Bool) => some (.s (.bool a11), [])) := by kernel_rfl
noncomputable def refIn1F_s4 {R : Type}  (c0 : Bool → Option R) : Option R :=
  c0 false
theorem refIn1F_s4_eq (fuel : Nat)   : (kont (fnX Tryd.prog mode4 T_refWords fuel 17 0) (bodyOf Tryd.prog 80) [1, 0, 1, 0] 16 (endK Tryd.prog 0 0 80)) (.exit 0) ⟨[(4, .s (.bool false))], [], 0, none⟩ = refIn1F_s4  (fun (a12 : Bool) => some (.s (.bool a12), [])) := by kernel_rfl
noncomputable def refIn1F_s1 {R : Type} (l : List Int) (n : Int) (c0 : Int → Int → Option R) : Option R :=
  c0 ((l.length : Nat) : Int) 0
theorem refIn1F_s1_eq (fuel : Nat)  (l : List Int) (n : Int) : callN Tryd.prog mode4 T_refWords fuel 80 [.li .i64 l, .s (.int .i64 n)] [] = refIn1F_s1 l n (fun (a9 : Int) (a10 : Int) => lpN (sub (bodyOf Tryd.prog 80) [1, 0, 1, 0, 0]) (fnX Tryd.prog mode4 T_refWords fuel 17 0) 16 [1, 4, 7, 8, 9] fuel ⟨[(1, .s (.int .i64 n)), (4, .s (.bool false)), (7, .li .i64 l), (8, .s (.int .i64 a9)), (9, .s (.int .i64 a10))], [], 0, none⟩ (kont (fnX Tryd.prog mode4 T_refWords fuel 17 0) (bodyOf Tryd.prog 80) [1, 0, 1, 0] 16 (endK Tryd.prog 0 0 80))) := by kernel_rfl
noncomputable def refIn1F {R : Type} (fuel : Nat) (l : List Int) (n : Int) (r0 : Bool → Option R) : Option R :=
  (refIn1F_s1 l n (fun (a9 : Int) (a10 : Int) => (refIn1F_l1 fuel n l ((refIn1F_s3 (fun (a11 : Bool) => r0 a11))) ((refIn1F_s4 (fun (a12 : Bool) => r0 a12))) fuel a9 a10)))
theorem refIn1F_eq (fuel : Nat) (l : List Int) (n : Int) : callN Tryd.prog mode4 T_refWords fuel 80 [.li .i64 l, .s (.int .i64 n)] [] = refIn1F fuel l n (fun (z0 : Bool) => some (.s (.bool z0), [])) := by
  unfold refIn1F
  exact (refIn1F_s1_eq fuel  l n).trans (congr (Eq.refl (refIn1F_s1 (R := Out) l n)) (funext fun a9 => funext fun a10 => (refIn1F_l1_eq fuel n l (kont (fnX Tryd.prog mode4 T_refWords fuel 17 0) (bodyOf Tryd.prog 80) [1, 0, 1, 0] 16 (endK Tryd.prog 0 0 80)) fuel a9 a10).trans (congrFun (congrFun (congrFun (congr (congr (Eq.refl (refIn1F_l1 (R := Out) fuel n l)) ((refIn1F_s3_eq fuel  ))) ((refIn1F_s4_eq fuel  ))) fuel) a9) a10)))
theorem refIn1_loop {R : Type} (fuel : Nat) (n : Int) (xs : List Int) (hx : xs.length ≤ 1000000) (k0 k1 : Option R) : ∀ (k j : Nat), j ≤ xs.length → xs.length < j + k → refIn1F_l1 fuel n xs k0 k1 k (xs.length : Int) (j : Int) = if (xs.drop j).contains n = true then k0 else k1
  | 0, j, h1, h2 => by omega
  | k + 1, j, h1, h2 => by
    unfold refIn1F_l1 refIn1F_s2
    rw [br_if]
    by_cases hc : j < xs.length
    · rw [if_pos (by simpa using hc), bnd_of ((ix_nat xs j).trans (List.getElem?_eq_getElem hc)), br_if, List.drop_eq_getElem_cons hc, wrap_i64 (by omega) (by omega), show (j : Int) + 1 = ((j + 1 : Nat) : Int) by omega]
      dsimp only
      rw [refIn1_loop fuel n xs hx k0 k1 k (j + 1) (by omega) (by omega)]
      generalize xs[j] = x
      generalize xs.drop (j + 1) = t
      rw [List.contains_cons]
      by_cases he : x = n
      · simp [he]
      · have he' : ¬ n = x := fun h => he h.symm
        simp [he, he']
    · rw [if_neg (by simpa using hc), List.drop_eq_nil_of_le (by omega)]
      simp
theorem refIn1_fact (l : List Int) (n : Int) (hg : (decide (l.length ≤ 1000000)) = true) : Fact Tryd.prog gTab 80 [.li .i64 l, .s (.int .i64 n)] [] (.s (.bool (inL l n)), []) := by
  have hl := of_decide_eq_true hg
  refine callN_fact hN hM T_refWords_ok (n := l.length + 1) (mode := mode4) ?_
  rw [refIn1F_eq]
  unfold refIn1F refIn1F_s1
  have := refIn1_loop (R := Out) (l.length + 1) n l hl
  dsimp only
  rw [show (0 : Int) = ((0 : Nat) : Int) from rfl, this _ _ _ _ (by omega) (by omega), List.drop_zero, inL_eq]
  unfold inLI refIn1F_s3 refIn1F_s4
  cases l.contains n <;> rfl
noncomputable def refIn1_ent : List V → List Blk → Option (Bool × Out)
  | [w0, .s (.int .i64 n)], [] => (asSl (.int .i64) w0).bind fun l => some ((decide (l.length ≤ 1000000)), (.s (.bool (inL l n)), []))
  | _, _ => none
theorem refIn1_ok : ∀ args bs out, refIn1_ent args bs = some (true, out) → Fact Tryd.prog gTab 80 args bs out := by
  intro args bs out h
  unfold refIn1_ent at h
  split at h
  · rename_i w0 n
    obtain ⟨l, h_l, h⟩ := Option.bind_eq_some_iff.1 h
    simp only [Option.some.injEq, Prod.mk.injEq] at h
    obtain ⟨hg, rfl⟩ := h
    exact (refIn1_fact l n hg).args (fun _ _ _ => fun _ h => RVs_two (fun _ h => RV_li h_l h) (fun _ h => h) h)
  · cases h
noncomputable def T_refIn1 : Tbl := Tbl.cons 80 refIn1_ent T_refWords
theorem T_refIn1_ok : CallOk Tryd.prog gTab T_refIn1 := cons_ok T_refWords_ok refIn1_ok
/-! downpour/downpourref01.From -/
noncomputable def refFromF_s3 {R : Type} (w98 : Int) (l : List Int) (w97 : Int) (w99 : Int) (w100 : Int) (w101 : Bool) (w1 : Int) (c0 : Int → Int → Int → Int → Bool → Option R) (c1 : Int → Int → Int → Int → Bool → Option R) (c2 : Int → Int → Int → Int → Bool → Option R) (c3 : Int → Int → Int → Int → Bool → Bool → Option R) : Option R :=
  br (decide (w98 ≥ 0))
    (br (decide ((IntKind.i64.wrap (0 + w98)) < ((l.length : Nat) : Int)))
      (bnd (ix l (IntKind.i64.wrap (0 + w98))) fun e109 =>
      br (e109 == 1)
        (c0 (IntKind.u64.wrap ((IntKind.u64.wrap (2 * w97)) + 1)) (IntKind.i64.wrap (w98 - 1)) w99 w100 w101)
        (c1 (IntKind.u64.wrap (2 * w97)) (IntKind.i64.wrap (w98 - 1)) w99 w100 w101))
      (c2 (IntKind.u64.wrap (2 * w97)) (IntKind.i64.wrap (w98 - 1)) w99 w100 w101))
    (c3 w97 w98 w99 w100 w101 (decide (w98 ≥ 0)))
theorem refFromF_s3_eq (fuel : Nat) (k : Nat) (K : Ex → St → Option Out) (w98 : Int) (l : List Int) (w97 : Int) (w99 : Int) (w100 : Int) (w101 : Bool) (w1 : Int) : lpN (sub (sub (bodyOf Tryd.prog 148) [1, 1, 0, 1, 0, 0]) [1, 0, 0, 1, 0, 1, 0, 0]) (fnX Tryd.prog mode4 T_refIn1 fuel 49 0) 562949953420413 [0, 2, 3, 4, 5, 6, 10, 11, 12, 13, 14] (k + 1) ⟨[(0, .li .i64 l), (2, .ptr 0 2 0 0), (3, .ptr 1 2 0 0), (4, .s (.int .i64 0)), (5, .s (.int .u64 w97)), (6, .s (.int .i64 w98)), (10, .s (.int .i64 0)), (11, .li .i64 l), (12, .s (.int .i64 w99)), (13, .s (.int .i64 w100)), (14, .s (.bool w101))], [(0, some ⟨29, .agg [.s (.int .i64 0), .s (.slice none 0 0)], true⟩), (1, some ⟨29, .agg [.s (.int .i64 w1), .s (.slice none 0 0)], true⟩)], 2, none⟩ K = refFromF_s3 w98 l w97 w99 w100 w101 w1 (fun (a110 : Int) (a111 : Int) (a112 : Int) (a113 : Int) (a114 : Bool) => lpN (sub (sub (bodyOf Tryd.prog 148) [1, 1, 0, 1, 0, 0]) [1, 0, 0, 1, 0, 1, 0, 0]) (fnX Tryd.prog mode4 T_refIn1 fuel 49 0) 562949953420413 [0, 2, 3, 4, 5, 6, 10, 11, 12, 13, 14] k ⟨[(0, .li .i64 l), (2, .ptr 0 2 0 0), (3, .ptr 1 2 0 0), (4, .s (.int .i64 0)), (5, .s (.int .u64 a110)), (6, .s (.int .i64 a111)), (10, .s (.int .i64 0)), (11, .li .i64 l), (12, .s (.int .i64 a112)), (13, .s (.int .i64 a113)), (14, .s (.bool a114))], [(0, some ⟨29, .agg [.s (.int .i64 0), .s (.slice none 0 0)], true⟩), (1, some ⟨29, .agg [.s (.int .i64 w1), .s (.slice none 0 0)], true⟩)], 2, none⟩ K) (fun (a115 : Int) (a116 : Int) (a117 : Int) (a118 : Int) (a119 : Bool) => lpN (sub (sub (bodyOf Tryd.prog 148) [1, 1, 0, 1, 0, 0]) [1, 0, 0, 1, 0, 1, 0, 0]) (fnX Tryd.prog mode4 T_refIn1 fuel 49 0) 562949953420413 [0, 2, 3, 4, 5, 6, 10, 11, 12, 13, 14] k ⟨[(0, .li .i64 l), (2, .ptr 0 2 0 0), (3, .ptr 1 2 0 0), (4, .s (.int .i64 0)), (5, .s (.int .u64 a115)), (6, .s (.int .i64 a116)), (10, .s (.int .i64 0)), (11, .li .i64 l), (12, .s (.int .i64 a117)), (13, .s (.int .i64 a118)), (14, .s (.bool a119))], [(0, some ⟨29, .agg [.s (.int .i64 0), .s (.slice none 0 0)], true⟩), (1, some ⟨29, .agg [.s (.int .i64 w1), .s (.slice none 0 0)], true⟩)], 2, none⟩ K) (fun (a120 : Int) (a121 : Int) (a122 : Int) (a123 : Int) (a124 : Bool) => lpN (sub (sub (bodyOf Tryd.prog 148) [1, 1, 0, 1, 0, 0]) [1, 0, 0, 1, 0, 1, 0, 0]) (fnX Tryd.prog mode4 T_refIn1 fuel 49 0) 562949953420413 [0, 2, 3, 4, 5, 6, 10, 11, 12, 13, 14] k ⟨[(0, .li .i64 l), (2, .ptr 0 2 0 0), (3, .ptr 1 2 0 0), (4, .s (.int .i64 0)), (5, .s (.int .u64 a120)), (6, .s (.int .i64 a121)), (10, .s (.int .i64 0)), (11, .li .i64 l), (12, .s (.int .i64 a122)), (13, .s (.int .i64 a123)), (14, .s (.bool a124))], [(0, some ⟨29, .agg [.s (.int .i64 0), .s (.slice none 0 0)], true⟩), (1, some ⟨29, .agg [.s (.int .i64 w1), .s (.slice none 0 0)], true⟩)], 2, none⟩ K) (fun (a125 : Int) (a126 : Int) (a127 : Int) (a128 : Int) (a129 : Bool) (a130 : Bool) => K (.exit 2) ⟨[(0, .li .i64 l), (2, .ptr 0 2 0 0), (3, .ptr 1 2 0 0), (4, .s (.int .i64 0)), (5, .s (.int .u64 a125)), (6, .s (.int .i64 a126)), (10, .s (.int .i64 0)), (11, .li .i64 l), (12, .s (.int .i64 a127)), (13, .s (.int .i64 a128)), (14, .s (.bool a129)), (17, .s (.int .i64 a126)), (18, .s (.bool a130))], [(0, some ⟨29, .agg [.s (.int .i64 0), .s (.slice none 0 0)], true⟩), (1, some ⟨29, .agg [.s (.int .i64 w1), .s (.slice none 0 0)], true⟩)], 2, none⟩) := by kernel_rfl
noncomputable def refFromF_l2 {R : Type} (fuel : Nat) (l : List Int) (w1 : Int) (k0 : Int → Int → Int → Int → Bool → Bool → Option R) : Nat → Int → Int → Int → Int → Bool → Option R
  | 0, _, _, _, _, _ => none
  | k + 1, w97, w98, w99, w100, w101 =>
    (refFromF_s3 w98 l w97 w99 w100 w101 w1 (fun (a110 : Int) (a111 : Int) (a112 : Int) (a113 : Int) (a114 : Bool) => ( refFromF_l2 fuel l w1 k0 k a110 a111 a112 a113 a114 )) (fun (a115 : Int) (a116 : Int) (a117 : Int) (a118 : Int) (a119 : Bool) => ( refFromF_l2 fuel l w1 k0 k a115 a116 a117 a118 a119 )) (fun (a120 : Int) (a121 : Int) (a122 : Int) (a123 : Int) (a124 : Bool) => ( refFromF_l2 fuel l w1 k0 k a120 a121 a122 a123 a124 )) (fun (a125 : Int) (a126 : Int) (a127 : Int) (a128 : Int) (a129 : Bool) (a130 : Bool) => k0 a125 a126 a127 a128 a129 a130))
theorem refFromF_l2_eq (fuel : Nat) (l : List Int) (w1 : Int) (K : Ex → St → Option Out) : ∀ (k : Nat) (w97 : Int) (w98 : Int) (w99 : Int) (w100 : Int) (w101 : Bool), lpN (sub (sub (bodyOf Tryd.prog 148) [1, 1, 0, 1, 0, 0]) [1, 0, 0, 1, 0, 1, 0, 0]) (fnX Tryd.prog mode4 T_refIn1 fuel 49 0) 562949953420413 [0, 2, 3, 4, 5, 6, 10, 11, 12, 13, 14] k ⟨[(0, .li .i64 l), (2, .ptr 0 2 0 0), (3, .ptr 1 2 0 0), (4, .s (.int .i64 0)), (5, .s (.int .u64 w97)), (6, .s (.int .i64 w98)), (10, .s (.int .i64 0)), (11, .li .i64 l), (12, .s (.int .i64 w99)), (13, .s (.int .i64 w100)), (14, .s (.bool w101))], [(0, some ⟨29, .agg [.s (.int .i64 0), .s (.slice none 0 0)], true⟩), (1, some ⟨29, .agg [.s (.int .i64 w1), .s (.slice none 0 0)], true⟩)], 2, none⟩ K = refFromF_l2 fuel l w1 (fun (y103 : Int) (y104 : Int) (y105 : Int) (y106 : Int) (y107 : Bool) (y108 : Bool) => K (.exit 2) ⟨[(0, .li .i64 l), (2, .ptr 0 2 0 0), (3, .ptr 1 2 0 0), (4, .s (.int .i64 0)), (5, .s (.int .u64 y103)), (6, .s (.int .i64 y104)), (10, .s (.int .i64 0)), (11, .li .i64 l), (12, .s (.int .i64 y105)), (13, .s (.int .i64 y106)), (14, .s (.bool y107)), (17, .s (.int .i64 y104)), (18, .s (.bool y108))], [(0, some ⟨29, .agg [.s (.int .i64 0), .s (.slice none 0 0)], true⟩), (1, some ⟨29, .agg [.s (.int .i64 w1), .s (.slice none 0 0)], true⟩)], 2, none⟩) k w97 w98 w99 w100 w101
  | 0, _, _, _, _, _ => rfl
  | k + 1, w97, w98, w99, w100, w101 => by
    unfold refFromF_l2
    exact (refFromF_s3_eq fuel k K w98 l w97 w99 w100 w101 w1).trans (congr (congr (congr (congr (Eq.refl (refFromF_s3 (R := Out) w98 l w97 w99 w100 w101 w1)) (funext fun a110 => funext fun a111 => funext fun a112 => funext fun a113 => funext fun a114 => refFromF_l2_eq fuel l w1 K k a110 a111 a112 a113 a114)) (funext fun a115 => funext fun a116 => funext fun a117 => funext fun a118 => funext fun a119 => refFromF_l2_eq fuel l w1 K k a115 a116 a117 a118 a119)) (funext fun a120 => funext fun a121 => funext fun a122 => funext fun a123 => funext fun a124 => refFromF_l2_eq fuel l w1 K k a120 a121 a122 a123 a124)) (rfl))
noncomputable def refFromF_s6 {R : Type} (w207 : Int) (w170 : Int) (l : List Int) (w206 : Int) (w208 : Int) (w209 : Int) (w210 : Bool) (w1 : Int) (w171 : Nat) (w172 : List Int) (c0 : Int → Int → Int → Int → Bool → Option R) (c1 : Int → Int → Int → Int → Bool → Option R) (c2 : Int → Int → Int → Int → Bool → Option R) (c3 : Int → Int → Int → Int → Bool → Bool → Option R) : Option R :=
  br (decide (w207 ≥ 0))
    (br (decide ((IntKind.i64.wrap ((IntKind.i64.wrap (64 * w170)) + w207)) < ((l.length : Nat) : Int)))
      (bnd (ix l (IntKind.i64.wrap ((IntKind.i64.wrap (64 * w170)) + w207))) fun e218 =>
      br (e218 == 1)
        (c0 (IntKind.u64.wrap ((IntKind.u64.wrap (2 * w206)) + 1)) (IntKind.i64.wrap (w207 - 1)) w208 w209 w210)
        (c1 (IntKind.u64.wrap (2 * w206)) (IntKind.i64.wrap (w207 - 1)) w208 w209 w210))
      (c2 (IntKind.u64.wrap (2 * w206)) (IntKind.i64.wrap (w207 - 1)) w208 w209 w210))
    (c3 w206 w207 w208 w209 w210 (decide (w207 ≥ 0)))
theorem refFromF_s6_eq (fuel : Nat) (k : Nat) (K : Ex → St → Option Out) (w207 : Int) (w170 : Int) (l : List Int) (w206 : Int) (w208 : Int) (w209 : Int) (w210 : Bool) (w1 : Int) (w171 : Nat) (w172 : List Int) : lpN (sub (sub (bodyOf Tryd.prog 148) [1, 1, 0, 1, 0, 0]) [1, 0, 0, 1, 0, 1, 0, 0]) (fnX Tryd.prog mode4 T_refIn1 fuel 49 0) 562949953420413 [0, 2, 3, 4, 5, 6, 10, 11, 12, 13, 14] (k + 1) ⟨[(0, .li .i64 l), (2, .ptr 0 2 0 0), (3, .ptr 1 2 0 0), (4, .s (.int .i64 w170)), (5, .s (.int .u64 w206)), (6, .s (.int .i64 w207)), (10, .s (.int .i64 w170)), (11, .li .i64 l), (12, .s (.int .i64 w208)), (13, .s (.int .i64 w209)), (14, .s (.bool w210))], [(0, some ⟨29, .agg [.s (.int .i64 0), .s (.slice none 0 0)], true⟩), (1, some ⟨29, .agg [.s (.int .i64 w1), .sl 2 1 0 w171], true⟩), (2, some ⟨22, .li .u64 w172, true⟩)], 3, none⟩ K = refFromF_s6 w207 w170 l w206 w208 w209 w210 w1 w171 w172 (fun (a219 : Int) (a220 : Int) (a221 : Int) (a222 : Int) (a223 : Bool) => lpN (sub (sub (bodyOf Tryd.prog 148) [1, 1, 0, 1, 0, 0]) [1, 0, 0, 1, 0, 1, 0, 0]) (fnX Tryd.prog mode4 T_refIn1 fuel 49 0) 562949953420413 [0, 2, 3, 4, 5, 6, 10, 11, 12, 13, 14] k ⟨[(0, .li .i64 l), (2, .ptr 0 2 0 0), (3, .ptr 1 2 0 0), (4, .s (.int .i64 w170)), (5, .s (.int .u64 a219)), (6, .s (.int .i64 a220)), (10, .s (.int .i64 w170)), (11, .li .i64 l), (12, .s (.int .i64 a221)), (13, .s (.int .i64 a222)), (14, .s (.bool a223))], [(0, some ⟨29, .agg [.s (.int .i64 0), .s (.slice none 0 0)], true⟩), (1, some ⟨29, .agg [.s (.int .i64 w1), .sl 2 1 0 w171], true⟩), (2, some ⟨22, .li .u64 w172, true⟩)], 3, none⟩ K) (fun (a224 : Int) (a225 : Int) (a226 : Int) (a227 : Int) (a228 : Bool) => lpN (sub (sub (bodyOf Tryd.prog 148) [1, 1, 0, 1, 0, 0]) [1, 0, 0, 1, 0, 1, 0, 0]) (fnX Tryd.prog mode4 T_refIn1 fuel 49 0) 562949953420413 [0, 2, 3, 4, 5, 6, 10, 11, 12, 13, 14] k ⟨[(0, .li .i64 l), (2, .ptr 0 2 0 0), (3, .ptr 1 2 0 0), (4, .s (.int .i64 w170)), (5, .s (.int .u64 a224)), (6, .s (.int .i64 a225)), (10, .s (.int .i64 w170)), (11, .li .i64 l), (12, .s (.int .i64 a226)), (13, .s (.int .i64 a227)), (14, .s (.bool a228))], [(0, some ⟨29, .agg [.s (.int .i64 0), .s (.slice none 0 0)], true⟩), (1, some ⟨29, .agg [.s (.int .i64 w1), .sl 2 1 0 w171], true⟩), (2, some ⟨22, .li .u64 w172, true⟩)], 3, none⟩ K) (fun (a229 : Int) (a230 : Int) (a231 : Int) (a232 : Int) (a233 : Bool) => lpN (sub (sub (bodyOf Tryd.prog 148) [1, 1, 0, 1, 0, 0]) [1, 0, 0, 1, 0, 1, 0, 0]) (fnX Tryd.prog mode4 T_refIn1 fuel 49 0) 562949953420413 [0, 2, 3, 4, 5, 6, 10, 11, 12, 13, 14] k ⟨[(0, .li .i64 l), (2, .ptr 0 2 0 0), (3, .ptr 1 2 0 0), (4, .s (.int .i64 w170)), (5, .s (.int .u64 a229)), (6, .s (.int .i64 a230)), (10, .s (.int .i64 w170)), (11, .li .i64 l), (12, .s (.int .i64 a231)), (13, .s (.int .i64 a232)), (14, .s (.bool a233))], [(0, some ⟨29, .agg [.s (.int .i64 0), .s (.slice none 0 0)], true⟩), (1, some ⟨29, .agg [.s (.int .i64 w1), .sl 2 1 0 w171], true⟩), (2, some ⟨22, .li .u64 w172, true⟩)], 3, none⟩ K) (fun (a234 : Int) (a235 : Int) (a236 : Int) (a237 : Int) (a238 : Bool) (a239 : Bool) => K (.exit 2) ⟨[(0, .li .i64 l), (2, .ptr 0 2 0 0), (3, .ptr 1 2 0 0), (4, .s (.int .i64 w170)), (5, .s (.int .u64 a234)), (6, .s (.int .i64 a235)), (10, .s (.int .i64 w170)), (11, .li .i64 l), (12, .s (.int .i64 a236)), (13, .s (.int .i64 a237)), (14, .s (.bool a238)), (17, .s (.int .i64 a235)), (18, .s (.bool a239))], [(0, some ⟨29, .agg [.s (.int .i64 0), .s (.slice none 0 0)], true⟩), (1, some ⟨29, .agg [.s (.int .i64 w1), .sl 2 1 0 w171], true⟩), (2, some ⟨22, .li .u64 w172, true⟩)], 3, none⟩) := by kernel_rfl
noncomputable def refFromF_l4 {R : Type} (fuel : Nat) (l : List Int) (w170 : Int) (w1 : Int) (w171 : Nat) (w172 : List Int) (k0 : Int → Int → Int → Int → Bool → Bool → Option R) : Nat → Int → Int → Int → Int → Bool → Option R
  | 0, _, _, _, _, _ => none
  | k + 1, w206, w207, w208, w209, w210 =>
    (refFromF_s6 w207 w170 l w206 w208 w209 w210 w1 w171 w172 (fun (a219 : Int) (a220 : Int) (a221 : Int) (a222 : Int) (a223 : Bool) => ( refFromF_l4 fuel l w170 w1 w171 w172 k0 k a219 a220 a221 a222 a223 )) (fun (a224 : Int) (a225 : Int) (a226 : Int) (a227 : Int) (a228 : Bool) => ( refFromF_l4 fuel l w170 w1 w171 w172 k0 k a224 a225 a226 a227 a228 )) (fun (a229 : Int) (a230 : Int) (a231 : Int) (a232 : Int) (a233 : Bool) => ( refFromF_l4 fuel l w170 w1 w171 w172 k0 k a229 a230 a231 a232 a233 )) (fun (a234 : Int) (a235 : Int) (a236 : Int) (a237 : Int) (a238 : Bool) (a239 : Bool) => k0 a234 a235 a236 a237 a238 a239))
theorem refFromF_l4_eq (fuel : Nat) (l : List Int) (w170 : Int) (w1 : Int) (w171 : Nat) (w172 : List Int) (K : Ex → St → Option Out) : ∀ (k : Nat) (w206 : Int) (w207 : Int) (w208 : Int) (w209 : Int) (w210 : Bool), lpN (sub (sub (bodyOf Tryd.prog 148) [1, 1, 0, 1, 0, 0]) [1, 0, 0, 1, 0, 1, 0, 0]) (fnX Tryd.prog mode4 T_refIn1 fuel 49 0) 562949953420413 [0, 2, 3, 4, 5, 6, 10, 11, 12, 13, 14] k ⟨[(0, .li .i64 l), (2, .ptr 0 2 0 0), (3, .ptr 1 2 0 0), (4, .s (.int .i64 w170)), (5, .s (.int .u64 w206)), (6, .s (.int .i64 w207)), (10, .s (.int .i64 w170)), (11, .li .i64 l), (12, .s (.int .i64 w208)), (13, .s (.int .i64 w209)), (14, .s (.bool w210))], [(0, some ⟨29, .agg [.s (.int .i64 0), .s (.slice none 0 0)], true⟩), (1, some ⟨29, .agg [.s (.int .i64 w1), .sl 2 1 0 w171], true⟩), (2, some ⟨22, .li .u64 w172, true⟩)], 3, none⟩ K = refFromF_l4 fuel l w170 w1 w171 w172 (fun (y212 : Int) (y213 : Int) (y214 : Int) (y215 : Int) (y216 : Bool) (y217 : Bool) => K (.exit 2) ⟨[(0, .li .i64 l), (2, .ptr 0 2 0 0), (3, .ptr 1 2 0 0), (4, .s (.int .i64 w170)), (5, .s (.int .u64 y212)), (6, .s (.int .i64 y213)), (10, .s (.int .i64 w170)), (11, .li .i64 l), (12, .s (.int .i64 y214)), (13, .s (.int .i64 y215)), (14, .s (.bool y216)), (17, .s (.int .i64 y213)), (18, .s (.bool y217))], [(0, some ⟨29, .agg [.s (.int .i64 0), .s (.slice none 0 0)], true⟩), (1, some ⟨29, .agg [.s (.int .i64 w1), .sl 2 1 0 w171], true⟩), (2, some ⟨22, .li .u64 w172, true⟩)], 3, none⟩) k w206 w207 w208 w209 w210
  | 0, _, _, _, _, _ => rfl
  | k + 1, w206, w207, w208, w209, w210 => by
    unfold refFromF_l4
    exact (refFromF_s6_eq fuel k K w207 w170 l w206 w208 w209 w210 w1 w171 w172).trans (congr (congr (congr (congr (Eq.refl (refFromF_s6 (R := Out) w207 w170 l w206 w208 w209 w210 w1 w171 w172)) (funext fun a219 => funext fun a220 => funext fun a221 => funext fun a222 => funext fun a223 => refFromF_l4_eq fuel l w170 w1 w171 w172 K k a219 a220 a221 a222 a223)) (funext fun a224 => funext fun a225 => funext fun a226 => funext fun a227 => funext fun a228 => refFromF_l4_eq fuel l w170 w1 w171 w172 K k a224 a225 a226 a227 a228)) (funext fun a229 => funext fun a230 => funext fun a231 => funext fun a232 => funext fun a233 => refFromF_l4_eq fuel l w170 w1 w171 w172 K k a229 a230 a231 a232 a233)) (rfl))
noncomputable def refFromF_s7 {R : Type} (w172 : List Int) (w171 : Nat) (w170 : Int) (x245 : Int) (l : List Int) (x246 : Int) (x247 : Int) (x248 : Int) (x249 : Bool) (x250 : Bool) (w1 : Int) (c0 : Int → Nat → List Int → Option R) : Option R :=
  grd (Nat.beq w172.length w171) <|
  grd (okN (w171 + 1) 8) <|
  c0 (IntKind.i64.wrap (w170 + 1)) ((w172 ++ [x245]).length) (w172 ++ [x245])
theorem refFromF_s7_eq (fuel : Nat) (k : Nat) (K : Ex → St → Option Out) (w172 : List Int) (w171 : Nat) (w170 : Int) (x245 : Int) (l : List Int) (x246 : Int) (x247 : Int) (x248 : Int) (x249 : Bool) (x250 : Bool) (w1 : Int) : (kont (fnX Tryd.prog mode4 T_refIn1 fuel 49 0) (sub (bodyOf Tryd.prog 148) [1, 1, 0, 1, 0, 0]) [1, 0, 0, 1, 0, 1, 0] 562949953420413 (rdK (sub (bodyOf Tryd.prog 148) [1, 1, 0, 1, 0, 0]) (fnX Tryd.prog mode4 T_refIn1 fuel 49 0) 281474976710668 [0, 2, 3, 4] k K)) (.exit 2) ⟨[(0, .li .i64 l), (2, .ptr 0 2 0 0), (3, .ptr 1 2 0 0), (4, .s (.int .i64 w170)), (5, .s (.int .u64 x245)), (6, .s (.int .i64 x246)), (10, .s (.int .i64 w170)), (11, .li .i64 l), (12, .s (.int .i64 x247)), (13, .s (.int .i64 x248)), (14, .s (.bool x249)), (17, .s (.int .i64 x246)), (18, .s (.bool x250))], [(0, some ⟨29, .agg [.s (.int .i64 0), .s (.slice none 0 0)], true⟩), (1, some ⟨29, .agg [.s (.int .i64 w1), .sl 2 1 0 w171], true⟩), (2, some ⟨22, .li .u64 w172, true⟩)], 3, none⟩ = refFromF_s7 w172 w171 w170 x245 l x246 x247 x248 x249 x250 w1 (fun (a251 : Int) (a252 : Nat) (a253 : List Int) => lpN (sub (bodyOf Tryd.prog 148) [1, 1, 0, 1, 0, 0]) (fnX Tryd.prog mode4 T_refIn1 fuel 49 0) 281474976710668 [0, 2, 3, 4] k ⟨[(0, .li .i64 l), (2, .ptr 0 2 0 0), (3, .ptr 1 2 0 0), (4, .s (.int .i64 a251))], [(0, some ⟨29, .agg [.s (.int .i64 0), .s (.slice none 0 0)], true⟩), (1, some ⟨29, .agg [.s (.int .i64 w1), .sl 2 1 0 a252], true⟩), (2, some ⟨22, .li .u64 a253, true⟩)], 3, none⟩ K) := by kernel_rfl
noncomputable def refFromF_s5 {R : Type} (l : List Int) (w170 : Int) (w171 : Nat) (w172 : List Int) (w1 : Int) (c0 : Int → Int → Int → Int → Bool → Option R) (c1 : Nat → List Int → Option R) : Option R :=
  grd (decide (0 ≤ ((l.length : Nat) : Int)) && decide (((l.length : Nat) : Int) ≤ 1000000)) <|
  br (decide (w170 < (((nw ((l.length : Nat) : Int) : Nat) : Int))))
    (c0 0 63 ((l.length : Nat) : Int) (((nw ((l.length : Nat) : Int) : Nat) : Int)) (decide (w170 < (((nw ((l.length : Nat) : Int) : Nat) : Int)))))
    (c1 w171 w172)
theorem refFromF_s5_eq (fuel : Nat) (k : Nat) (K : Ex → St → Option Out) (l : List Int) (w170 : Int) (w171 : Nat) (w172 : List Int) (w1 : Int) : lpN (sub (bodyOf Tryd.prog 148) [1, 1, 0, 1, 0, 0]) (fnX Tryd.prog mode4 T_refIn1 fuel 49 0) 281474976710668 [0, 2, 3, 4] (k + 1) ⟨[(0, .li .i64 l), (2, .ptr 0 2 0 0), (3, .ptr 1 2 0 0), (4, .s (.int .i64 w170))], [(0, some ⟨29, .agg [.s (.int .i64 0), .s (.slice none 0 0)], true⟩), (1, some ⟨29, .agg [.s (.int .i64 w1), .sl 2 1 0 w171], true⟩), (2, some ⟨22, .li .u64 w172, true⟩)], 3, none⟩ K = refFromF_s5 l w170 w171 w172 w1 (fun (a240 : Int) (a241 : Int) (a242 : Int) (a243 : Int) (a244 : Bool) => lpN (sub (sub (bodyOf Tryd.prog 148) [1, 1, 0, 1, 0, 0]) [1, 0, 0, 1, 0, 1, 0, 0]) (fnX Tryd.prog mode4 T_refIn1 fuel 49 0) 562949953420413 [0, 2, 3, 4, 5, 6, 10, 11, 12, 13, 14] fuel ⟨[(0, .li .i64 l), (2, .ptr 0 2 0 0), (3, .ptr 1 2 0 0), (4, .s (.int .i64 w170)), (5, .s (.int .u64 a240)), (6, .s (.int .i64 a241)), (10, .s (.int .i64 w170)), (11, .li .i64 l), (12, .s (.int .i64 a242)), (13, .s (.int .i64 a243)), (14, .s (.bool a244))], [(0, some ⟨29, .agg [.s (.int .i64 0), .s (.slice none 0 0)], true⟩), (1, some ⟨29, .agg [.s (.int .i64 w1), .sl 2 1 0 w171], true⟩), (2, some ⟨22, .li .u64 w172, true⟩)], 3, none⟩ (kont (fnX Tryd.prog mode4 T_refIn1 fuel 49 0) (sub (bodyOf Tryd.prog 148) [1, 1, 0, 1, 0, 0]) [1, 0, 0, 1, 0, 1, 0] 562949953420413 (rdK (sub (bodyOf Tryd.prog 148) [1, 1, 0, 1, 0, 0]) (fnX Tryd.prog mode4 T_refIn1 fuel 49 0) 281474976710668 [0, 2, 3, 4] k K))) (fun (a254 : Nat) (a255 : List Int) => K (.exit 0) ⟨[(2, .ptr 0 2 0 0), (3, .ptr 1 2 0 0)], [(0, some ⟨29, .agg [.s (.int .i64 0), .s (.slice none 0 0)], true⟩), (1, some ⟨29, .agg [.s (.int .i64 w1), .sl 2 1 0 a254], true⟩), (2, some ⟨22, .li .u64 a255, true⟩)], 3, none⟩) := by kernel_rfl
noncomputable def refFromF_l3 {R : Type} (fuel : Nat) (l : List Int) (w1 : Int) (k0 : Nat → List Int → Option R) : Nat → Int → Nat → List Int → Option R
  | 0, _, _, _ => none
  | k + 1, w170, w171, w172 =>
    (refFromF_s5 l w170 w171 w172 w1 (fun (a240 : Int) (a241 : Int) (a242 : Int) (a243 : Int) (a244 : Bool) => (refFromF_l4 fuel l w170 w1 w171 w172 (fun (x245 : Int) (x246 : Int) (x247 : Int) (x248 : Int) (x249 : Bool) (x250 : Bool) => (refFromF_s7 w172 w171 w170 x245 l x246 x247 x248 x249 x250 w1 (fun (a251 : Int) (a252 : Nat) (a253 : List Int) => ( refFromF_l3 fuel l w1 k0 k a251 a252 a253 )))) fuel a240 a241 a242 a243 a244)) (fun (a254 : Nat) (a255 : List Int) => k0 a254 a255))
theorem refFromF_l3_eq (fuel : Nat) (l : List Int) (w1 : Int) (K : Ex → St → Option Out) : ∀ (k : Nat) (w170 : Int) (w171 : Nat) (w172 : List Int), lpN (sub (bodyOf Tryd.prog 148) [1, 1, 0, 1, 0, 0]) (fnX Tryd.prog mode4 T_refIn1 fuel 49 0) 281474976710668 [0, 2, 3, 4] k ⟨[(0, .li .i64 l), (2, .ptr 0 2 0 0), (3, .ptr 1 2 0 0), (4, .s (.int .i64 w170))], [(0, some ⟨29, .agg [.s (.int .i64 0), .s (.slice none 0 0)], true⟩), (1, some ⟨29, .agg [.s (.int .i64 w1), .sl 2 1 0 w171], true⟩), (2, some ⟨22, .li .u64 w172, true⟩)], 3, none⟩ K = refFromF_l3 fuel l w1 (fun (y200 : Nat) (y201 : List Int) => K (.exit 0) ⟨[(2, .ptr 0 2 0 0), (3, .ptr 1 2 0 0)], [(0, some ⟨29, .agg [.s (.int .i64 0), .s (.slice none 0 0)], true⟩), (1, some ⟨29, .agg [.s (.int .i64 w1), .sl 2 1 0 y200], true⟩), (2, some ⟨22, .li .u64 y201, true⟩)], 3, none⟩) k w170 w171 w172
  | 0, _, _, _ => rfl
  | k + 1, w170, w171, w172 => by
    unfold refFromF_l3
    exact (refFromF_s5_eq fuel k K l w170 w171 w172 w1).trans (congr (congr (Eq.refl (refFromF_s5 (R := Out) l w170 w171 w172 w1)) (funext fun a240 => funext fun a241 => funext fun a242 => funext fun a243 => funext fun a244 => (refFromF_l4_eq fuel l w170 w1 w171 w172 (kont (fnX Tryd.prog mode4 T_refIn1 fuel 49 0) (sub (bodyOf Tryd.prog 148) [1, 1, 0, 1, 0, 0]) [1, 0, 0, 1, 0, 1, 0] 562949953420413 (rdK (sub (bodyOf Tryd.prog 148) [1, 1, 0, 1, 0, 0]) (fnX Tryd.prog mode4 T_refIn1 fuel 49 0) 281474976710668 [0, 2, 3, 4] k K)) fuel a240 a241 a242 a243 a244).trans (congrFun (congrFun (congrFun (congrFun (congrFun (congrFun (congr (Eq.refl (refFromF_l4 (R := Out) fuel l w170 w1 w171 w172)) (funext fun x245 => funext fun x246 => funext fun x247 => funext fun x248 => funext fun x249 => funext fun x250 => (refFromF_s7_eq fuel k K w172 w171 w170 x245 l x246 x247 x248 x249 x250 w1).trans (congr (Eq.refl (refFromF_s7 (R := Out) w172 w171 w170 x245 l x246 x247 x248 x249 x250 w1)) (funext fun a251 => funext fun a252 => funext fun a253 => refFromF_l3_eq fuel l w1 K k a251 a252 a253)))) fuel) a240) a241) a242) a243) a244))) (rfl))
noncomputable def refFromF_s4 {R : Type} (x136 : Int) (l : List Int) (x137 : Int) (x138 : Int) (x139 : Int) (x140 : Bool) (x141 : Bool) (w1 : Int) (c0 : Int → Nat → List Int → Option R) : Option R :=
  c0 1 1 ([x136])
theorem refFromF_s4_eq (fuel : Nat) (k : Nat) (K : Ex → St → Option Out) (x136 : Int) (l : List Int) (x137 : Int) (x138 : Int) (x139 : Int) (x140 : Bool) (x141 : Bool) (w1 : Int) : (kont (fnX Tryd.prog mode4 T_refIn1 fuel 49 0) (sub (bodyOf Tryd.prog 148) [1, 1, 0, 1, 0, 0]) [1, 0, 0, 1, 0, 1, 0] 562949953420413 (rdK (sub (bodyOf Tryd.prog 148) [1, 1, 0, 1, 0, 0]) (fnX Tryd.prog mode4 T_refIn1 fuel 49 0) 281474976710668 [0, 2, 3, 4] k K)) (.exit 2) ⟨[(0, .li .i64 l), (2, .ptr 0 2 0 0), (3, .ptr 1 2 0 0), (4, .s (.int .i64 0)), (5, .s (.int .u64 x136)), (6, .s (.int .i64 x137)), (10, .s (.int .i64 0)), (11, .li .i64 l), (12, .s (.int .i64 x138)), (13, .s (.int .i64 x139)), (14, .s (.bool x140)), (17, .s (.int .i64 x137)), (18, .s (.bool x141))], [(0, some ⟨29, .agg [.s (.int .i64 0), .s (.slice none 0 0)], true⟩), (1, some ⟨29, .agg [.s (.int .i64 w1), .s (.slice none 0 0)], true⟩)], 2, none⟩ = refFromF_s4 x136 l x137 x138 x139 x140 x141 w1 (fun (a256 : Int) (a257 : Nat) (a258 : List Int) => lpN (sub (bodyOf Tryd.prog 148) [1, 1, 0, 1, 0, 0]) (fnX Tryd.prog mode4 T_refIn1 fuel 49 0) 281474976710668 [0, 2, 3, 4] k ⟨[(0, .li .i64 l), (2, .ptr 0 2 0 0), (3, .ptr 1 2 0 0), (4, .s (.int .i64 a256))], [(0, some ⟨29, .agg [.s (.int .i64 0), .s (.slice none 0 0)], true⟩), (1, some ⟨29, .agg [.s (.int .i64 w1), .sl 2 1 0 a257], true⟩), (2, some ⟨22, .li .u64 a258, true⟩)], 3, none⟩ K) := by kernel_rfl
noncomputable def refFromF_s2 {R : Type} (l : List Int) (w1 : Int) (c0 : Int → Int → Int → Int → Bool → Option R) (c1 : Int → Option R) : Option R :=
  grd (decide (0 ≤ ((l.length : Nat) : Int)) && decide (((l.length : Nat) : Int) ≤ 1000000)) <|
  br (decide ((0 : Int) < (((nw ((l.length : Nat) : Int) : Nat) : Int))))
    (c0 0 63 ((l.length : Nat) : Int) (((nw ((l.length : Nat) : Int) : Nat) : Int)) (decide ((0 : Int) < (((nw ((l.length : Nat) : Int) : Nat) : Int)))))
    (c1 w1)
theorem refFromF_s2_eq (fuel : Nat) (k : Nat) (K : Ex → St → Option Out) (l : List Int) (w1 : Int) : lpN (sub (bodyOf Tryd.prog 148) [1, 1, 0, 1, 0, 0]) (fnX Tryd.prog mode4 T_refIn1 fuel 49 0) 281474976710668 [0, 2, 3, 4] (k + 1) ⟨[(0, .li .i64 l), (2, .ptr 0 2 0 0), (3, .ptr 1 2 0 0), (4, .s (.int .i64 0))], [(0, some ⟨29, .agg [.s (.int .i64 0), .s (.slice none 0 0)], true⟩), (1, some ⟨29, .agg [.s (.int .i64 w1), .s (.slice none 0 0)], true⟩)], 2, none⟩ K = refFromF_s2 l w1 (fun (a131 : Int) (a132 : Int) (a133 : Int) (a134 : Int) (a135 : Bool) => lpN (sub (sub (bodyOf Tryd.prog 148) [1, 1, 0, 1, 0, 0]) [1, 0, 0, 1, 0, 1, 0, 0]) (fnX Tryd.prog mode4 T_refIn1 fuel 49 0) 562949953420413 [0, 2, 3, 4, 5, 6, 10, 11, 12, 13, 14] fuel ⟨[(0, .li .i64 l), (2, .ptr 0 2 0 0), (3, .ptr 1 2 0 0), (4, .s (.int .i64 0)), (5, .s (.int .u64 a131)), (6, .s (.int .i64 a132)), (10, .s (.int .i64 0)), (11, .li .i64 l), (12, .s (.int .i64 a133)), (13, .s (.int .i64 a134)), (14, .s (.bool a135))], [(0, some ⟨29, .agg [.s (.int .i64 0), .s (.slice none 0 0)], true⟩), (1, some ⟨29, .agg [.s (.int .i64 w1), .s (.slice none 0 0)], true⟩)], 2, none⟩ (kont (fnX Tryd.prog mode4 T_refIn1 fuel 49 0) (sub (bodyOf Tryd.prog 148) [1, 1, 0, 1, 0, 0]) [1, 0, 0, 1, 0, 1, 0] 562949953420413 (rdK (sub (bodyOf Tryd.prog 148) [1, 1, 0, 1, 0, 0]) (fnX Tryd.prog mode4 T_refIn1 fuel 49 0) 281474976710668 [0, 2, 3, 4] k K))) (fun (a261 : Int) => K (.exit 0) ⟨[(2, .ptr 0 2 0 0), (3, .ptr 1 2 0 0)], [(0, some ⟨29, .agg [.s (.int .i64 0), .s (.slice none 0 0)], true⟩), (1, some ⟨29, .agg [.s (.int .i64 a261), .s (.slice none 0 0)], true⟩)], 2, none⟩) := by kernel_rfl
noncomputable def refFromF_l1 {R : Type} (fuel : Nat) (l : List Int) (k0 : Int → Nat → List Int → Option R) (k1 : Int → Option R) : Nat → Int → Option R
  | 0, _ => none
  | k + 1, w1 =>
    (refFromF_s2 l w1 (fun (a131 : Int) (a132 : Int) (a133 : Int) (a134 : Int) (a135 : Bool) => (refFromF_l2 fuel l w1 (fun (x136 : Int) (x137 : Int) (x138 : Int) (x139 : Int) (x140 : Bool) (x141 : Bool) => (refFromF_s4 x136 l x137 x138 x139 x140 x141 w1 (fun (a256 : Int) (a257 : Nat) (a258 : List Int) => (refFromF_l3 fuel l w1 (fun (x259 : Nat) (x260 : List Int) => k0 w1 x259 x260) k a256 a257 a258)))) fuel a131 a132 a133 a134 a135)) (fun (a261 : Int) => k1 a261))
theorem refFromF_l1_eq (fuel : Nat) (l : List Int) (K : Ex → St → Option Out) : ∀ (k : Nat) (w1 : Int), lpN (sub (bodyOf Tryd.prog 148) [1, 1, 0, 1, 0, 0]) (fnX Tryd.prog mode4 T_refIn1 fuel 49 0) 281474976710668 [0, 2, 3, 4] k ⟨[(0, .li .i64 l), (2, .ptr 0 2 0 0), (3, .ptr 1 2 0 0), (4, .s (.int .i64 0))], [(0, some ⟨29, .agg [.s (.int .i64 0), .s (.slice none 0 0)], true⟩), (1, some ⟨29, .agg [.s (.int .i64 w1), .s (.slice none 0 0)], true⟩)], 2, none⟩ K = refFromF_l1 fuel l (fun (y89 : Int) (y90 : Nat) (y91 : List Int) => K (.exit 0) ⟨[(2, .ptr 0 2 0 0), (3, .ptr 1 2 0 0)], [(0, some ⟨29, .agg [.s (.int .i64 0), .s (.slice none 0 0)], true⟩), (1, some ⟨29, .agg [.s (.int .i64 y89), .sl 2 1 0 y90], true⟩), (2, some ⟨22, .li .u64 y91, true⟩)], 3, none⟩) (fun (y92 : Int) => K (.exit 0) ⟨[(2, .ptr 0 2 0 0), (3, .ptr 1 2 0 0)], [(0, some ⟨29, .agg [.s (.int .i64 0), .s (.slice none 0 0)], true⟩), (1, some ⟨29, .agg [.s (.int .i64 y92), .s (.slice none 0 0)], true⟩)], 2, none⟩) k w1
  | 0, _ => rfl
  | k + 1, w1 => by
    unfold refFromF_l1
    exact (refFromF_s2_eq fuel k K l w1).trans (congr (congr (Eq.refl (refFromF_s2 (R := Out) l w1)) (funext fun a131 => funext fun a132 => funext fun a133 => funext fun a134 => funext fun a135 => (refFromF_l2_eq fuel l w1 (kont (fnX Tryd.prog mode4 T_refIn1 fuel 49 0) (sub (bodyOf Tryd.prog 148) [1, 1, 0, 1, 0, 0]) [1, 0, 0, 1, 0, 1, 0] 562949953420413 (rdK (sub (bodyOf Tryd.prog 148) [1, 1, 0, 1, 0, 0]) (fnX Tryd.prog mode4 T_refIn1 fuel 49 0) 281474976710668 [0, 2, 3, 4] k K)) fuel a131 a132 a133 a134 a135).trans (congrFun (congrFun (congrFun (congrFun (congrFun (congrFun (congr (Eq.refl (refFromF_l2 (R := Out) fuel l w1)) (funext fun x136 => funext fun x137 => funext fun x138 => funext fun x139 => funext fun x140 => funext fun x141 => (refFromF_s4_eq fuel k K x136 l x137 x138 x139 x140 x141 w1).trans (congr (Eq.refl (refFromF_s4 (R := Out) x136 l x137 x138 x139 x140 x141 w1)) (funext fun a256 => funext fun a257 => funext fun a258 => refFromF_l3_eq fuel l w1 K k a256 a257 a258)))) fuel) a131) a132) a133) a134) a135))) (rfl))
noncomputable def refFromF_s8 {R : Type} (x263 : Int) (x265 : List Int) (x264 : Nat) (c0 : Int → List Int → Option R) : Option R :=
  c0 x263 ((x265.drop 0).take x264)
theorem refFromF_s8_eq (fuel : Nat)  (x263 : Int) (x265 : List Int) (x264 : Nat) : (kont (fnX Tryd.prog mode4 T_refIn1 fuel 49 0) (bodyOf Tryd.prog 148) [1, 1, 0, 1, 0] 4 (endK Tryd.prog 0 0 148)) (.exit 0) ⟨[(2, .ptr 0 2 0 0), (3, .ptr 1 2 0 0)], [(0, some ⟨29, .agg [.s (.int .i64 0), .s (.slice none 0 0)], true⟩), (1, some ⟨29, .agg [.s (.int .i64 x263), .sl 2 1 0 x264], true⟩), (2, some ⟨22, .li .u64 x265, true⟩)], 3, none⟩ = refFromF_s8 x263 x265 x264 (fun (a266 : Int) (a267 : List Int) => some (.agg [.s (.int .i64 a266), .li .u64 a267], [])) := by kernel_rfl
noncomputable def refFromF_s9 {R : Type} (x268 : Int) (c0 : Int → Option R) : Option R :=
  c0 x268
theorem refFromF_s9_eq (fuel : Nat)  (x268 : Int) : (kont (fnX Tryd.prog mode4 T_refIn1 fuel 49 0) (bodyOf Tryd.prog 148) [1, 1, 0, 1, 0] 4 (endK Tryd.prog 0 0 148)) (.exit 0) ⟨[(2, .ptr 0 2 0 0), (3, .ptr 1 2 0 0)], [(0, some ⟨29, .agg [.s (.int .i64 0), .s (.slice none 0 0)], true⟩), (1, some ⟨29, .agg [.s (.int .i64 x268), .s (.slice none 0 0)], true⟩)], 2, none⟩ = refFromF_s9 x268 (fun (a269 : Int) => some (.agg [.s (.int .i64 a269), .s (.slice none 0 0)], [])) := by kernel_rfl
noncomputable def refFromF_s1 {R : Type} (l : List Int) (c0 : Int → Option R) : Option R :=
  c0 ((l.length : Nat) : Int)
theorem refFromF_s1_eq (fuel : Nat)  (l : List Int) : callN Tryd.prog mode4 T_refIn1 fuel 148 [.li .i64 l] [] = refFromF_s1 l (fun (a262 : Int) => lpN (sub (bodyOf Tryd.prog 148) [1, 1, 0, 1, 0, 0]) (fnX Tryd.prog mode4 T_refIn1 fuel 49 0) 281474976710668 [0, 2, 3, 4] fuel ⟨[(0, .li .i64 l), (2, .ptr 0 2 0 0), (3, .ptr 1 2 0 0), (4, .s (.int .i64 0))], [(0, some ⟨29, .agg [.s (.int .i64 0), .s (.slice none 0 0)], true⟩), (1, some ⟨29, .agg [.s (.int .i64 a262), .s (.slice none 0 0)], true⟩)], 2, none⟩ (kont (fnX Tryd.prog mode4 T_refIn1 fuel 49 0) (bodyOf Tryd.prog 148) [1, 1, 0, 1, 0] 4 (endK Tryd.prog 0 0 148))) := by kernel_rfl
noncomputable def refFromF {R : Type} (fuel : Nat) (l : List Int) (r0 : Int → List Int → Option R) (r1 : Int → Option R) : Option R :=
  (refFromF_s1 l (fun (a262 : Int) => (refFromF_l1 fuel l (fun (x263 : Int) (x264 : Nat) (x265 : List Int) => (refFromF_s8 x263 x265 x264 (fun (a266 : Int) (a267 : List Int) => r0 a266 a267))) (fun (x268 : Int) => (refFromF_s9 x268 (fun (a269 : Int) => r1 a269))) fuel a262)))
theorem refFromF_eq (fuel : Nat) (l : List Int) : callN Tryd.prog mode4 T_refIn1 fuel 148 [.li .i64 l] [] = refFromF fuel l (fun (z0 : Int) (z1 : List Int) => some (.agg [.s (.int .i64 z0), .li .u64 z1], [])) (fun (z0 : Int) => some (.agg [.s (.int .i64 z0), .s (.slice none 0 0)], [])) := by
  unfold refFromF
  exact (refFromF_s1_eq fuel  l).trans (congr (Eq.refl (refFromF_s1 (R := Out) l)) (funext fun a262 => (refFromF_l1_eq fuel l (kont (fnX Tryd.prog mode4 T_refIn1 fuel 49 0) (bodyOf Tryd.prog 148) [1, 1, 0, 1, 0] 4 (endK Tryd.prog 0 0 148)) fuel a262).trans (congrFun (congrFun (congr (congr (Eq.refl (refFromF_l1 (R := Out) fuel l)) (funext fun x263 => funext fun x264 => funext fun x265 => (refFromF_s8_eq fuel  x263 x265 x264))) (funext fun x268 => (refFromF_s9_eq fuel  x268))) fuel) a262)))
theorem refFrom_word0 {R : Type} (fuel : Nat) (l : List Int) (hl : l.length ≤ 512) (w1 : Int) (a b : Int) (c : Bool) (k0 : Int → Int → Int → Int → Bool → Bool → Option R) : ∀ (n k : Nat), n ≤ 64 → n < k → refFromF_l2 fuel l w1 k0 k ((bn l / 2 ^ (64 * 0 + n) % 2 ^ (64 - n) : Nat) : Int) ((n : Int) - 1) a b c = k0 ((bn l / 2 ^ (64 * 0) % 18446744073709551616 : Nat) : Int) (-1) a b c false
  | n, 0, hn, hk => by omega
  | 0, k + 1, hn, hk => by
    unfold refFromF_l2 refFromF_s3
    rw [br_if, if_neg (by decide)]
    rfl
  | n + 1, k + 1, hn, hk => by
    unfold refFromF_l2 refFromF_s3
    obtain ⟨hp, hlt⟩ := bn_step l 0 n (by omega)
    have ih := refFrom_word0 fuel l hl w1 a b c k0 n k (by omega) (by omega)
    have e1 : IntKind.i64.wrap (0 + (((n + 1 : Nat) : Int) - 1)) = ((64 * 0 + n : Nat) : Int) := by rw [wrap_i64 (by omega) (by omega)]; omega
    have e2 : IntKind.i64.wrap (((n + 1 : Nat) : Int) - 1 - 1) = (n : Int) - 1 := by rw [wrap_i64 (by omega) (by omega)]; omega
    generalize bn l / 2 ^ (64 * 0 + (n + 1)) % 2 ^ (64 - (n + 1)) = x at *
    have w1 : IntKind.u64.wrap (2 * (x : Int)) = 2 * (x : Int) := wrap_u64 (by omega) (by omega)
    have w2 : IntKind.u64.wrap (2 * (x : Int) + 1) = 2 * (x : Int) + 1 := wrap_u64 (by omega) (by omega)
    rw [hp] at ih
    rw [br_if, if_pos (by simp), br_if, e1, e2, w1, w2]
    by_cases hin : 64 * 0 + n < l.length
    · rw [if_pos (by simp; omega), bnd_of ((ix_nat l _).trans (show _ = some (l.getD (64 * 0 + n) 0) by rw [List.getD_eq_getElem?_getD, List.getElem?_eq_getElem hin]; rfl)), br_if]
      by_cases h1 : l.getD (64 * 0 + n) 0 = 1
      · rw [if_pos (by simpa using h1)]
        rw [if_pos h1] at ih
        rw [← ih]
        congr 1 <;> omega
      · rw [if_neg (by simpa using h1)]
        rw [if_neg h1] at ih
        rw [← ih]
        congr 1 <;> omega
    · rw [if_neg (by simp; omega)]
      have h1 : ¬ l.getD (64 * 0 + n) 0 = 1 := by
        rw [List.getD_eq_getElem?_getD, List.getElem?_eq_none (by omega)]; simp
      rw [if_neg h1] at ih
      rw [← ih]
      congr 1 <;> omega
theorem refFrom_word {R : Type} (fuel : Nat) (l : List Int) (hl : l.length ≤ 512) (i : Nat) (hi : i ≤ 8) (w1 : Int) (w171 : Nat) (w172 : List Int) (a b : Int) (c : Bool) (k0 : Int → Int → Int → Int → Bool → Bool → Option R) : ∀ (n k : Nat), n ≤ 64 → n < k → refFromF_l4 fuel l (i : Int) w1 w171 w172 k0 k ((bn l / 2 ^ (64 * i + n) % 2 ^ (64 - n) : Nat) : Int) ((n : Int) - 1) a b c = k0 ((bn l / 2 ^ (64 * i) % 18446744073709551616 : Nat) : Int) (-1) a b c false
  | n, 0, hn, hk => by omega
  | 0, k + 1, hn, hk => by
    unfold refFromF_l4 refFromF_s6
    rw [br_if, if_neg (by decide)]
    rfl
  | n + 1, k + 1, hn, hk => by
    unfold refFromF_l4 refFromF_s6
    obtain ⟨hp, hlt⟩ := bn_step l i n (by omega)
    have ih := refFrom_word fuel l hl i hi w1 w171 w172 a b c k0 n k (by omega) (by omega)
    have e1 : IntKind.i64.wrap (IntKind.i64.wrap (64 * (i : Int)) + (((n + 1 : Nat) : Int) - 1)) = ((64 * i + n : Nat) : Int) := by rw [wrap_i64 (x := 64 * (i : Int)) (by omega) (by omega), wrap_i64 (by omega) (by omega)]; omega
    have e2 : IntKind.i64.wrap (((n + 1 : Nat) : Int) - 1 - 1) = (n : Int) - 1 := by rw [wrap_i64 (by omega) (by omega)]; omega
    generalize bn l / 2 ^ (64 * i + (n + 1)) % 2 ^ (64 - (n + 1)) = x at *
    have w1 : IntKind.u64.wrap (2 * (x : Int)) = 2 * (x : Int) := wrap_u64 (by omega) (by omega)
    have w2 : IntKind.u64.wrap (2 * (x : Int) + 1) = 2 * (x : Int) + 1 := wrap_u64 (by omega) (by omega)
    rw [hp] at ih
    rw [br_if, if_pos (by simp), br_if, e1, e2, w1, w2]
    by_cases hin : 64 * i + n < l.length
    · rw [if_pos (by simp; omega), bnd_of ((ix_nat l _).trans (show _ = some (l.getD (64 * i + n) 0) by rw [List.getD_eq_getElem?_getD, List.getElem?_eq_getElem hin]; rfl)), br_if]
      by_cases h1 : l.getD (64 * i + n) 0 = 1
      · rw [if_pos (by simpa using h1)]
        rw [if_pos h1] at ih
        rw [← ih]
        congr 1 <;> omega
      · rw [if_neg (by simpa using h1)]
        rw [if_neg h1] at ih
        rw [← ih]
        congr 1 <;> omega
    · rw [if_neg (by simp; omega)]
      have h1 : ¬ l.getD (64 * i + n) 0 = 1 := by
        rw [List.getD_eq_getElem?_getD, List.getElem?_eq_none (by omega)]; simp
      rw [if_neg h1] at ih
      rw [← ih]
      congr 1 <;> omega
theorem refFrom_rest {R : Type} (F : Nat) (hF : 70 ≤ F) (l : List Int) (hl : l.length ≤ 512) (w1 : Int) (k0 : Nat → List Int → Option R) : ∀ (k i : Nat), i ≤ nw (l.length : Int) → nw (l.length : Int) < i + k → refFromF_l3 F l w1 k0 k (i : Int) i (words i (bn l)) = k0 (nw (l.length : Int)) (words (nw (l.length : Int)) (bn l))
  | 0, i, h1, h2 => by omega
  | k + 1, i, h1, h2 => by
    have hn := nw_le (n := (l.length : Int)) (by omega)
    unfold refFromF_l3 refFromF_s5
    rw [grd_of (by simp; omega), br_if]
    by_cases hc : i < nw (l.length : Int)
    · rw [if_pos (by simpa using hc)]
      have h := refFrom_word (R := R) F l hl i (by omega) w1 i (words i (bn l)) (l.length : Int) ((nw (l.length : Int) : Nat) : Int) (decide ((i : Int) < ((nw (l.length : Int) : Nat) : Int)))
      have h := fun k0 => h k0 64 F (by omega) (by omega)
      rw [show bn l / 2 ^ (64 * i + 64) % 2 ^ (64 - 64) = 0 by rw [Nat.sub_self]; omega, show ((64 : Nat) : Int) - 1 = 63 from rfl, Int.natCast_zero] at h
      dsimp only
      rw [h]
      unfold refFromF_s7
      rw [grd_of (by rw [length_words]; exact beq_self _), grd_of (okN_of (by omega) (by omega)), wrap_i64 (by omega) (by omega), ← words_snoc, length_words, show (i : Int) + 1 = ((i + 1 : Nat) : Int) by omega]
      exact refFrom_rest F hF l hl w1 k0 k (i + 1) (by omega) (by omega)
    · rw [if_neg (by simpa using hc), show i = nw (l.length : Int) by omega]
theorem refFrom_fact (l : List Int) (hg : (decide (l.length ≤ 512)) = true) : Fact Tryd.prog gTab 148 [.li .i64 l] [] (.agg [.s (.int .i64 ((l.length : Nat) : Int)), .li .u64 (fromS l)], []) := by
  have hl := of_decide_eq_true hg
  obtain ⟨F, hF⟩ : ∃ F : Nat, F = 99 := ⟨_, rfl⟩
  have hn := nw_le (n := (l.length : Int)) (by omega)
  have hn2 := nw_cast (n := (l.length : Int)) (by omega)
  rw [fromS_eq]
  unfold fromI
  by_cases h0 : l.length = 0
  · refine Fact.out (v := .agg [.s (.int .i64 ((l.length : Nat) : Int)), .s (.slice none 0 0)]) (bs' := []) ?_ (fun _ _ _ x h => RV_agg_two (fun _ h => RVs_two (fun _ h => h) (fun _ h => RVs_two (fun _ h => (show words (nw (l.length : Int)) (bn l) = [] by rw [show nw (l.length : Int) = 0 by omega]; rfl) ▸ RV_nil_li h) (fun _ h => h) h) h) h)
    refine callN_fact hN hM T_refIn1_ok (n := F + 1) (mode := mode4) ?_
    rw [refFromF_eq]
    unfold refFromF refFromF_s1
    dsimp only
    unfold refFromF_l1 refFromF_s2
    dsimp only
    rw [grd_of (by simp; omega), br_if, if_neg (by simp; omega)]
    rfl
  · refine callN_fact hN hM T_refIn1_ok (n := F + 1) (mode := mode4) ?_
    rw [refFromF_eq]
    unfold refFromF refFromF_s1
    dsimp only
    unfold refFromF_l1 refFromF_s2
    dsimp only
    rw [grd_of (by simp; omega), br_if, if_pos (by simp; omega)]
    have h := refFrom_word0 (R := Out) (F + 1) l hl (l.length : Int) (l.length : Int) ((nw (l.length : Int) : Nat) : Int) (decide ((0 : Int) < ((nw (l.length : Int) : Nat) : Int)))
    have h := fun k0 => h k0 64 (F + 1) (by omega) (by omega)
    rw [show bn l / 2 ^ (64 * 0 + 64) % 2 ^ (64 - 64) = 0 by rw [Nat.sub_self]; omega, show ((64 : Nat) : Int) - 1 = 63 from rfl, Int.natCast_zero] at h
    rw [h]
    unfold refFromF_s4
    have hr := fun k0 => refFrom_rest (R := Out) (F + 1) (by omega) l hl (l.length : Int) k0 F 1 (by omega) (by omega)
    rw [show words 1 (bn l) = [((bn l / 2 ^ (64 * 0) % 18446744073709551616 : Nat) : Int)] by simp [words], show ((1 : Nat) : Int) = 1 from rfl] at hr
    dsimp only
    rw [hr]
    unfold refFromF_s8
    rw [List.drop_zero, List.take_of_length_le (by rw [length_words]; omega)]
noncomputable def refFrom_ent : List V → List Blk → Option (Bool × Out)
  | [w0], [] => (asSl (.int .i64) w0).bind fun l => some ((decide (l.length ≤ 512)), (.agg [.s (.int .i64 ((l.length : Nat) : Int)), .li .u64 (fromS l)], []))
  | _, _ => none
theorem refFrom_ok : ∀ args bs out, refFrom_ent args bs = some (true, out) → Fact Tryd.prog gTab 148 args bs out := by
  intro args bs out h
  unfold refFrom_ent at h
  split at h
  · rename_i w0
    obtain ⟨l, h_l, h⟩ := Option.bind_eq_some_iff.1 h
    simp only [Option.some.injEq, Prod.mk.injEq] at h
    obtain ⟨hg, rfl⟩ := h
    exact (refFrom_fact l hg).args (fun _ _ _ => fun _ h => RVs_two (fun _ h => RV_li h_l h) (fun _ h => h) h)
  · cases h
noncomputable def T_refFrom : Tbl := Tbl.cons 148 refFrom_ent T_refIn1
theorem T_refFrom_ok : CallOk Tryd.prog gTab T_refFrom := cons_ok T_refIn1_ok refFrom_ok
/-! downpour/downpourref01.Of -/
noncomputable def refOfF_s2 {R : Type} (w2 : Int) (n : Int) (l : List Int) (w3 : List Int) (w1 : Nat) (c0 : Nat → Int → List Int → Option R) (c1 : Nat → Int → List Int → Option R) (c2 : Nat → List Int → Option R) : Option R :=
  br (decide (w2 < n))
    (grd (decide (l.length ≤ 1000000)) <|
    br (inL l w2)
      (grd (Nat.beq w3.length w1) <|
      grd (okN (w1 + 1) 8) <|
      c0 ((w3 ++ [1]).length) (IntKind.i64.wrap (w2 + 1)) (w3 ++ [1]))
      (grd (Nat.beq w3.length w1) <|
      grd (okN (w1 + 1) 8) <|
      c1 ((w3 ++ [0]).length) (IntKind.i64.wrap (w2 + 1)) (w3 ++ [0])))
    (c2 w1 w3)
theorem refOfF_s2_eq (fuel : Nat) (k : Nat) (K : Ex → St → Option Out) (w2 : Int) (n : Int) (l : List Int) (w3 : List Int) (w1 : Nat) : lpN (sub (bodyOf Tryd.prog 151) [1, 1, 0, 1, 0, 0]) (fnX Tryd.prog mode4 T_refFrom fuel 23 0) 6291504 [0, 1, 4, 5, 6] (k + 1) ⟨[(0, .s (.int .i64 n)), (1, .li .i64 l), (4, .ptr 0 2 0 0), (5, .sl 1 1 0 w1), (6, .s (.int .i64 w2))], [(0, some ⟨29, .agg [.s (.int .i64 0), .s (.slice none 0 0)], true⟩), (1, some ⟨3, .li .i64 w3, true⟩)], 2, none⟩ K = refOfF_s2 w2 n l w3 w1 (fun (a6 : Nat) (a7 : Int) (a8 : List Int) => lpN (sub (bodyOf Tryd.prog 151) [1, 1, 0, 1, 0, 0]) (fnX Tryd.prog mode4 T_refFrom fuel 23 0) 6291504 [0, 1, 4, 5, 6] k ⟨[(0, .s (.int .i64 n)), (1, .li .i64 l), (4, .ptr 0 2 0 0), (5, .sl 1 1 0 a6), (6, .s (.int .i64 a7))], [(0, some ⟨29, .agg [.s (.int .i64 0), .s (.slice none 0 0)], true⟩), (1, some ⟨3, .li .i64 a8, true⟩)], 2, none⟩ K) (fun (a9 : Nat) (a10 : Int) (a11 : List Int) => lpN (sub (bodyOf Tryd.prog 151) [1, 1, 0, 1, 0, 0]) (fnX Tryd.prog mode4 T_refFrom fuel 23 0) 6291504 [0, 1, 4, 5, 6] k ⟨[(0, .s (.int .i64 n)), (1, .li .i64 l), (4, .ptr 0 2 0 0), (5, .sl 1 1 0 a9), (6, .s (.int .i64 a10))], [(0, some ⟨29, .agg [.s (.int .i64 0), .s (.slice none 0 0)], true⟩), (1, some ⟨3, .li .i64 a11, true⟩)], 2, none⟩ K) (fun (a12 : Nat) (a13 : List Int) => K (.exit 0) ⟨[(4, .ptr 0 2 0 0), (5, .sl 1 1 0 a12)], [(0, some ⟨29, .agg [.s (.int .i64 0), .s (.slice none 0 0)], true⟩), (1, some ⟨3, .li .i64 a13, true⟩)], 2, none⟩) := by kernel_rfl
noncomputable def refOfF_l1 {R : Type} (fuel : Nat) (n : Int) (l : List Int) (k0 : Nat → List Int → Option R) : Nat → Nat → Int → List Int → Option R
  | 0, _, _, _ => none
  | k + 1, w1, w2, w3 =>
    (refOfF_s2 w2 n l w3 w1 (fun (a6 : Nat) (a7 : Int) (a8 : List Int) => ( refOfF_l1 fuel n l k0 k a6 a7 a8 )) (fun (a9 : Nat) (a10 : Int) (a11 : List Int) => ( refOfF_l1 fuel n l k0 k a9 a10 a11 )) (fun (a12 : Nat) (a13 : List Int) => k0 a12 a13))
theorem refOfF_l1_eq (fuel : Nat) (n : Int) (l : List Int) (K : Ex → St → Option Out) : ∀ (k : Nat) (w1 : Nat) (w2 : Int) (w3 : List Int), lpN (sub (bodyOf Tryd.prog 151) [1, 1, 0, 1, 0, 0]) (fnX Tryd.prog mode4 T_refFrom fuel 23 0) 6291504 [0, 1, 4, 5, 6] k ⟨[(0, .s (.int .i64 n)), (1, .li .i64 l), (4, .ptr 0 2 0 0), (5, .sl 1 1 0 w1), (6, .s (.int .i64 w2))], [(0, some ⟨29, .agg [.s (.int .i64 0), .s (.slice none 0 0)], true⟩), (1, some ⟨3, .li .i64 w3, true⟩)], 2, none⟩ K = refOfF_l1 fuel n l (fun (y4 : Nat) (y5 : List Int) => K (.exit 0) ⟨[(4, .ptr 0 2 0 0), (5, .sl 1 1 0 y4)], [(0, some ⟨29, .agg [.s (.int .i64 0), .s (.slice none 0 0)], true⟩), (1, some ⟨3, .li .i64 y5, true⟩)], 2, none⟩) k w1 w2 w3
  | 0, _, _, _ => rfl
  | k + 1, w1, w2, w3 => by
    unfold refOfF_l1
    exact (refOfF_s2_eq fuel k K w2 n l w3 w1).trans (congr (congr (congr (Eq.refl (refOfF_s2 (R := Out) w2 n l w3 w1)) (funext fun a6 => funext fun a7 => funext fun a8 => refOfF_l1_eq fuel n l K k a6 a7 a8)) (funext fun a9 => funext fun a10 => funext fun a11 => refOfF_l1_eq fuel n l K k a9 a10 a11)) (rfl))
noncomputable def refOfF_s3 {R : Type} (x18 : List Int) (x17 : Nat) (c0 : Int → List Int → Option R) : Option R :=
  grd (decide (((x18.drop 0).take x17).length ≤ 512)) <|
  c0 ((((x18.drop 0).take x17).length : Nat) : Int) (fromS ((x18.drop 0).take x17))
theorem refOfF_s3_eq (fuel : Nat)  (x18 : List Int) (x17 : Nat) : (kont (fnX Tryd.prog mode4 T_refFrom fuel 23 0) (bodyOf Tryd.prog 151) [1, 1, 0, 1, 0] 16 (endK Tryd.prog 0 0 151)) (.exit 0) ⟨[(4, .ptr 0 2 0 0), (5, .sl 1 1 0 x17)], [(0, some ⟨29, .agg [.s (.int .i64 0), .s (.slice none 0 0)], true⟩), (1, some ⟨3, .li .i64 x18, true⟩)], 2, none⟩ = refOfF_s3 x18 x17 (fun (a19 : Int) (a20 : List Int) => some (.agg [.s (.int .i64 a19), .li .u64 a20], [])) := by kernel_rfl
noncomputable def refOfF_s1 {R : Type} (n : Int) (l : List Int) (c0 : Nat → Int → List Int → Option R) : Option R :=
  c0 0 0 ([])
theorem refOfF_s1_eq (fuel : Nat)  (n : Int) (l : List Int) : callN Tryd.prog mode4 T_refFrom fuel 151 [.s (.int .i64 n), .li .i64 l] [] = refOfF_s1 n l (fun (a14 : Nat) (a15 : Int) (a16 : List Int) => lpN (sub (bodyOf Tryd.prog 151) [1, 1, 0, 1, 0, 0]) (fnX Tryd.prog mode4 T_refFrom fuel 23 0) 6291504 [0, 1, 4, 5, 6] fuel ⟨[(0, .s (.int .i64 n)), (1, .li .i64 l), (4, .ptr 0 2 0 0), (5, .sl 1 1 0 a14), (6, .s (.int .i64 a15))], [(0, some ⟨29, .agg [.s (.int .i64 0), .s (.slice none 0 0)], true⟩), (1, some ⟨3, .li .i64 a16, true⟩)], 2, none⟩ (kont (fnX Tryd.prog mode4 T_refFrom fuel 23 0) (bodyOf Tryd.prog 151) [1, 1, 0, 1, 0] 16 (endK Tryd.prog 0 0 151))) := by kernel_rfl
noncomputable def refOfF {R : Type} (fuel : Nat) (n : Int) (l : List Int) (r0 : Int → List Int → Option R) : Option R :=
  (refOfF_s1 n l (fun (a14 : Nat) (a15 : Int) (a16 : List Int) => (refOfF_l1 fuel n l (fun (x17 : Nat) (x18 : List Int) => (refOfF_s3 x18 x17 (fun (a19 : Int) (a20 : List Int) => r0 a19 a20))) fuel a14 a15 a16)))
theorem refOfF_eq (fuel : Nat) (n : Int) (l : List Int) : callN Tryd.prog mode4 T_refFrom fuel 151 [.s (.int .i64 n), .li .i64 l] [] = refOfF fuel n l (fun (z0 : Int) (z1 : List Int) => some (.agg [.s (.int .i64 z0), .li .u64 z1], [])) := by
  unfold refOfF
  exact (refOfF_s1_eq fuel  n l).trans (congr (Eq.refl (refOfF_s1 (R := Out) n l)) (funext fun a14 => funext fun a15 => funext fun a16 => (refOfF_l1_eq fuel n l (kont (fnX Tryd.prog mode4 T_refFrom fuel 23 0) (bodyOf Tryd.prog 151) [1, 1, 0, 1, 0] 16 (endK Tryd.prog 0 0 151)) fuel a14 a15 a16).trans (congrFun (congrFun (congrFun (congrFun (congr (Eq.refl (refOfF_l1 (R := Out) fuel n l)) (funext fun x17 => funext fun x18 => (refOfF_s3_eq fuel  x18 x17))) fuel) a14) a15) a16)))
theorem refOf_loop {R : Type} (fuel : Nat) (n : Nat) (l : List Int) (hn : n ≤ 512) (hl : l.length ≤ 1000000) (k0 : Nat → List Int → Option R) : ∀ (k j : Nat), j ≤ n → n < j + k → refOfF_l1 fuel (n : Int) l k0 k j (j : Int) (bitsL j l) = k0 n (bitsL n l)
  | 0, j, h1, h2 => by omega
  | k + 1, j, h1, h2 => by
    unfold refOfF_l1 refOfF_s2
    rw [br_if]
    by_cases hc : j < n
    · have ih := refOf_loop fuel n l hn hl k0 k (j + 1) (by omega) (by omega)
      rw [bitsL_succ] at ih
      rw [if_pos (by simpa using hc), grd_of (decide_eq_true hl), br_if, wrap_i64 (by omega) (by omega), show (j : Int) + 1 = ((j + 1 : Nat) : Int) by omega]
      by_cases hm : inL l (j : Int) = true
      · rw [if_pos hm] at ih
        rw [if_pos hm, grd_of (by rw [bitsL_len]; exact beq_self _), grd_of (okN_of (by omega) (by omega)), List.length_append, bitsL_len]
        exact ih
      · rw [if_neg hm] at ih
        rw [if_neg hm, grd_of (by rw [bitsL_len]; exact beq_self _), grd_of (okN_of (by omega) (by omega)), List.length_append, bitsL_len]
        exact ih
    · rw [if_neg (by simpa using hc), show j = n by omega]
theorem refOf_fact (n : Int) (l : List Int) (hg : (decide (0 ≤ n) && decide (n ≤ 512) && decide (l.length ≤ 1000000)) = true) : Fact Tryd.prog gTab 151 [.s (.int .i64 n), .li .i64 l] [] (.agg [.s (.int .i64 n), .li .u64 (ofS n l)], []) := by
  simp only [Bool.and_eq_true, decide_eq_true_eq] at hg
  obtain ⟨⟨h0, h1⟩, h2⟩ := hg
  obtain ⟨j, rfl⟩ : ∃ j : Nat, n = (j : Int) := ⟨n.toNat, by omega⟩
  refine callN_fact hN hM T_refFrom_ok (n := j + 1) (mode := mode4) ?_
  rw [refOfF_eq]
  unfold refOfF refOfF_s1
  have h := fun k0 => refOf_loop (R := Out) (j + 1) j l (by omega) h2 k0 (j + 1) 0 (by omega) (by omega)
  rw [show bitsL 0 l = [] from rfl, Int.natCast_zero] at h
  dsimp only
  rw [h]
  unfold refOfF_s3
  rw [List.drop_zero, List.take_of_length_le (by rw [bitsL_len]; omega), bitsL_len, grd_of (by simp; omega), from_bits]
noncomputable def refOf_ent : List V → List Blk → Option (Bool × Out)
  | [.s (.int .i64 n), w0], [] => (asSl (.int .i64) w0).bind fun l => some ((decide (0 ≤ n) && decide (n ≤ 512) && decide (l.length ≤ 1000000)), (.agg [.s (.int .i64 n), .li .u64 (ofS n l)], []))
  | _, _ => none
theorem refOf_ok : ∀ args bs out, refOf_ent args bs = some (true, out) → Fact Tryd.prog gTab 151 args bs out := by
  intro args bs out h
  unfold refOf_ent at h
  split at h
  · rename_i n w0
    obtain ⟨l, h_l, h⟩ := Option.bind_eq_some_iff.1 h
    simp only [Option.some.injEq, Prod.mk.injEq] at h
    obtain ⟨hg, rfl⟩ := h
    exact (refOf_fact n l hg).args (fun _ _ _ => fun _ h => RVs_two (fun _ h => h) (fun _ h => RVs_two (fun _ h => RV_li h_l h) (fun _ h => h) h) h)
  · cases h
noncomputable def T_refOf : Tbl := Tbl.cons 151 refOf_ent T_refFrom
theorem T_refOf_ok : CallOk Tryd.prog gTab T_refOf := cons_ok T_refFrom_ok refOf_ok
/-! downpour/downpourref01.Same -/
noncomputable def refSameF_s2 {R : Type} (w7 : Int) (w6 : Int) (a : List Int) (b : List Int) (n : Int) (m : Int) (c0 : Option R) (c1 : Int → Int → Option R) (c2 : Option R) : Option R :=
  br (decide (w7 < w6))
    (bnd (ix a w7) fun e10 =>
    bnd (ix b w7) fun e11 =>
    br (e10 != e11)
      (c0)
      (c1 w6 (IntKind.i64.wrap (w7 + 1))))
    (c2)
theorem refSameF_s2_eq (fuel : Nat) (k : Nat) (K : Ex → St → Option Out) (w7 : Int) (w6 : Int) (a : List Int) (b : List Int) (n : Int) (m : Int) : lpN (sub (bodyOf Tryd.prog 20) [1, 1, 0, 1, 0, 0]) (fnX Tryd.prog mode4 T_refOf fuel 38 0) 16 [2, 3, 4, 22, 23] (k + 1) ⟨[(2, .ptr 0 2 0 0), (3, .ptr 1 2 0 0), (4, .s (.bool false)), (22, .s (.int .i64 w6)), (23, .s (.int .i64 w7))], [(0, some ⟨29, .agg [.s (.int .i64 n), .li .u64 a], true⟩), (1, some ⟨29, .agg [.s (.int .i64 m), .li .u64 b], true⟩)], 2, none⟩ K = refSameF_s2 w7 w6 a b n m (K .ret ⟨[(4, .s (.bool false))], [], 0, none⟩) (fun (a12 : Int) (a13 : Int) => lpN (sub (bodyOf Tryd.prog 20) [1, 1, 0, 1, 0, 0]) (fnX Tryd.prog mode4 T_refOf fuel 38 0) 16 [2, 3, 4, 22, 23] k ⟨[(2, .ptr 0 2 0 0), (3, .ptr 1 2 0 0), (4, .s (.bool false)), (22, .s (.int .i64 a12)), (23, .s (.int .i64 a13))], [(0, some ⟨29, .agg [.s (.int .i64 n), .li .u64 a], true⟩), (1, some ⟨29, .agg [.s (.int .i64 m), .li .u64 b], true⟩)], 2, none⟩ K) (K (.exit 0) ⟨[(4, .s (.bool false))], [], 0, none⟩) := by kernel_rfl
noncomputable def refSameF_l1 {R : Type} (fuel : Nat) (n : Int) (a : List Int) (m : Int) (b : List Int) (k0 : Option R) (k1 : Option R) : Nat → Int → Int → Option R
  | 0, _, _ => none
  | k + 1, w6, w7 =>
    (refSameF_s2 w7 w6 a b n m (k0) (fun (a12 : Int) (a13 : Int) => ( refSameF_l1 fuel n a m b k0 k1 k a12 a13 )) (k1))
theorem refSameF_l1_eq (fuel : Nat) (n : Int) (a : List Int) (m : Int) (b : List Int) (K : Ex → St → Option Out) : ∀ (k : Nat) (w6 : Int) (w7 : Int), lpN (sub (bodyOf Tryd.prog 20) [1, 1, 0, 1, 0, 0]) (fnX Tryd.prog mode4 T_refOf fuel 38 0) 16 [2, 3, 4, 22, 23] k ⟨[(2, .ptr 0 2 0 0), (3, .ptr 1 2 0 0), (4, .s (.bool false)), (22, .s (.int .i64 w6)), (23, .s (.int .i64 w7))], [(0, some ⟨29, .agg [.s (.int .i64 n), .li .u64 a], true⟩), (1, some ⟨29, .agg [.s (.int .i64 m), .li .u64 b], true⟩)], 2, none⟩ K = refSameF_l1 fuel n a m b (K .ret ⟨[(4, .s (.bool false))], [], 0, none⟩) (K (.exit 0) ⟨[(4, .s (.bool false))], [], 0, none⟩) k w6 w7
  | 0, _, _ => rfl
  | k + 1, w6, w7 => by
    unfold refSameF_l1
    exact (refSameF_s2_eq fuel k K w7 w6 a b n m).trans (congr (congr (congr (Eq.refl (refSameF_s2 (R := Out) w7 w6 a b n m)) (rfl)) (funext fun a12 => funext fun a13 => refSameF_l1_eq fuel n a m b K k a12 a13)) (rfl))
noncomputable def refSameF_s3 {R : Type}  (c0 : Bool → Option R) : Option R :=
  c0 false
theorem refSameF_s3_eq (fuel : Nat)   : (kont (fnX Tryd.prog mode4 T_refOf fuel 38 0) (bodyOf Tryd.prog 20) [1, 1, 0, 1, 0] 16 (endK Tryd.prog 0 0 20)) .ret ⟨[(4, .s (.bool false))], [], 0, none⟩ = refSameF_s3  (fun (a16 : Bool) => some (.s (.bool a16), [])) := by kernel_rfl
noncomputable def refSameF_s4 {R : Type}  (c0 : Bool → Option R) : Option R :=
  c0 true
theorem refSameF_s4_eq (fuel : Nat)   : (kont (fnX Tryd.prog mode4 T_refOf fuel 38 0) (bodyOf Tryd.prog 20) [1, 1, 0, 1, 0] 16 (endK Tryd.prog 0 0 20)) (.exit 0) ⟨[(4, .s (.bool false))], [], 0, none⟩ = refSameF_s4  (fun (a17 : Bool) => some (.s (.bool a17), [])) := by kernel_rfl
noncomputable def refSameF_s1 {R : Type} (n : Int) (m : Int) (a : List Int) (b : List Int) (c0 : Bool → Option R) (c1 : Int → Int → Option R) : Option R :=
  br (n != m)
    (c0 false)
    (br ((((a.length : Nat) : Int) : Int) != ((b.length : Nat) : Int))
      (c0 false)
      (c1 ((a.length : Nat) : Int) 0))
theorem refSameF_s1_eq (fuel : Nat)  (n : Int) (m : Int) (a : List Int) (b : List Int) : callN Tryd.prog mode4 T_refOf fuel 20 [.agg [.s (.int .i64 n), .li .u64 a], .agg [.s (.int .i64 m), .li .u64 b]] [] = refSameF_s1 n m a b (fun (a1 : Bool) => some (.s (.bool a1), [])) (fun (a14 : Int) (a15 : Int) => lpN (sub (bodyOf Tryd.prog 20) [1, 1, 0, 1, 0, 0]) (fnX Tryd.prog mode4 T_refOf fuel 38 0) 16 [2, 3, 4, 22, 23] fuel ⟨[(2, .ptr 0 2 0 0), (3, .ptr 1 2 0 0), (4, .s (.bool false)), (22, .s (.int .i64 a14)), (23, .s (.int .i64 a15))], [(0, some ⟨29, .agg [.s (.int .i64 n), .li .u64 a], true⟩), (1, some ⟨29, .agg [.s (.int .i64 m), .li .u64 b], true⟩)], 2, none⟩ (kont (fnX Tryd.prog mode4 T_refOf fuel 38 0) (bodyOf Tryd.prog 20) [1, 1, 0, 1, 0] 16 (endK Tryd.prog 0 0 20))) := by kernel_rfl
noncomputable def refSameF {R : Type} (fuel : Nat) (n : Int) (a : List Int) (m : Int) (b : List Int) (r0 : Bool → Option R) : Option R :=
  (refSameF_s1 n m a b (fun (a1 : Bool) => r0 a1) (fun (a14 : Int) (a15 : Int) => (refSameF_l1 fuel n a m b ((refSameF_s3 (fun (a16 : Bool) => r0 a16))) ((refSameF_s4 (fun (a17 : Bool) => r0 a17))) fuel a14 a15)))
theorem refSameF_eq (fuel : Nat) (n : Int) (a : List Int) (m : Int) (b : List Int) : callN Tryd.prog mode4 T_refOf fuel 20 [.agg [.s (.int .i64 n), .li .u64 a], .agg [.s (.int .i64 m), .li .u64 b]] [] = refSameF fuel n a m b (fun (z0 : Bool) => some (.s (.bool z0), [])) := by
  unfold refSameF
  exact (refSameF_s1_eq fuel  n m a b).trans (congr (congr (Eq.refl (refSameF_s1 (R := Out) n m a b)) (rfl)) (funext fun a14 => funext fun a15 => (refSameF_l1_eq fuel n a m b (kont (fnX Tryd.prog mode4 T_refOf fuel 38 0) (bodyOf Tryd.prog 20) [1, 1, 0, 1, 0] 16 (endK Tryd.prog 0 0 20)) fuel a14 a15).trans (congrFun (congrFun (congrFun (congr (congr (Eq.refl (refSameF_l1 (R := Out) fuel n a m b)) ((refSameF_s3_eq fuel  ))) ((refSameF_s4_eq fuel  ))) fuel) a14) a15)))
theorem refSame_loop {R : Type} (fuel : Nat) (n m : Int) (a b : List Int) (hab : a.length = b.length) (hx : a.length ≤ 1000000) (k0 k1 : Option R) : ∀ (k j : Nat), j ≤ a.length → a.length < j + k → refSameF_l1 fuel n a m b k0 k1 k (a.length : Int) (j : Int) = if a.drop j = b.drop j then k1 else k0
  | 0, j, h1, h2 => by omega
  | k + 1, j, h1, h2 => by
    unfold refSameF_l1 refSameF_s2
    rw [br_if]
    by_cases hc : j < a.length
    · have hc2 : j < b.length := by omega
      rw [if_pos (by simpa using hc), bnd_of ((ix_nat a j).trans (List.getElem?_eq_getElem hc)), bnd_of ((ix_nat b j).trans (List.getElem?_eq_getElem hc2)), br_if, List.drop_eq_getElem_cons hc, List.drop_eq_getElem_cons hc2, wrap_i64 (by omega) (by omega), show (j : Int) + 1 = ((j + 1 : Nat) : Int) by omega]
      dsimp only
      rw [refSame_loop fuel n m a b hab hx k0 k1 k (j + 1) (by omega) (by omega)]
      generalize a[j] = x
      generalize b[j] = y
      generalize a.drop (j + 1) = t
      generalize b.drop (j + 1) = u
      by_cases he : x = y <;> simp [he]
    · rw [if_neg (by simpa using hc), List.drop_eq_nil_of_le (by omega), List.drop_eq_nil_of_le (by omega)]
      simp
theorem refSame_fact (n : Int) (a : List Int) (m : Int) (b : List Int) (hg : (decide (a.length ≤ 1000000)) = true) : Fact Tryd.prog gTab 20 [.agg [.s (.int .i64 n), .li .u64 a], .agg [.s (.int .i64 m), .li .u64 b]] [] (.s (.bool (eqRow n a m b)), []) := by
  have hg := of_decide_eq_true hg
  refine callN_fact hN hM T_refOf_ok (n := a.length + 1) (mode := mode4) ?_
  rw [refSameF_eq]
  unfold refSameF refSameF_s1
  rw [br_if, br_if, eqRow_eq]
  unfold eqRowI
  by_cases hn : n = m
  · rw [if_neg (by simpa using hn)]
    by_cases hab : a.length = b.length
    · rw [if_neg (by simp; omega)]
      dsimp only
      have := refSame_loop (R := Out) (a.length + 1) n m a b hab hg
      rw [show (0 : Int) = ((0 : Nat) : Int) from rfl, this _ _ _ _ (by omega) (by omega), List.drop_zero, List.drop_zero]
      unfold refSameF_s3 refSameF_s4
      by_cases h : a = b <;> simp [h, hn]
    · rw [if_pos (by simp; omega)]
      have : a ≠ b := by rintro rfl; exact hab rfl
      simp [this]
  · rw [if_pos (by simpa using hn)]
    simp [hn]
noncomputable def refSame_ent : List V → List Blk → Option (Bool × Out)
  | [.agg [.s (.int .i64 n), w0], .agg [.s (.int .i64 m), w1]], [] => (asSl (.int .u64) w0).bind fun a => (asSl (.int .u64) w1).bind fun b => some ((decide (a.length ≤ 1000000)), (.s (.bool (eqRow n a m b)), []))
  | _, _ => none
theorem refSame_ok : ∀ args bs out, refSame_ent args bs = some (true, out) → Fact Tryd.prog gTab 20 args bs out := by
  intro args bs out h
  unfold refSame_ent at h
  split at h
  · rename_i n w0 m w1
    obtain ⟨a, h_a, h⟩ := Option.bind_eq_some_iff.1 h
    obtain ⟨b, h_b, h⟩ := Option.bind_eq_some_iff.1 h
    simp only [Option.some.injEq, Prod.mk.injEq] at h
    obtain ⟨hg, rfl⟩ := h
    exact (refSame_fact n a m b hg).args (fun _ _ _ => fun _ h => RVs_two (fun _ h => RV_agg_two (fun _ h => RVs_two (fun _ h => h) (fun _ h => RVs_two (fun _ h => RV_li h_a h) (fun _ h => h) h) h) h) (fun _ h => RVs_two (fun _ h => RV_agg_two (fun _ h => RVs_two (fun _ h => h) (fun _ h => RVs_two (fun _ h => RV_li h_b h) (fun _ h => h) h) h) h) (fun _ h => h) h) h)
  · cases h
noncomputable def T_refSame : Tbl := Tbl.cons 20 refSame_ent T_refOf
theorem T_refSame_ok : CallOk Tryd.prog gTab T_refSame := cons_ok T_refOf_ok refSame_ok
/-! downpour/downpourref01.Bit -/
noncomputable def refBitF_s1 {R : Type} (i : Int) (ws : List Int) (n : Int) (c0 : Int → Option R) : Option R :=
  bnd (divI .quo .i64 i 64) fun v1 =>
  bnd (ix ws v1) fun e2 =>
  bnd (divI .rem .i64 i 64) fun v3 =>
  bnd (shfI .shr .u64 e2 v3) fun v4 =>
  bnd (divI .rem .u64 v4 2) fun v5 =>
  c0 (IntKind.i64.wrap v5)
theorem refBitF_s1_eq (fuel : Nat)  (i : Int) (ws : List Int) (n : Int) : callN Tryd.prog mode4 T_refSame fuel 134 [.agg [.s (.int .i64 n), .li .u64 ws], .s (.int .i64 i)] [] = refBitF_s1 i ws n (fun (a6 : Int) => some (.s (.int .i64 a6), [])) := by kernel_rfl
noncomputable def refBitF {R : Type} (fuel : Nat) (n : Int) (ws : List Int) (i : Int) (r0 : Int → Option R) : Option R :=
  (refBitF_s1 i ws n (fun (a6 : Int) => r0 a6))
theorem refBitF_eq (fuel : Nat) (n : Int) (ws : List Int) (i : Int) : callN Tryd.prog mode4 T_refSame fuel 134 [.agg [.s (.int .i64 n), .li .u64 ws], .s (.int .i64 i)] [] = refBitF fuel n ws i (fun (z0 : Int) => some (.s (.int .i64 z0), [])) := by
  unfold refBitF
  exact (refBitF_s1_eq fuel  i ws n)
theorem refBit_fact (n : Int) (ws : List Int) (i : Int) (hg : (okW ws && decide (0 ≤ i) && decide (i < 64 * (ws.length : Int)) && decide (ws.length ≤ 1000000)) = true) : Fact Tryd.prog gTab 134 [.agg [.s (.int .i64 n), .li .u64 ws], .s (.int .i64 i)] [] (.s (.int .i64 (bitS ws i)), []) := by
  simp only [Bool.and_eq_true, decide_eq_true_eq] at hg
  obtain ⟨⟨⟨h1, h2⟩, h3⟩, h4⟩ := hg
  have hok := okW_iff.1 h1
  refine callN_fact hN hM T_refSame_ok (n := 0) (mode := mode4) ?_
  rw [refBitF_eq]
  unfold refBitF refBitF_s1
  obtain ⟨j, rfl⟩ : ∃ j : Nat, i = (j : Int) := ⟨i.toNat, by omega⟩
  have hj : j / 64 < ws.length := by omega
  have e1 : divI .quo .i64 (j : Int) 64 = some ((j / 64 : Nat) : Int) := by rw [quo_i64 (by omega) (by omega) (by decide)]; norm_cast
  have e2 : divI .rem .i64 (j : Int) 64 = some ((j % 64 : Nat) : Int) := by rw [rem_pos (by omega) (by decide)]; norm_cast
  have e4 : ix ws ((j / 64 : Nat) : Int) = some (ws.getD (j / 64) 0) := by rw [ix_nat, List.getD_eq_getElem?_getD, List.getElem?_eq_getElem hj]; rfl
  have hg := hok.getD (j / 64)
  have hb64 : j % 64 < 64 := Nat.mod_lt _ (by decide)
  have e5 : divI .rem .u64 (((ws.getD (j / 64) 0).toNat / 2 ^ (j % 64) : Nat) : Int) 2 = some (((ws.getD (j / 64) 0).toNat / 2 ^ (j % 64) % 2 : Nat) : Int) := by rw [rem_pos (Int.natCast_nonneg _) (by decide)]; norm_cast
  simp only [e1, bnd_some, e4, e2, shr_nat hg.1 hb64, e5]
  have hw : IntKind.i64.wrap (((ws.getD (j / 64) 0).toNat / 2 ^ (j % 64) % 2 : Nat) : Int) = bitS ws (j : Int) := by
    rw [wrap_i64 (by omega) (by omega), bitS_eq]
    unfold bitI
    rw [Int.toNat_natCast, testBit_val hok, Nat.testBit_eq_decide_div_mod_eq]
    generalize (ws.getD (j / 64) 0).toNat / 2 ^ (j % 64) = q
    by_cases h : q % 2 = 1
    · simp [h]
    · simp [h]; omega
  rw [hw]
noncomputable def refBit_ent : List V → List Blk → Option (Bool × Out)
  | [.agg [.s (.int .i64 n), w0], .s (.int .i64 i)], [] => (asSl (.int .u64) w0).bind fun ws => some ((okW ws && decide (0 ≤ i) && decide (i < 64 * (ws.length : Int)) && decide (ws.length ≤ 1000000)), (.s (.int .i64 (bitS ws i)), []))
  | _, _ => none
theorem refBit_ok : ∀ args bs out, refBit_ent args bs = some (true, out) → Fact Tryd.prog gTab 134 args bs out := by
  intro args bs out h
  unfold refBit_ent at h
  split at h
  · rename_i n w0 i
    obtain ⟨ws, h_ws, h⟩ := Option.bind_eq_some_iff.1 h
    simp only [Option.some.injEq, Prod.mk.injEq] at h
    obtain ⟨hg, rfl⟩ := h
    exact (refBit_fact n ws i hg).args (fun _ _ _ => fun _ h => RVs_two (fun _ h => RV_agg_two (fun _ h => RVs_two (fun _ h => h) (fun _ h => RVs_two (fun _ h => RV_li h_ws h) (fun _ h => h) h) h) h) (fun _ h => h) h)
  · cases h
noncomputable def T_refBit : Tbl := Tbl.cons 134 refBit_ent T_refSame
theorem T_refBit_ok : CallOk Tryd.prog gTab T_refBit := cons_ok T_refSame_ok refBit_ok
/-! downpour/downpourref01.Right -/
noncomputable def refRightF_s2 {R : Type} (w4 : Int) (ws : List Int) (n : Int) (c0 : Option R) (c1 : Int → Option R) (c2 : Option R) : Option R :=
  br (decide (w4 < (IntKind.i64.wrap (64 * ((ws.length : Nat) : Int)))))
    (grd (okW ws && decide (0 ≤ w4) && decide (w4 < 64 * (ws.length : Int)) && decide (ws.length ≤ 1000000)) <|
    br (((bitS ws w4) : Int) == 1)
      (c0)
      (c1 (IntKind.i64.wrap (w4 + 1))))
    (c2)
theorem refRightF_s2_eq (fuel : Nat) (k : Nat) (K : Ex → St → Option Out) (w4 : Int) (ws : List Int) (n : Int) : lpN (sub (bodyOf Tryd.prog 75) [1, 1, 0, 1, 0, 0]) (fnX Tryd.prog mode4 T_refBit fuel 35 0) 4 [1, 2, 3] (k + 1) ⟨[(1, .ptr 0 2 0 0), (2, .s (.bool false)), (3, .s (.int .i64 w4))], [(0, some ⟨29, .agg [.s (.int .i64 n), .li .u64 ws], true⟩)], 1, none⟩ K = refRightF_s2 w4 ws n (K .ret ⟨[(2, .s (.bool false))], [], 0, none⟩) (fun (a5 : Int) => lpN (sub (bodyOf Tryd.prog 75) [1, 1, 0, 1, 0, 0]) (fnX Tryd.prog mode4 T_refBit fuel 35 0) 4 [1, 2, 3] k ⟨[(1, .ptr 0 2 0 0), (2, .s (.bool false)), (3, .s (.int .i64 a5))], [(0, some ⟨29, .agg [.s (.int .i64 n), .li .u64 ws], true⟩)], 1, none⟩ K) (K (.exit 0) ⟨[(2, .s (.bool false))], [], 0, none⟩) := by kernel_rfl
noncomputable def refRightF_l1 {R : Type} (fuel : Nat) (n : Int) (ws : List Int) (k0 : Option R) (k1 : Option R) : Nat → Int → Option R
  | 0, _ => none
  | k + 1, w4 =>
    (refRightF_s2 w4 ws n (k0) (fun (a5 : Int) => ( refRightF_l1 fuel n ws k0 k1 k a5 )) (k1))
theorem refRightF_l1_eq (fuel : Nat) (n : Int) (ws : List Int) (K : Ex → St → Option Out) : ∀ (k : Nat) (w4 : Int), lpN (sub (bodyOf Tryd.prog 75) [1, 1, 0, 1, 0, 0]) (fnX Tryd.prog mode4 T_refBit fuel 35 0) 4 [1, 2, 3] k ⟨[(1, .ptr 0 2 0 0), (2, .s (.bool false)), (3, .s (.int .i64 w4))], [(0, some ⟨29, .agg [.s (.int .i64 n), .li .u64 ws], true⟩)], 1, none⟩ K = refRightF_l1 fuel n ws (K .ret ⟨[(2, .s (.bool false))], [], 0, none⟩) (K (.exit 0) ⟨[(2, .s (.bool false))], [], 0, none⟩) k w4
  | 0, _ => rfl
  | k + 1, w4 => by
    unfold refRightF_l1
    exact (refRightF_s2_eq fuel k K w4 ws n).trans (congr (congr (congr (Eq.refl (refRightF_s2 (R := Out) w4 ws n)) (rfl)) (funext fun a5 => refRightF_l1_eq fuel n ws K k a5)) (rfl))
noncomputable def refRightF_s3 {R : Type}  (c0 : Bool → Option R) : Option R :=
  c0 false
theorem refRightF_s3_eq (fuel : Nat)   : (kont (fnX Tryd.prog mode4 T_refBit fuel 35 0) (bodyOf Tryd.prog 75) [1, 1, 0, 1, 0] 4 (endK Tryd.prog 0 0 75)) .ret ⟨[(2, .s (.bool false))], [], 0, none⟩ = refRightF_s3  (fun (a7 : Bool) => some (.s (.bool a7), [])) := by kernel_rfl
noncomputable def refRightF_s4 {R : Type}  (c0 : Bool → Option R) : Option R :=
  c0 true
theorem refRightF_s4_eq (fuel : Nat)   : (kont (fnX Tryd.prog mode4 T_refBit fuel 35 0) (bodyOf Tryd.prog 75) [1, 1, 0, 1, 0] 4 (endK Tryd.prog 0 0 75)) (.exit 0) ⟨[(2, .s (.bool false))], [], 0, none⟩ = refRightF_s4  (fun (a8 : Bool) => some (.s (.bool a8), [])) := by kernel_rfl
noncomputable def refRightF_s1 {R : Type} (n : Int) (ws : List Int) (c0 : Bool → Option R) (c1 : Int → Option R) : Option R :=
  br (decide (n < 0))
    (c0 false)
    (br (decide (n > 512))
      (c0 false)
      (grd (decide (0 ≤ n) && decide (n ≤ 1000000)) <|
      br ((((ws.length : Nat) : Int) : Int) != (((nw n : Nat) : Int)))
        (c0 false)
        (c1 n)))
theorem refRightF_s1_eq (fuel : Nat)  (n : Int) (ws : List Int) : callN Tryd.prog mode4 T_refBit fuel 75 [.agg [.s (.int .i64 n), .li .u64 ws]] [] = refRightF_s1 n ws (fun (a1 : Bool) => some (.s (.bool a1), [])) (fun (a6 : Int) => lpN (sub (bodyOf Tryd.prog 75) [1, 1, 0, 1, 0, 0]) (fnX Tryd.prog mode4 T_refBit fuel 35 0) 4 [1, 2, 3] fuel ⟨[(1, .ptr 0 2 0 0), (2, .s (.bool false)), (3, .s (.int .i64 a6))], [(0, some ⟨29, .agg [.s (.int .i64 n), .li .u64 ws], true⟩)], 1, none⟩ (kont (fnX Tryd.prog mode4 T_refBit fuel 35 0) (bodyOf Tryd.prog 75) [1, 1, 0, 1, 0] 4 (endK Tryd.prog 0 0 75))) := by kernel_rfl
noncomputable def refRightF {R : Type} (fuel : Nat) (n : Int) (ws : List Int) (r0 : Bool → Option R) : Option R :=
  (refRightF_s1 n ws (fun (a1 : Bool) => r0 a1) (fun (a6 : Int) => (refRightF_l1 fuel n ws ((refRightF_s3 (fun (a7 : Bool) => r0 a7))) ((refRightF_s4 (fun (a8 : Bool) => r0 a8))) fuel a6)))
theorem refRightF_eq (fuel : Nat) (n : Int) (ws : List Int) : callN Tryd.prog mode4 T_refBit fuel 75 [.agg [.s (.int .i64 n), .li .u64 ws]] [] = refRightF fuel n ws (fun (z0 : Bool) => some (.s (.bool z0), [])) := by
  unfold refRightF
  exact (refRightF_s1_eq fuel  n ws).trans (congr (congr (Eq.refl (refRightF_s1 (R := Out) n ws)) (rfl)) (funext fun a6 => (refRightF_l1_eq fuel n ws (kont (fnX Tryd.prog mode4 T_refBit fuel 35 0) (bodyOf Tryd.prog 75) [1, 1, 0, 1, 0] 4 (endK Tryd.prog 0 0 75)) fuel a6).trans (congrFun (congrFun (congr (congr (Eq.refl (refRightF_l1 (R := Out) fuel n ws)) ((refRightF_s3_eq fuel  ))) ((refRightF_s4_eq fuel  ))) fuel) a6)))
open Classical in
theorem refRight_loop {R : Type} (fuel : Nat) (n : Int) (ws : List Int) (hok : okW ws = true) (hx : ws.length ≤ 8) (k0 k1 : Option R) : ∀ (k j : Nat), j ≤ 64 * ws.length → 64 * ws.length < j + k → refRightF_l1 fuel n ws k0 k1 k (j : Int) = if ∃ i, j ≤ i ∧ i < 64 * ws.length ∧ (val ws).testBit i = true then k0 else k1
  | 0, j, h1, h2 => by omega
  | k + 1, j, h1, h2 => by
    unfold refRightF_l1 refRightF_s2
    rw [wrap_i64 (x := 64 * ((ws.length : Nat) : Int)) (by omega) (by omega), br_if]
    by_cases hc : j < 64 * ws.length
    · rw [if_pos (by simp; omega), grd_of (by simp [hok]; omega), br_if, wrap_i64 (by omega) (by omega), show (j : Int) + 1 = ((j + 1 : Nat) : Int) by omega, bitS_eq]
      unfold bitI
      rw [Int.toNat_natCast]
      dsimp only
      by_cases hb : (val ws).testBit j = true
      · rw [if_pos (by simp [hb]), if_pos ⟨j, by omega, hc, hb⟩]
      · rw [if_neg (by simp [hb]), refRight_loop fuel n ws hok hx k0 k1 k (j + 1) (by omega) (by omega)]
        have : (∃ i, j + 1 ≤ i ∧ i < 64 * ws.length ∧ (val ws).testBit i = true) ↔ (∃ i, j ≤ i ∧ i < 64 * ws.length ∧ (val ws).testBit i = true) := by
          constructor
          · rintro ⟨i, a, b, c⟩; exact ⟨i, by omega, b, c⟩
          · rintro ⟨i, a, b, c⟩
            have : i ≠ j := by rintro rfl; exact hb c
            exact ⟨i, by omega, b, c⟩
        simp only [this]
    · rw [if_neg (by simp; omega), if_neg (by rintro ⟨i, a, b, _⟩; omega)]
theorem no_bits {v n m : Nat} (hv : v < 2 ^ m) : (¬ ∃ i, n ≤ i ∧ i < m ∧ v.testBit i = true) ↔ v < 2 ^ n := by
  constructor
  · intro h
    refine Nat.lt_pow_two_of_testBit _ fun i hi => ?_
    by_cases him : i < m
    · rw [Bool.eq_false_iff]; exact fun e => h ⟨i, hi, him, e⟩
    · exact Nat.testBit_lt_two_pow (Nat.lt_of_lt_of_le hv (Nat.pow_le_pow_right (by omega) (by omega)))
  · rintro h ⟨i, a, b, c⟩
    rw [Nat.testBit_lt_two_pow (Nat.lt_of_lt_of_le h (Nat.pow_le_pow_right (by omega) a))] at c
    cases c
theorem refRight_fact (n : Int) (ws : List Int) (hg : (okW ws) = true) : Fact Tryd.prog gTab 75 [.agg [.s (.int .i64 n), .li .u64 ws]] [] (.s (.bool (rtS n ws)), []) := by
  have hok := okW_iff.1 hg
  refine callN_fact hN hM T_refBit_ok (n := 600) (mode := mode4) ?_
  rw [refRightF_eq]
  unfold refRightF refRightF_s1
  have hno : ∀ h : ¬ rtS n ws = true, rtS n ws = false := fun h => by rw [Bool.eq_false_iff]; exact h
  rw [br_if, br_if]
  by_cases h0 : n < 0
  · rw [if_pos (by simpa using h0), hno fun h => by have := (rtS_iff.1 h).1.1; omega]
  · rw [if_neg (by simpa using h0)]
    by_cases h1 : n > 512
    · rw [if_pos (by simpa using h1), hno fun h => by have := (rtS_iff.1 h).1.2; omega]
    · rw [if_neg (by simpa using h1), grd_of (by simp; omega), br_if]
      by_cases hl : ws.length = nw n
      · rw [if_neg (by simp [hl])]
        dsimp only
        obtain ⟨j, rfl⟩ : ∃ j : Nat, n = (j : Int) := ⟨n.toNat, by omega⟩
        have hw := nw_cast (n := (j : Int)) (by omega)
        have hloop := refRight_loop (R := Out) 600 (j : Int) ws hg (by omega)
        rw [hloop _ _ 600 j (by omega) (by omega)]
        have hb := no_bits (n := j) (val_lt hok)
        by_cases hc : ∃ i, j ≤ i ∧ i < 64 * ws.length ∧ (val ws).testBit i = true
        · rw [if_pos hc, hno fun h => hb.2 (by have := (rtS_iff.1 h).2.2; rwa [Int.toNat_natCast] at this) hc]
          rfl
        · rw [if_neg hc, rtS_iff.2 ⟨⟨by omega, by omega⟩, hl, by rw [Int.toNat_natCast]; exact hb.1 hc⟩]
          rfl
      · rw [if_pos (by simp; omega), hno fun h => hl (rtS_iff.1 h).2.1]
noncomputable def refRight_ent : List V → List Blk → Option (Bool × Out)
  | [.agg [.s (.int .i64 n), w0]], [] => (asSl (.int .u64) w0).bind fun ws => some ((okW ws), (.s (.bool (rtS n ws)), []))
  | _, _ => none
theorem refRight_ok : ∀ args bs out, refRight_ent args bs = some (true, out) → Fact Tryd.prog gTab 75 args bs out := by
  intro args bs out h
  unfold refRight_ent at h
  split at h
  · rename_i n w0
    obtain ⟨ws, h_ws, h⟩ := Option.bind_eq_some_iff.1 h
    simp only [Option.some.injEq, Prod.mk.injEq] at h
    obtain ⟨hg, rfl⟩ := h
    exact (refRight_fact n ws hg).args (fun _ _ _ => fun _ h => RVs_two (fun _ h => RV_agg_two (fun _ h => RVs_two (fun _ h => h) (fun _ h => RVs_two (fun _ h => RV_li h_ws h) (fun _ h => h) h) h) h) (fun _ h => h) h)
  · cases h
noncomputable def T_refRight : Tbl := Tbl.cons 75 refRight_ent T_refBit
theorem T_refRight_ok : CallOk Tryd.prog gTab T_refRight := cons_ok T_refBit_ok refRight_ok
end Go.Proofs.YtleagoeimkcekaaDoor
