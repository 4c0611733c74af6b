/- Random numbers, their orders, rows: what each function tells. -/
import Derived.Test.YtfpdcfgjhkiklaaDoorPmTab
import Derived.KernelRfl
import Derived.Test.YtfpdcfgjhkiklaaDoorProg
import Derived.Test.YtfpdcfgjhkiklaaDoorPmPut
import Derived.Test.YtfpdcfgjhkiklaaDoorPlBit
import Derived.Shelf.Sort.Plain
set_option autoImplicit false
set_option maxRecDepth 100000
set_option maxHeartbeats 4000000
set_option linter.unusedVariables false
set_option linter.unusedSimpArgs false
namespace Go.Proofs.YtfpdcfgjhkiklaaDoor
open Go Go.PM Go.Proofs Go.Shelf Go.PM.Row Go.PM.Bits Go.PM.Bit
abbrev vN : V := .s (.slice none 0 0)
abbrev vI (x : Int) : V := .s (.int .i64 x)
abbrev vU (x : Int) : V := .s (.int .u64 x)
abbrev vB (x : Bool) : V := .s (.bool x)
abbrev vS (x : ByteArray) : V := .s (.string x)
abbrev vL (l : List Int) : V := .li .i64 l
abbrev vW (l : List Int) : V := .li .u64 l
abbrev bL (t : Nat) (l : List Int) : Option Blk := some ⟨t, .li .i64 l, true⟩
abbrev vR (m : List (Int × List Int)) : V := .lt (.pair (.int .i64) (.sl (.int .u64))) m
def gTab : Glob := fun b => if b = 0 then some (Lib.deBruijn64tab.map fun (n : Nat) => (.int .u8 (n : Int) : Value)) else none
theorem hN : namesOk Tryd.prog = true := by kernel_rfl
theorem hM : Tryd.prog.follows .mixedOrders = true := by kernel_rfl
def mode : FuncId → Nat := fun f => bif Nat.beq f 235 then 2 else 0
/-! Random numbers: what they are. -/
def mixA (z : Int) : Int := IntKind.u64.wrap ((xorI .u64 z (z / 1073741824)) * 13787848793156543929)
def mixB (z : Int) : Int := IntKind.u64.wrap ((xorI .u64 z (z / 134217728)) * 10723151780598845931)
def mixI (z : Int) : Int := xorI .u64 (mixB (mixA z)) (mixB (mixA z) / 2147483648)
noncomputable def mixedS : Int → Int := Classical.choose (⟨mixI, rfl⟩ : ∃ f, f = mixI)
theorem mixedS_eq : mixedS = mixI := Classical.choose_spec (⟨mixI, rfl⟩ : ∃ f, f = mixI)
def nextI (s : Int) : Int := IntKind.u64.wrap (s + 11400714819323198485)
noncomputable def nextS : Int → Int := Classical.choose (⟨nextI, rfl⟩ : ∃ f, f = nextI)
theorem nextS_eq : nextS = nextI := Classical.choose_spec (⟨nextI, rfl⟩ : ∃ f, f = nextI)
def sizedS (n : Int) : Bool := decide (1 ≤ n) && decide (n ≤ 512)
def lzS (y : Int) : Int := 63 - ((Nat.log2 y.toNat : Nat) : Int)
/-- The first number that is let in, within k. -/
noncomputable def search (rest n : Int) : Nat → Int → Option (Int × Int)
  | 0, _ => none
  | k + 1, s => if mixedS (nextS s) + rest < 18446744073709551616 then some (nextS s, mixedS (nextS s) % n) else search rest n k (nextS s)
open Classical in
noncomputable def belowI (s n : Int) : Int × Int := if h : ∃ r k, search (18446744073709551616 % n) n k s = some r then Classical.choose h else (0, 0)
noncomputable def belowS : Int → Int → Int × Int := Classical.choose (⟨belowI, rfl⟩ : ∃ f, f = belowI)
theorem belowS_eq : belowS = belowI := Classical.choose_spec (⟨belowI, rfl⟩ : ∃ f, f = belowI)
theorem mixed_range (z : Int) : 0 ≤ mixedS z ∧ mixedS z < 18446744073709551616 := by rw [mixedS_eq]; exact xor_range _ _
theorem mixed_zero : mixedS 0 = 0 := by rw [mixedS_eq]; kernel_rfl
theorem next_range (z : Int) : 0 ≤ nextS z ∧ nextS z < 18446744073709551616 := by rw [nextS_eq]; exact u64_range _
theorem search_more {rest n : Int} {r : Int × Int} : ∀ {k : Nat} {s : Int}, search rest n k s = some r → ∀ d, search rest n (k + d) s = some r
  | 0, s, h, d => by cases h
  | k + 1, s, h, d => by
    rw [show k + 1 + d = (k + d) + 1 by omega]
    simp only [search] at h ⊢
    split at h
    · rename_i hc; rw [if_pos hc]; exact h
    · rename_i hc; rw [if_neg hc]; exact search_more h d
theorem search_one {rest n : Int} {r r' : Int × Int} {k k' : Nat} {s : Int} (h : search rest n k s = some r) (h' : search rest n k' s = some r') : r = r' := by
  have h1 := search_more h k'
  have h2 := search_more h' k
  rw [Nat.add_comm] at h2
  exact Option.some.inj (h1.symm.trans h2)
theorem below_of_search {s n : Int} {k : Nat} {r : Int × Int} (h : search (18446744073709551616 % n) n k s = some r) : belowS s n = r := by
  rw [belowS_eq]
  unfold belowI
  have hx : ∃ r k, search (18446744073709551616 % n) n k s = some r := ⟨r, k, h⟩
  rw [dif_pos hx]
  obtain ⟨k', h'⟩ := Classical.choose_spec hx
  exact search_one h' h
/-- Some state is nought in the end. -/
theorem search_some {rest n : Int} (hr : rest < 18446744073709551616) : ∀ (j : Nat) (s : Int), (s + ((j : Int) + 1) * 11400714819323198485) % 18446744073709551616 = 0 → ∃ r, search rest n (j + 1) s = some r
  | 0, s, h => by
    have e : nextS s = 0 := by
      rw [nextS_eq]; unfold nextI; rw [wrap_u64_mod, ← h]; congr 1
    simp only [search]
    rw [e, mixed_zero, if_pos (by omega)]
    exact ⟨_, rfl⟩
  | j + 1, s, h => by
    have e : (nextS s + ((j : Int) + 1) * 11400714819323198485) % 18446744073709551616 = 0 := by
      rw [nextS_eq]; unfold nextI; rw [wrap_u64_mod, Int.emod_add_emod, ← h]; congr 1
      rw [Int.natCast_add, Int.add_mul, Int.add_mul, Int.add_mul]
      simp only [Int.one_mul, Int.natCast_one, Int.add_assoc]
      rw [Int.add_comm (11400714819323198485 : Int) _]
      simp only [Int.add_assoc]
    obtain ⟨r, hr'⟩ := search_some hr j _ e
    rw [search]
    by_cases hc : mixedS (nextS s) + rest < 18446744073709551616
    · rw [if_pos hc]; exact ⟨_, rfl⟩
    · rw [if_neg hc]; exact ⟨r, hr'⟩
theorem inv_step : (17428512612931826493 * 11400714819323198485 : Int) % 18446744073709551616 = 1 := by decide
theorem search_ends {s rest n : Int} (h0 : 0 ≤ s) (h1 : s < 18446744073709551616) (hr : rest < 18446744073709551616) : ∃ k r, search rest n k s = some r := by
  obtain ⟨j, hj⟩ : ∃ j : Nat, (j : Int) + 1 = (18446744073709551616 - s) * 17428512612931826493 := by
    refine ⟨((18446744073709551616 - s) * 17428512612931826493 - 1).toNat, ?_⟩
    have : 1 ≤ (18446744073709551616 - s) * 17428512612931826493 := by
      have := Int.mul_le_mul_of_nonneg_right (show (1 : Int) ≤ 18446744073709551616 - s by omega) (show (0 : Int) ≤ 17428512612931826493 by decide)
      rw [Int.one_mul] at this
      exact Int.le_trans (by decide) this
    rw [Int.toNat_of_nonneg (by omega)]; omega
  obtain ⟨r, h⟩ := search_some (rest := rest) (n := n) hr j s (by
    rw [hj, Int.mul_assoc, Int.add_emod, Int.mul_emod, inv_step, Int.mul_one, Int.emod_emod_of_dvd _ (Int.dvd_refl _), ← Int.add_emod]
    have : s + (18446744073709551616 - s) = 18446744073709551616 := by omega
    rw [this]; decide)
  exact ⟨_, r, h⟩
theorem rest_range {n : Int} (h : 1 ≤ n) (h2 : n ≤ 512) : 0 ≤ 18446744073709551616 % n ∧ 18446744073709551616 % n < 512 :=
  ⟨Int.emod_nonneg _ (by omega), Int.lt_of_lt_of_le (Int.emod_lt_of_pos _ (by omega)) h2⟩
/-! downpour/random.mixed -/
noncomputable def mixedF_s1 {R : Type} (z : Int) (c0 : Int → Option R) : Option R :=
  bnd (shfI .shr .u64 z 30) fun v1 =>
  bnd (shfI .shr .u64 (IntKind.u64.wrap ((xorI .u64 z v1) * 13787848793156543929)) 27) fun v2 =>
  bnd (shfI .shr .u64 (IntKind.u64.wrap ((xorI .u64 (IntKind.u64.wrap ((xorI .u64 z v1) * 13787848793156543929)) v2) * 10723151780598845931)) 31) fun v3 =>
  c0 (xorI .u64 (IntKind.u64.wrap ((xorI .u64 (IntKind.u64.wrap ((xorI .u64 z v1) * 13787848793156543929)) v2) * 10723151780598845931)) v3)
theorem mixedF_s1_eq (fuel : Nat)  (z : Int) : callN Tryd.prog mode Tbl.nil fuel 212 [vU z] [] = mixedF_s1 z (fun a4 => some (vU a4, [])) := by kernel_rfl
noncomputable def mixedF {R : Type} (fuel : Nat) (z : Int) (r0 : Int → Option R) : Option R :=
  (mixedF_s1 z (fun a4 => r0 a4))
theorem mixedF_eq (fuel : Nat) (z : Int) : callN Tryd.prog mode Tbl.nil fuel 212 [.s (.int .u64 z)] [] = mixedF fuel z (fun z0 => some (.s (.int .u64 z0), [])) := by
  unfold mixedF
  exact (mixedF_s1_eq fuel  z)
theorem mixed_fact (z : Int) (hg : (decide (0 ≤ z) && decide (z < 18446744073709551616)) = true) : Fact Tryd.prog gTab 212 [.s (.int .u64 z)] [] (.s (.int .u64 (mixedS z)), []) := by
  refine callN_fact hN hM nil_ok (n := 0) (mode := mode) ?_
  rw [mixedF_eq]
  unfold mixedF mixedF_s1
  rw [bnd_of (shr_u64 (c := 1073741824) (by decide) (by decide)), bnd_of (shr_u64 (c := 134217728) (by decide) (by decide)), bnd_of (shr_u64 (c := 2147483648) (by decide) (by decide)), mixedS_eq]
  rfl
noncomputable def mixed_ent : List V → List Blk → Option (Bool × Out)
  | [.s (.int .u64 z)], [] => some ((decide (0 ≤ z) && decide (z < 18446744073709551616)), (.s (.int .u64 (mixedS z)), []))
  | _, _ => none
theorem mixed_ok : ∀ args bs out, mixed_ent args bs = some (true, out) → Fact Tryd.prog gTab 212 args bs out := by
  intro args bs out h
  unfold mixed_ent at h
  split at h
  · rename_i z
    simp only [Option.some.injEq, Prod.mk.injEq] at h
    obtain ⟨hg, rfl⟩ := h
    exact mixed_fact z hg
  · cases h
noncomputable def T_mixed : Tbl := Tbl.cons 212 mixed_ent Tbl.nil
theorem T_mixed_ok : CallOk Tryd.prog gTab T_mixed := cons_ok nil_ok mixed_ok
/-! downpour/downpourref06.Mixed -/
noncomputable def refMixedF_s1 {R : Type} (z : Int) (c0 : Int → Option R) : Option R :=
  bnd (divI .quo .u64 z 1073741824) fun v1 =>
  bnd (divI .quo .u64 (IntKind.u64.wrap ((xorI .u64 z v1) * 13787848793156543929)) 134217728) fun v2 =>
  bnd (divI .quo .u64 (IntKind.u64.wrap ((xorI .u64 (IntKind.u64.wrap ((xorI .u64 z v1) * 13787848793156543929)) v2) * 10723151780598845931)) 2147483648) fun v3 =>
  c0 (xorI .u64 (IntKind.u64.wrap ((xorI .u64 (IntKind.u64.wrap ((xorI .u64 z v1) * 13787848793156543929)) v2) * 10723151780598845931)) v3)
theorem refMixedF_s1_eq (fuel : Nat)  (z : Int) : callN Tryd.prog mode T_mixed fuel 171 [vU z] [] = refMixedF_s1 z (fun a4 => some (vU a4, [])) := by kernel_rfl
noncomputable def refMixedF {R : Type} (fuel : Nat) (z : Int) (r0 : Int → Option R) : Option R :=
  (refMixedF_s1 z (fun a4 => r0 a4))
theorem refMixedF_eq (fuel : Nat) (z : Int) : callN Tryd.prog mode T_mixed fuel 171 [.s (.int .u64 z)] [] = refMixedF fuel z (fun z0 => some (.s (.int .u64 z0), [])) := by
  unfold refMixedF
  exact (refMixedF_s1_eq fuel  z)
theorem refMixed_fact (z : Int) (hg : (decide (0 ≤ z) && decide (z < 18446744073709551616)) = true) : Fact Tryd.prog gTab 171 [.s (.int .u64 z)] [] (.s (.int .u64 (mixedS z)), []) := by
  simp only [Bool.and_eq_true, decide_eq_true_eq] at hg
  refine callN_fact hN hM T_mixed_ok (n := 0) (mode := mode) ?_
  rw [refMixedF_eq]
  unfold refMixedF refMixedF_s1
  rw [bnd_of (quo_u64 hg.1 hg.2 (by decide)), bnd_of (quo_u64 (u64_range _).1 (u64_range _).2 (by decide)), bnd_of (quo_u64 (u64_range _).1 (u64_range _).2 (by decide)), mixedS_eq]
  rfl
noncomputable def refMixed_ent : List V → List Blk → Option (Bool × Out)
  | [.s (.int .u64 z)], [] => some ((decide (0 ≤ z) && decide (z < 18446744073709551616)), (.s (.int .u64 (mixedS z)), []))
  | _, _ => none
theorem refMixed_ok : ∀ args bs out, refMixed_ent args bs = some (true, out) → Fact Tryd.prog gTab 171 args bs out := by
  intro args bs out h
  unfold refMixed_ent at h
  split at h
  · rename_i z
    simp only [Option.some.injEq, Prod.mk.injEq] at h
    obtain ⟨hg, rfl⟩ := h
    exact refMixed_fact z hg
  · cases h
noncomputable def T_refMixed : Tbl := Tbl.cons 171 refMixed_ent T_mixed
theorem T_refMixed_ok : CallOk Tryd.prog gTab T_refMixed := cons_ok T_mixed_ok refMixed_ok
/-! downpour/random.Start -/
noncomputable def startF_s1 {R : Type} (z : Int) (c0 : Int → Option R) : Option R :=
  grd (decide (0 ≤ z) && decide (z < 18446744073709551616)) <|
  c0 (mixedS z)
theorem startF_s1_eq (fuel : Nat)  (z : Int) : callN Tryd.prog mode T_refMixed fuel 189 [vU z] [] = startF_s1 z (fun a1 => some (vU a1, [])) := by kernel_rfl
noncomputable def startF {R : Type} (fuel : Nat) (z : Int) (r0 : Int → Option R) : Option R :=
  (startF_s1 z (fun a1 => r0 a1))
theorem startF_eq (fuel : Nat) (z : Int) : callN Tryd.prog mode T_refMixed fuel 189 [.s (.int .u64 z)] [] = startF fuel z (fun z0 => some (.s (.int .u64 z0), [])) := by
  unfold startF
  exact (startF_s1_eq fuel  z)
theorem start_fact (z : Int) (hg : (decide (0 ≤ z) && decide (z < 18446744073709551616)) = true) : Fact Tryd.prog gTab 189 [.s (.int .u64 z)] [] (.s (.int .u64 (mixedS z)), []) := by
  refine callN_fact hN hM T_refMixed_ok (n := 0) (mode := mode) ?_
  rw [startF_eq]
  unfold startF startF_s1
  rw [grd_of hg]
noncomputable def start_ent : List V → List Blk → Option (Bool × Out)
  | [.s (.int .u64 z)], [] => some ((decide (0 ≤ z) && decide (z < 18446744073709551616)), (.s (.int .u64 (mixedS z)), []))
  | _, _ => none
theorem start_ok : ∀ args bs out, start_ent args bs = some (true, out) → Fact Tryd.prog gTab 189 args bs out := by
  intro args bs out h
  unfold start_ent at h
  split at h
  · rename_i z
    simp only [Option.some.injEq, Prod.mk.injEq] at h
    obtain ⟨hg, rfl⟩ := h
    exact start_fact z hg
  · cases h
noncomputable def T_start : Tbl := Tbl.cons 189 start_ent T_refMixed
theorem T_start_ok : CallOk Tryd.prog gTab T_start := cons_ok T_refMixed_ok start_ok
/-! downpour/random.Next -/
noncomputable def nextF_s1 {R : Type} (s : Int) (c0 : Int → Int → Option R) : Option R :=
  grd (decide (0 ≤ (IntKind.u64.wrap (s + 11400714819323198485))) && decide ((IntKind.u64.wrap (s + 11400714819323198485)) < 18446744073709551616)) <|
  c0 (IntKind.u64.wrap (s + 11400714819323198485)) (mixedS (IntKind.u64.wrap (s + 11400714819323198485)))
theorem nextF_s1_eq (fuel : Nat)  (s : Int) : callN Tryd.prog mode T_start fuel 188 [vU s] [] = nextF_s1 s (fun a1 a2 => some (.tup [vU a1, vU a2], [])) := by kernel_rfl
noncomputable def nextF {R : Type} (fuel : Nat) (s : Int) (r0 : Int → Int → Option R) : Option R :=
  (nextF_s1 s (fun a1 a2 => r0 a1 a2))
theorem nextF_eq (fuel : Nat) (s : Int) : callN Tryd.prog mode T_start fuel 188 [.s (.int .u64 s)] [] = nextF fuel s (fun z0 z1 => some (.tup [.s (.int .u64 z0), .s (.int .u64 z1)], [])) := by
  unfold nextF
  exact (nextF_s1_eq fuel  s)
theorem next_fact (s : Int) : Fact Tryd.prog gTab 188 [.s (.int .u64 s)] [] (.tup [.s (.int .u64 (nextS s)), .s (.int .u64 (mixedS (nextS s)))], []) := by
  refine callN_fact hN hM T_start_ok (n := 0) (mode := mode) ?_
  rw [nextF_eq]
  unfold nextF nextF_s1
  have := u64_range (s + 11400714819323198485)
  rw [grd_of (by simp only [Bool.and_eq_true, decide_eq_true_eq]; exact this), nextS_eq]
  rfl
noncomputable def next_ent : List V → List Blk → Option (Bool × Out)
  | [.s (.int .u64 s)], [] => some (true, (.tup [.s (.int .u64 (nextS s)), .s (.int .u64 (mixedS (nextS s)))], []))
  | _, _ => none
theorem next_ok : ∀ args bs out, next_ent args bs = some (true, out) → Fact Tryd.prog gTab 188 args bs out := by
  intro args bs out h
  unfold next_ent at h
  split at h
  · rename_i s
    simp only [Option.some.injEq, Prod.mk.injEq] at h
    obtain ⟨_, rfl⟩ := h
    exact next_fact s
  · cases h
noncomputable def T_next : Tbl := Tbl.cons 188 next_ent T_start
theorem T_next_ok : CallOk Tryd.prog gTab T_next := cons_ok T_start_ok next_ok
/-! downpour/random.sized -/
noncomputable def sizedF_s1 {R : Type} (n : Int) (c0 : Bool → Option R) : Option R :=
  br (decide (n ≥ 1))
    (c0 (decide (n ≤ 512)))
    (c0 false)
theorem sizedF_s1_eq (fuel : Nat)  (n : Int) : callN Tryd.prog mode T_next fuel 215 [vI n] [] = sizedF_s1 n (fun a1 => some (vB a1, [])) := by kernel_rfl
noncomputable def sizedF {R : Type} (fuel : Nat) (n : Int) (r0 : Bool → Option R) : Option R :=
  (sizedF_s1 n (fun a1 => r0 a1))
theorem sizedF_eq (fuel : Nat) (n : Int) : callN Tryd.prog mode T_next fuel 215 [.s (.int .i64 n)] [] = sizedF fuel n (fun z0 => some (.s (.bool z0), [])) := by
  unfold sizedF
  exact (sizedF_s1_eq fuel  n)
theorem sized_fact (n : Int) : Fact Tryd.prog gTab 215 [.s (.int .i64 n)] [] (.s (.bool (sizedS n)), []) := by
  refine callN_fact hN hM T_next_ok (n := 0) (mode := mode) ?_
  rw [sizedF_eq]
  unfold sizedF sizedF_s1 sizedS
  rw [br_if]
  by_cases h : n ≥ 1
  · rw [if_pos (by simpa using h), decide_eq_true (show 1 ≤ n from h)]; rfl
  · rw [if_neg (by simpa using h), decide_eq_false (show ¬ 1 ≤ n from h)]; rfl
noncomputable def sized_ent : List V → List Blk → Option (Bool × Out)
  | [.s (.int .i64 n)], [] => some (true, (.s (.bool (sizedS n)), []))
  | _, _ => none
theorem sized_ok : ∀ args bs out, sized_ent args bs = some (true, out) → Fact Tryd.prog gTab 215 args bs out := by
  intro args bs out h
  unfold sized_ent at h
  split at h
  · rename_i n
    simp only [Option.some.injEq, Prod.mk.injEq] at h
    obtain ⟨_, rfl⟩ := h
    exact sized_fact n
  · cases h
noncomputable def T_sized : Tbl := Tbl.cons 215 sized_ent T_next
theorem T_sized_ok : CallOk Tryd.prog gTab T_sized := cons_ok T_next_ok sized_ok
/-! downpour/random.numbers -/
noncomputable def numbersF_s1 {R : Type} (s : Int) (c0 : Nat → Int → Option R) : Option R :=
  c0 0 s
theorem numbersF_s1_eq (fuel : Nat)  (s : Int) : callN Tryd.prog mode T_sized fuel 235 [vU s] [] = numbersF_s1 s (fun a1 a2 => some (.fn (.func 238) [] [.ptr 0 1 a1 0], [some ⟨79, .agg [vU a2], true⟩])) := by kernel_rfl
noncomputable def numbersF {R : Type} (fuel : Nat) (s : Int) (r0 : Nat → Int → Option R) : Option R :=
  (numbersF_s1 s (fun a1 a2 => r0 a1 a2))
theorem numbersF_eq (fuel : Nat) (s : Int) : callN Tryd.prog mode T_sized fuel 235 [.s (.int .u64 s)] [] = numbersF fuel s (fun z0 z1 => some (.fn (.func 238) [] [.ptr 0 1 z0 0], [some ⟨79, .agg [.s (.int .u64 z1)], true⟩])) := by
  unfold numbersF
  exact (numbersF_s1_eq fuel  s)
theorem numbers_fact (s : Int) : Fact Tryd.prog gTab 235 [.s (.int .u64 s)] [] (.fn (.func 238) [] [.ptr 0 1 0 0], [some ⟨79, .agg [.s (.int .u64 s)], true⟩]) := by
  refine callN_fact hN hM T_sized_ok (n := 0) (mode := mode) ?_
  rw [numbersF_eq]
  rfl
noncomputable def numbers_ent : List V → List Blk → Option (Bool × Out)
  | [.s (.int .u64 s)], [] => some (true, (.fn (.func 238) [] [.ptr 0 1 0 0], [some ⟨79, .agg [.s (.int .u64 s)], true⟩]))
  | _, _ => none
theorem numbers_ok : ∀ args bs out, numbers_ent args bs = some (true, out) → Fact Tryd.prog gTab 235 args bs out := by
  intro args bs out h
  unfold numbers_ent at h
  split at h
  · rename_i s
    simp only [Option.some.injEq, Prod.mk.injEq] at h
    obtain ⟨_, rfl⟩ := h
    exact numbers_fact s
  · cases h
noncomputable def T_numbers : Tbl := Tbl.cons 235 numbers_ent T_sized
theorem T_numbers_ok : CallOk Tryd.prog gTab T_numbers := cons_ok T_sized_ok numbers_ok
/-! math/bits.LeadingZeros64 -/
def isLz (y : Nat) : Option (Bool × Out) → Bool
  | some (true, .s (.int .i64 q), []) => decide (q = 63 - ((Nat.log2 y : Nat) : Int))
  | _ => false
theorem isLz_eq {y : Nat} {o : Option (Bool × Out)} (h : isLz y o = true) : o = some (true, .s (.int .i64 (63 - ((Nat.log2 y : Nat) : Int))), []) := by
  unfold isLz at h
  split at h
  · rw [of_decide_eq_true h]
  · cases h
theorem lz_all : (List.range 511).all (fun i => isLz (i + 2) (lv Tryd.prog mode Tbl.nil 20 237 [.s (.int .u64 ((i + 2 : Nat) : Int))] [])) = true := by kernel_rfl
theorem lz_fact (y : Int) (hg : (decide (2 ≤ y) && decide (y ≤ 512)) = true) : Fact Tryd.prog gTab 237 [.s (.int .u64 y)] [] (.s (.int .i64 (lzS y)), []) := by
  simp only [Bool.and_eq_true, decide_eq_true_eq] at hg
  have h := List.all_eq_true.1 lz_all (y.toNat - 2) (by rw [List.mem_range]; omega)
  have h := isLz_eq h
  have e : ((y.toNat - 2 + 2 : Nat) : Int) = y := by omega
  have e2 : y.toNat - 2 + 2 = y.toNat := by omega
  rw [e, e2] at h
  exact lv_fact hN hM nil_ok h
noncomputable def lz_ent : List V → List Blk → Option (Bool × Out)
  | [.s (.int .u64 y)], [] => some ((decide (2 ≤ y) && decide (y ≤ 512)), (.s (.int .i64 (lzS y)), []))
  | _, _ => none
theorem lz_ok : ∀ args bs out, lz_ent args bs = some (true, out) → Fact Tryd.prog gTab 237 args bs out := by
  intro args bs out h
  unfold lz_ent at h
  split at h
  · rename_i y
    simp only [Option.some.injEq, Prod.mk.injEq] at h
    obtain ⟨hg, rfl⟩ := h
    exact lz_fact y hg
  · cases h
noncomputable def T_lz : Tbl := Tbl.cons 237 lz_ent T_numbers
theorem T_lz_ok : CallOk Tryd.prog gTab T_lz := cons_ok T_numbers_ok lz_ok
/-! math/bits.Div64 -/
noncomputable abbrev qa0 (fuel : Nat) : Ctx Out := (fnX Tryd.prog mode T_lz fuel 135 0)
noncomputable abbrev qa1 : Code := (sub (bodyOf Tryd.prog 234) [1, 1, 1, 1, 1, 1, 1, 1, 1, 1, 1, 1, 1, 1, 1, 1, 1, 1, 0, 0, 0])
noncomputable abbrev qa2 : Code := (sub (bodyOf Tryd.prog 234) [1, 1, 1, 1, 1, 1, 1, 1, 1, 1, 1, 1, 1, 1, 0, 0, 0])
noncomputable abbrev qa3 : Nat := 43556142965880045952059494414999150391236
noncomputable abbrev qa4 : Nat := 43553484509888553491566142137145770820036
noncomputable abbrev qa5 : List Nat := [2, 6, 7, 8, 9, 10, 11, 13, 14, 15, 16]
noncomputable abbrev qa6 : List Nat := [2, 6, 7, 8, 9, 10, 14, 15, 16, 17, 18]
noncomputable def divF_s2 {R : Type} (w0 w1 v2 w2 w3 w4 w5 v6 v1 : Int) (c0 c1 c2 c3 c4 : Int → Int → Int → Int → Int → Int → Option R) : Option R :=
  br (decide (w0 ≥ 4294967296))
    (br (decide ((IntKind.u64.wrap (w1 + v2)) ≥ 4294967296))
      (c0 w2 w3 w4 w5 (IntKind.u64.wrap (w0 - 1)) (IntKind.u64.wrap (w1 + v2)))
      (c1 w2 w3 w4 w5 (IntKind.u64.wrap (w0 - 1)) (IntKind.u64.wrap (w1 + v2))))
    (br (decide ((IntKind.u64.wrap (w0 * w3)) > (IntKind.u64.wrap ((IntKind.u64.wrap (4294967296 * w1)) + v6))))
      (br (decide ((IntKind.u64.wrap (w1 + v2)) ≥ 4294967296))
        (c2 w2 w3 w4 w5 (IntKind.u64.wrap (w0 - 1)) (IntKind.u64.wrap (w1 + v2)))
        (c3 w2 w3 w4 w5 (IntKind.u64.wrap (w0 - 1)) (IntKind.u64.wrap (w1 + v2))))
      (c4 w2 w3 w4 w5 w0 w1))
theorem divF_s2_eq (fuel k : Nat) (K : Ex → St → Option Out) (w0 w1 v2 w2 w3 w4 w5 v6 v1 : Int) : lpN qa2 (qa0 fuel) qa3 qa5 (k + 1) ⟨[(2, vU v1), (6, vU 0), (7, vU 0), (8, vU w2), (9, vU v2), (10, vU w3), (11, vU w4), (13, vU v6), (14, vU w5), (15, vU w0), (16, vU w1)], [], 0, none⟩ K = divF_s2 w0 w1 v2 w2 w3 w4 w5 v6 v1 (fun a0 a1 a2 a3 a4 a5 => K (.exit 0) ⟨[(2, vU v1), (6, vU 0), (7, vU 0), (8, vU a0), (9, vU v2), (10, vU a1), (11, vU a2), (13, vU v6), (14, vU a3), (15, vU a4), (16, vU a5)], [], 0, none⟩) (fun a6 a7 a8 a9 a35 a36 => lpN qa2 (qa0 fuel) qa3 qa5 k ⟨[(2, vU v1), (6, vU 0), (7, vU 0), (8, vU a6), (9, vU v2), (10, vU a7), (11, vU a8), (13, vU v6), (14, vU a9), (15, vU a35), (16, vU a36)], [], 0, none⟩ K) (fun a37 a38 a39 a40 a41 a42 => K (.exit 0) ⟨[(2, vU v1), (6, vU 0), (7, vU 0), (8, vU a37), (9, vU v2), (10, vU a38), (11, vU a39), (13, vU v6), (14, vU a40), (15, vU a41), (16, vU a42)], [], 0, none⟩) (fun a43 a44 a45 a46 a47 a48 => lpN qa2 (qa0 fuel) qa3 qa5 k ⟨[(2, vU v1), (6, vU 0), (7, vU 0), (8, vU a43), (9, vU v2), (10, vU a44), (11, vU a45), (13, vU v6), (14, vU a46), (15, vU a47), (16, vU a48)], [], 0, none⟩ K) (fun a49 a50 a51 a52 a53 a54 => K (.exit 0) ⟨[(2, vU v1), (6, vU 0), (7, vU 0), (8, vU a49), (9, vU v2), (10, vU a50), (11, vU a51), (13, vU v6), (14, vU a52), (15, vU a53), (16, vU a54)], [], 0, none⟩) := by kernel_rfl
noncomputable def divF_l1 {R : Type} (fuel : Nat) (v1 v2 v6 : Int) (k0 : Int → Int → Int → Int → Int → Int → Option R) : Nat → Int → Int → Int → Int → Int → Int → Option R
  | 0, _, _, _, _, _, _ => none
  | k + 1, w0, w1, w2, w3, w4, w5 =>
    (divF_s2 w4 w5 v2 w0 w1 w2 w3 v6 v1 (fun a0 a1 a2 a3 a4 a5 => k0 a0 a1 a2 a3 a4 a5) (fun a6 a7 a8 a9 a35 a36 => ( divF_l1 fuel v1 v2 v6 k0 k a6 a7 a8 a9 a35 a36 )) (fun a37 a38 a39 a40 a41 a42 => k0 a37 a38 a39 a40 a41 a42) (fun a43 a44 a45 a46 a47 a48 => ( divF_l1 fuel v1 v2 v6 k0 k a43 a44 a45 a46 a47 a48 )) (fun a49 a50 a51 a52 a53 a54 => k0 a49 a50 a51 a52 a53 a54))
theorem divF_l1_eq (fuel : Nat) (v1 v2 v6 : Int) (K : Ex → St → Option Out) : ∀ (k : Nat) (w0 w1 w2 w3 w4 w5 : Int), lpN qa2 (qa0 fuel) qa3 qa5 k ⟨[(2, vU v1), (6, vU 0), (7, vU 0), (8, vU w0), (9, vU v2), (10, vU w1), (11, vU w2), (13, vU v6), (14, vU w3), (15, vU w4), (16, vU w5)], [], 0, none⟩ K = divF_l1 fuel v1 v2 v6 (fun y0 y1 y2 y3 y4 y5 => K (.exit 0) ⟨[(2, vU v1), (6, vU 0), (7, vU 0), (8, vU y0), (9, vU v2), (10, vU y1), (11, vU y2), (13, vU v6), (14, vU y3), (15, vU y4), (16, vU y5)], [], 0, none⟩) k w0 w1 w2 w3 w4 w5
  | 0, _, _, _, _, _, _ => rfl
  | k + 1, w0, w1, w2, w3, w4, w5 => by
    unfold divF_l1
    exact (divF_s2_eq fuel k K w4 w5 v2 w0 w1 w2 w3 v6 v1).trans (congr (congr (congr (congr (congr (Eq.refl (divF_s2 (R := Out) w4 w5 v2 w0 w1 w2 w3 v6 v1)) (rfl)) (funext fun a0 => funext fun a1 => funext fun a2 => funext fun a3 => funext fun a4 => funext fun a5 => divF_l1_eq fuel v1 v2 v6 K k a0 a1 a2 a3 a4 a5)) (rfl)) (funext fun a6 => funext fun a7 => funext fun a8 => funext fun a9 => funext fun a47 => funext fun a48 => divF_l1_eq fuel v1 v2 v6 K k a6 a7 a8 a9 a47 a48)) (rfl))
noncomputable def divF_s4 {R : Type} (w0 w1 v2 w2 x0 x1 v1 x2 x3 : Int) (c0 : Int → Int → Option R) (c1 : Int → Int → Int → Option R) (c2 : Int → Int → Option R) (c3 : Int → Int → Int → Option R) (c4 : Int → Int → Option R) : Option R :=
  br (decide (w0 ≥ 4294967296))
    (br (decide ((IntKind.u64.wrap (w1 + v2)) ≥ 4294967296))
      (c0 w2 (IntKind.u64.wrap (w0 - 1)))
      (c1 (IntKind.u64.wrap (w1 + v2)) w2 (IntKind.u64.wrap (w0 - 1))))
    (br (decide ((IntKind.u64.wrap (w0 * x0)) > (IntKind.u64.wrap ((IntKind.u64.wrap (4294967296 * w1)) + x1))))
      (br (decide ((IntKind.u64.wrap (w1 + v2)) ≥ 4294967296))
        (c2 w2 (IntKind.u64.wrap (w0 - 1)))
        (c3 (IntKind.u64.wrap (w1 + v2)) w2 (IntKind.u64.wrap (w0 - 1))))
      (c4 w2 w0))
theorem divF_s4_eq (fuel k : Nat) (K : Ex → St → Option Out) (w0 w1 v2 w2 x0 x1 v1 x2 x3 : Int) : lpN qa1 (qa0 fuel) qa4 qa6 (k + 1) ⟨[(2, vU v1), (6, vU 0), (7, vU 0), (8, vU x2), (9, vU v2), (10, vU x0), (14, vU x1), (15, vU x3), (16, vU w1), (17, vU w2), (18, vU w0)], [], 0, none⟩ K = divF_s4 w0 w1 v2 w2 x0 x1 v1 x2 x3 (fun a0 a1 => K (.exit 2) ⟨[(2, vU v1), (6, vU 0), (7, vU 0), (8, vU x2), (14, vU x1), (15, vU x3), (17, vU a0), (18, vU a1)], [], 0, none⟩) (fun a2 a3 a4 => lpN qa1 (qa0 fuel) qa4 qa6 k ⟨[(2, vU v1), (6, vU 0), (7, vU 0), (8, vU x2), (9, vU v2), (10, vU x0), (14, vU x1), (15, vU x3), (16, vU a2), (17, vU a3), (18, vU a4)], [], 0, none⟩ K) (fun a5 a6 => K (.exit 2) ⟨[(2, vU v1), (6, vU 0), (7, vU 0), (8, vU x2), (14, vU x1), (15, vU x3), (17, vU a5), (18, vU a6)], [], 0, none⟩) (fun a7 a8 a9 => lpN qa1 (qa0 fuel) qa4 qa6 k ⟨[(2, vU v1), (6, vU 0), (7, vU 0), (8, vU x2), (9, vU v2), (10, vU x0), (14, vU x1), (15, vU x3), (16, vU a7), (17, vU a8), (18, vU a9)], [], 0, none⟩ K) (fun a85 a86 => K (.exit 2) ⟨[(2, vU v1), (6, vU 0), (7, vU 0), (8, vU x2), (14, vU x1), (15, vU x3), (17, vU a85), (18, vU a86)], [], 0, none⟩) := by kernel_rfl
noncomputable def divF_l2 {R : Type} (fuel : Nat) (v1 x0 v2 x1 x2 x3 : Int) (k0 : Int → Int → Option R) : Nat → Int → Int → Int → Option R
  | 0, _, _, _ => none
  | k + 1, w0, w1, w2 =>
    (divF_s4 w2 w0 v2 w1 x1 x2 v1 x0 x3 (fun a0 a1 => k0 a0 a1) (fun a2 a3 a4 => ( divF_l2 fuel v1 x0 v2 x1 x2 x3 k0 k a2 a3 a4 )) (fun a5 a6 => k0 a5 a6) (fun a7 a8 a9 => ( divF_l2 fuel v1 x0 v2 x1 x2 x3 k0 k a7 a8 a9 )) (fun a85 a86 => k0 a85 a86))
theorem divF_l2_eq (fuel : Nat) (v1 x0 v2 x1 x2 x3 : Int) (K : Ex → St → Option Out) : ∀ (k : Nat) (w0 w1 w2 : Int), lpN qa1 (qa0 fuel) qa4 qa6 k ⟨[(2, vU v1), (6, vU 0), (7, vU 0), (8, vU x0), (9, vU v2), (10, vU x1), (14, vU x2), (15, vU x3), (16, vU w0), (17, vU w1), (18, vU w2)], [], 0, none⟩ K = divF_l2 fuel v1 x0 v2 x1 x2 x3 (fun y0 y1 => K (.exit 2) ⟨[(2, vU v1), (6, vU 0), (7, vU 0), (8, vU x0), (14, vU x2), (15, vU x3), (17, vU y0), (18, vU y1)], [], 0, none⟩) k w0 w1 w2
  | 0, _, _, _ => rfl
  | k + 1, w0, w1, w2 => by
    unfold divF_l2
    exact (divF_s4_eq fuel k K w2 w0 v2 w1 x1 x2 v1 x0 x3).trans (congr (congr (congr (congr (congr (Eq.refl (divF_s4 (R := Out) w2 w0 v2 w1 x1 x2 v1 x0 x3)) (rfl)) (funext fun a0 => funext fun a1 => funext fun a2 => divF_l2_eq fuel v1 x0 v2 x1 x2 x3 K k a0 a1 a2)) (rfl)) (funext fun a3 => funext fun a4 => funext fun a5 => divF_l2_eq fuel v1 x0 v2 x1 x2 x3 K k a3 a4 a5)) (rfl))
noncomputable def divF_s5 {R : Type} (x0 x1 x2 v1 x3 x4 : Int) (c0 : Int → Int → Option R) : Option R :=
  bnd (shfI .shr .u64 (IntKind.u64.wrap ((IntKind.u64.wrap ((IntKind.u64.wrap (x0 * 4294967296)) + x1)) - (IntKind.u64.wrap (x2 * v1)))) x3) fun v92 =>
  c0 (IntKind.u64.wrap ((IntKind.u64.wrap (x4 * 4294967296)) + x2)) v92
theorem divF_s5_eq (fuel : Nat)  (x0 x1 x2 v1 x3 x4 : Int) : (kont (qa0 fuel) (bodyOf Tryd.prog 234) [1, 1, 1, 1, 1, 1, 1, 1, 1, 1, 1, 1, 1, 1, 1, 1, 1, 1, 0, 0] 192 (endK Tryd.prog 0 0 234)) (.exit 2) ⟨[(2, vU v1), (6, vU 0), (7, vU 0), (8, vU x3), (14, vU x1), (15, vU x4), (17, vU x0), (18, vU x2)], [], 0, none⟩ = divF_s5 x0 x1 x2 v1 x3 x4 (fun a0 a1 => some (.tup [vU a0, vU a1], [])) := by kernel_rfl
noncomputable def divF_s3 {R : Type} (x0 v6 x1 v1 v2 x2 x3 x4 x5 : Int) (c0 : Int → Int → Int → Option R) : Option R :=
  bnd (divI .quo .u64 (IntKind.u64.wrap ((IntKind.u64.wrap ((IntKind.u64.wrap (x0 * 4294967296)) + v6)) - (IntKind.u64.wrap (x1 * v1)))) v2) fun v67 =>
  c0 (IntKind.u64.wrap ((IntKind.u64.wrap ((IntKind.u64.wrap ((IntKind.u64.wrap (x0 * 4294967296)) + v6)) - (IntKind.u64.wrap (x1 * v1)))) - (IntKind.u64.wrap (v67 * v2)))) (IntKind.u64.wrap ((IntKind.u64.wrap ((IntKind.u64.wrap (x0 * 4294967296)) + v6)) - (IntKind.u64.wrap (x1 * v1)))) v67
theorem divF_s3_eq (fuel : Nat)  (x0 v6 x1 v1 v2 x2 x3 x4 x5 : Int) : (kont (qa0 fuel) (bodyOf Tryd.prog 234) [1, 1, 1, 1, 1, 1, 1, 1, 1, 1, 1, 1, 1, 1, 0, 0] 192 (endK Tryd.prog 0 0 234)) (.exit 0) ⟨[(2, vU v1), (6, vU 0), (7, vU 0), (8, vU x2), (9, vU v2), (10, vU x3), (11, vU x0), (13, vU v6), (14, vU x4), (15, vU x1), (16, vU x5)], [], 0, none⟩ = divF_s3 x0 v6 x1 v1 v2 x2 x3 x4 x5 (fun a0 a1 a2 => lpN qa1 (qa0 fuel) qa4 qa6 fuel ⟨[(2, vU v1), (6, vU 0), (7, vU 0), (8, vU x2), (9, vU v2), (10, vU x3), (14, vU x4), (15, vU x1), (16, vU a0), (17, vU a1), (18, vU a2)], [], 0, none⟩ (kont (qa0 fuel) (bodyOf Tryd.prog 234) [1, 1, 1, 1, 1, 1, 1, 1, 1, 1, 1, 1, 1, 1, 1, 1, 1, 1, 0, 0] 192 (endK Tryd.prog 0 0 234))) := by kernel_rfl
noncomputable def divF_s1 {R : Type} (y : Int) (c0 : Int → Int → Int → Int → Int → Int → Int → Int → Int → Option R) : Option R :=
  br (y == 0)
    (none)
    (br (decide (y ≤ 1))
      (none)
      (grd (decide (2 ≤ y) && decide (y ≤ 512)) <|
      bnd (shfI .shl .u64 y (IntKind.u64.wrap (lzS y))) fun v1 =>
      bnd (shfI .shr .u64 v1 32) fun v2 =>
      bnd (shfI .shl .u64 1 (IntKind.u64.wrap (lzS y))) fun v3 =>
      bnd (shfI .shr .u64 0 (IntKind.u64.wrap (64 - (IntKind.u64.wrap (lzS y))))) fun v4 =>
      bnd (shfI .shl .u64 0 (IntKind.u64.wrap (lzS y))) fun v5 =>
      bnd (shfI .shr .u64 v5 32) fun v6 =>
      bnd (divI .quo .u64 (orI .u64 v3 v4) v2) fun v7 =>
      c0 (IntKind.u64.wrap (lzS y)) (andI .u64 v1 4294967295) (orI .u64 v3 v4) (andI .u64 v5 4294967295) v7 (IntKind.u64.wrap ((orI .u64 v3 v4) - (IntKind.u64.wrap (v7 * v2)))) v1 v2 v6))
theorem divF_s1_eq (fuel : Nat)  (y : Int) : callN Tryd.prog mode T_lz fuel 234 [vU 1, vU 0, vU y] [] = divF_s1 y (fun a0 a1 a2 a3 a4 a5 v1 v2 v6 => lpN qa2 (qa0 fuel) qa3 qa5 fuel ⟨[(2, vU v1), (6, vU 0), (7, vU 0), (8, vU a0), (9, vU v2), (10, vU a1), (11, vU a2), (13, vU v6), (14, vU a3), (15, vU a4), (16, vU a5)], [], 0, none⟩ (kont (qa0 fuel) (bodyOf Tryd.prog 234) [1, 1, 1, 1, 1, 1, 1, 1, 1, 1, 1, 1, 1, 1, 0, 0] 192 (endK Tryd.prog 0 0 234))) := by kernel_rfl
noncomputable def divF {R : Type} (fuel : Nat) (y : Int) (r0 : Int → Int → Option R) : Option R :=
  (divF_s1 y (fun a0 a1 a2 a3 a4 a5 v1 v2 v6 => (divF_l1 fuel v1 v2 v6 (fun x0 x1 x2 x3 x4 x5 => (divF_s3 x2 v6 x4 v1 v2 x0 x1 x3 x5 (fun a6 a7 a8 => (divF_l2 fuel v1 x0 v2 x1 x3 x4 (fun x6 x7 => (divF_s5 x6 x3 x7 v1 x0 x4 (fun a9 a94 => r0 a9 a94))) fuel a6 a7 a8)))) fuel a0 a1 a2 a3 a4 a5)))
theorem divF_eq (fuel : Nat) (y : Int) : callN Tryd.prog mode T_lz fuel 234 [.s (.int .u64 1), .s (.int .u64 0), .s (.int .u64 y)] [] = divF fuel y (fun z0 z1 => some (.tup [.s (.int .u64 z0), .s (.int .u64 z1)], [])) := by
  unfold divF
  exact (divF_s1_eq fuel  y).trans (congr (Eq.refl (divF_s1 (R := Out) y)) (funext fun a0 => funext fun a1 => funext fun a2 => funext fun a3 => funext fun a4 => funext fun a5 => funext fun v1 => funext fun v2 => funext fun v6 => (divF_l1_eq fuel v1 v2 v6 (kont (qa0 fuel) (bodyOf Tryd.prog 234) [1, 1, 1, 1, 1, 1, 1, 1, 1, 1, 1, 1, 1, 1, 0, 0] 192 (endK Tryd.prog 0 0 234)) fuel a0 a1 a2 a3 a4 a5).trans (congrFun (congrFun (congrFun (congrFun (congrFun (congrFun (congrFun (congr (Eq.refl (divF_l1 (R := Out) fuel v1 v2 v6)) (funext fun x0 => funext fun x1 => funext fun x2 => funext fun x3 => funext fun x4 => funext fun x5 => (divF_s3_eq fuel  x2 v6 x4 v1 v2 x0 x1 x3 x5).trans (congr (Eq.refl (divF_s3 (R := Out) x2 v6 x4 v1 v2 x0 x1 x3 x5)) (funext fun a6 => funext fun a7 => funext fun a8 => (divF_l2_eq fuel v1 x0 v2 x1 x3 x4 (kont (qa0 fuel) (bodyOf Tryd.prog 234) [1, 1, 1, 1, 1, 1, 1, 1, 1, 1, 1, 1, 1, 1, 1, 1, 1, 1, 0, 0] 192 (endK Tryd.prog 0 0 234)) fuel a6 a7 a8).trans (congrFun (congrFun (congrFun (congrFun (congr (Eq.refl (divF_l2 (R := Out) fuel v1 x0 v2 x1 x3 x4)) (funext fun x6 => funext fun x7 => (divF_s5_eq fuel  x6 x3 x7 v1 x0 x4))) fuel) a6) a7) a8))))) fuel) a0) a1) a2) a3) a4) a5)))
def isDiv (y : Nat) : Option Out → Bool
  | some (.tup [.s (.int .u64 q), .s (.int .u64 r)], []) => decide (q = 18446744073709551616 / (y : Int)) && decide (r = 18446744073709551616 % (y : Int))
  | _ => false
theorem isDiv_eq {y : Nat} {o : Option Out} (h : isDiv y o = true) : o = some (.tup [.s (.int .u64 (18446744073709551616 / (y : Int))), .s (.int .u64 (18446744073709551616 % (y : Int)))], []) := by
  unfold isDiv at h
  split at h
  · rw [Bool.and_eq_true] at h; rw [of_decide_eq_true h.1, of_decide_eq_true h.2]
  · cases h
theorem div_all : (List.range 511).all (fun i => isDiv (i + 2) (divF (R := Out) 8 ((i + 2 : Nat) : Int) (fun (z0 : Int) (z1 : Int) => some (.tup [.s (.int .u64 z0), .s (.int .u64 z1)], [])))) = true := by kernel_rfl
theorem div_fact (y : Int) (hg : (decide (2 ≤ y) && decide (y ≤ 512)) = true) : Fact Tryd.prog gTab 234 [.s (.int .u64 1), .s (.int .u64 0), .s (.int .u64 y)] [] (.tup [.s (.int .u64 (18446744073709551616 / y)), .s (.int .u64 (18446744073709551616 % y))], []) := by
  simp only [Bool.and_eq_true, decide_eq_true_eq] at hg
  have h := List.all_eq_true.1 div_all (y.toNat - 2) (by rw [List.mem_range]; omega)
  have h := isDiv_eq h
  have e : ((y.toNat - 2 + 2 : Nat) : Int) = y := by omega
  rw [e] at h
  refine callN_fact hN hM T_lz_ok (n := 8) (mode := mode) ?_
  rw [divF_eq]
  exact h
noncomputable def div_ent : List V → List Blk → Option (Bool × Out)
  | [.s (.int .u64 1), .s (.int .u64 0), .s (.int .u64 y)], [] => some ((decide (2 ≤ y) && decide (y ≤ 512)), (.tup [.s (.int .u64 (18446744073709551616 / y)), .s (.int .u64 (18446744073709551616 % y))], []))
  | _, _ => none
theorem div_ok : ∀ args bs out, div_ent args bs = some (true, out) → Fact Tryd.prog gTab 234 args bs out := by
  intro args bs out h
  unfold div_ent at h
  split at h
  · rename_i y
    simp only [Option.some.injEq, Prod.mk.injEq] at h
    obtain ⟨hg, rfl⟩ := h
    exact div_fact y hg
  · cases h
noncomputable def T_div : Tbl := Tbl.cons 234 div_ent T_lz
theorem T_div_ok : CallOk Tryd.prog gTab T_div := cons_ok T_lz_ok div_ok
/-! downpour/random.below -/
noncomputable abbrev qa7 (s : Int) : List (Nat × V) := [(0, vU s), (3, .ptr 0 1 0 0), (4, .ptr 1 1 0 0), (5, .ptr 2 1 0 0), (7, .ptr 3 1 0 0), (20, .fn (.func 238) [] [.ptr 4 1 0 0])]
noncomputable abbrev qa8 : Code := (bodyOf Tryd.prog 228)
noncomputable abbrev qa9 (n : Int) : Nat × Option Blk := (0, some ⟨3, .agg [vI n], true⟩)
noncomputable abbrev qa10 (fuel : Nat) : Ctx Out := (fnX Tryd.prog mode T_div fuel 38 0)
noncomputable abbrev qa11 : Nat × Option Blk := (1, some ⟨79, .agg [vU 0], true⟩)
noncomputable abbrev qa12 : Nat × Option Blk := (2, some ⟨3, .agg [vI 0], true⟩)
noncomputable abbrev qa13 : Code := (sub qa8 [1, 1, 1, 0, 1, 0, 0])
noncomputable abbrev qa14 : Code := (sub qa8 [1, 1, 1, 0, 1, 0, 1])
noncomputable abbrev qa15 : Nat × Option Blk := (3, some ⟨79, .agg [vU 0], true⟩)
noncomputable abbrev qa16 : Code := (bodyOf Tryd.prog 238)
noncomputable abbrev qa17 (s : Int) : Nat × Option Blk := (4, some ⟨79, .agg [vU s], true⟩)
noncomputable abbrev qa18 : List (Nat × V) := [(0, .yl 5), (1, .ptr 4 1 0 0)]
noncomputable abbrev qa19 (n : Int) : Nat × Option Blk := (3, some ⟨79, .agg [vU (18446744073709551616 % (IntKind.u64.wrap (max n 2)))], true⟩)
noncomputable def belowF_s2 {R : Type} (s n : Int) (c0 c1 : Int → Int → Option R) : Option R :=
  br (decide (((mixedS (nextS s)) : Int) < 0))
    (bnd (divI .rem .u64 (mixedS (nextS s)) (IntKind.u64.wrap n)) fun v5 =>
    c0 (nextS s) (IntKind.i64.wrap v5))
    (bnd (divI .rem .u64 (mixedS (nextS s)) (IntKind.u64.wrap n)) fun v8 =>
    c1 (nextS s) (IntKind.i64.wrap v8))
theorem belowF_s2_eq (fuel k : Nat) (K : Ex → St → Option Out) (s n : Int) : lpN (sub qa16 [0, 0]) (itX Tryd.prog mode T_div fuel 3 14 6 5 (roundK (evC qa13) (evC qa14) (qa10 fuel) #[21, 22] 137430565816 (qa7 s))) 0 [0, 1] (k + 1) ⟨qa18, [(qa9 n), qa11, qa12, qa15, (qa17 s), (5, none)], 6, none⟩ K = belowF_s2 s n (fun a6 a7 => K .ret ⟨[], [(qa9 n), (1, some ⟨79, .agg [vU a6], true⟩), (2, some ⟨3, .agg [vI a7], true⟩), qa15, (4, some ⟨79, .agg [vU a6], true⟩), (5, none)], 6, (some .ret)⟩) (fun a9 a0 => K .ret ⟨[], [(qa9 n), (1, some ⟨79, .agg [vU a9], true⟩), (2, some ⟨3, .agg [vI a0], true⟩), qa15, (4, some ⟨79, .agg [vU a9], true⟩), (5, none)], 6, (some .ret)⟩) := by kernel_rfl
noncomputable def belowF_l1 {R : Type} (fuel : Nat) (n s : Int) (k0 : Int → Int → Option R) : Nat → Option R
  | 0 => none
  | k + 1 =>
    (belowF_s2 s n (fun a6 a7 => k0 a6 a7) (fun a9 a0 => k0 a9 a0))
theorem belowF_l1_eq (fuel : Nat) (n s : Int) (K : Ex → St → Option Out) : ∀ (k : Nat) , lpN (sub qa16 [0, 0]) (itX Tryd.prog mode T_div fuel 3 14 6 5 (roundK (evC qa13) (evC qa14) (qa10 fuel) #[21, 22] 137430565816 (qa7 s))) 0 [0, 1] k ⟨qa18, [(qa9 n), qa11, qa12, qa15, (qa17 s), (5, none)], 6, none⟩ K = belowF_l1 fuel n s (fun y3 y4 => K .ret ⟨[], [(qa9 n), (1, some ⟨79, .agg [vU y3], true⟩), (2, some ⟨3, .agg [vI y4], true⟩), qa15, (4, some ⟨79, .agg [vU y3], true⟩), (5, none)], 6, (some .ret)⟩) k 
  | 0 => rfl
  | k + 1 => by
    unfold belowF_l1
    exact (belowF_s2_eq fuel k K s n)
noncomputable def belowF_s3 {R : Type} (x0 x1 s n : Int) (c0 : Int → Int → Option R) : Option R :=
  c0 x0 x1
theorem belowF_s3_eq (fuel : Nat)  (x0 x1 s n : Int) : (kont (itX Tryd.prog mode T_div fuel 3 14 6 5 (roundK (evC qa13) (evC qa14) (qa10 fuel) #[21, 22] 137430565816 (qa7 s))) qa16 [0] 0 (itE (behind ⟨(qa7 s), [(qa9 n), qa11, qa12, qa15, (qa17 s)], 5, none⟩ (kont (qa10 fuel) qa8 [1, 1, 1, 0, 1, 0] 48 (endK Tryd.prog 0 0 228))))) .ret ⟨[], [(qa9 n), (1, some ⟨79, .agg [vU x0], true⟩), (2, some ⟨3, .agg [vI x1], true⟩), qa15, (4, some ⟨79, .agg [vU x0], true⟩), (5, none)], 6, (some .ret)⟩ = belowF_s3 x0 x1 s n (fun a0 a1 => some (.tup [vU a0, vI a1], [])) := by kernel_rfl
noncomputable def belowF_s4 {R : Type} (w0 w1 n s : Int) (c0 c1 : Int → Int → Int → Option R) (c2 : Int → Int → Option R) : Option R :=
  br (decide ((mixedS (nextS w0)) < (IntKind.u64.wrap (0 - w1))))
    (bnd (divI .rem .u64 (mixedS (nextS w0)) (IntKind.u64.wrap n)) fun v25 =>
    c0 (nextS w0) (IntKind.i64.wrap v25) w1)
    (br (w1 == 0)
      (bnd (divI .rem .u64 (mixedS (nextS w0)) (IntKind.u64.wrap n)) fun v29 =>
      c1 (nextS w0) (IntKind.i64.wrap v29) w1)
      (c2 w1 (nextS w0)))
theorem belowF_s4_eq (fuel k : Nat) (K : Ex → St → Option Out) (w0 w1 n s : Int) : lpN (sub qa16 [0, 0]) (itX Tryd.prog mode T_div fuel 3 14 6 5 (roundK (evC qa13) (evC qa14) (qa10 fuel) #[21, 22] 137430565816 (qa7 s))) 0 [0, 1] (k + 1) ⟨qa18, [(qa9 n), qa11, qa12, (3, some ⟨79, .agg [vU w1], true⟩), (4, some ⟨79, .agg [vU w0], true⟩), (5, none)], 6, none⟩ K = belowF_s4 w0 w1 n s (fun a0 a1 a2 => K .ret ⟨[], [(qa9 n), (1, some ⟨79, .agg [vU a0], true⟩), (2, some ⟨3, .agg [vI a1], true⟩), (3, some ⟨79, .agg [vU a2], true⟩), (4, some ⟨79, .agg [vU a0], true⟩), (5, none)], 6, (some .ret)⟩) (fun a3 a4 a5 => K .ret ⟨[], [(qa9 n), (1, some ⟨79, .agg [vU a3], true⟩), (2, some ⟨3, .agg [vI a4], true⟩), (3, some ⟨79, .agg [vU a5], true⟩), (4, some ⟨79, .agg [vU a3], true⟩), (5, none)], 6, (some .ret)⟩) (fun a6 a7 => lpN (sub qa16 [0, 0]) (itX Tryd.prog mode T_div fuel 3 14 6 5 (roundK (evC qa13) (evC qa14) (qa10 fuel) #[21, 22] 137430565816 (qa7 s))) 0 [0, 1] k ⟨qa18, [(qa9 n), qa11, qa12, (3, some ⟨79, .agg [vU a6], true⟩), (4, some ⟨79, .agg [vU a7], true⟩), (5, none)], 6, none⟩ K) := by kernel_rfl
noncomputable def belowF_l2 {R : Type} (fuel : Nat) (n s : Int) (k0 : Int → Int → Int → Option R) : Nat → Int → Int → Option R
  | 0, _, _ => none
  | k + 1, w0, w1 =>
    (belowF_s4 w1 w0 n s (fun a0 a1 a2 => k0 a0 a1 a2) (fun a3 a4 a5 => k0 a3 a4 a5) (fun a6 a7 => ( belowF_l2 fuel n s k0 k a6 a7 )))
theorem belowF_l2_eq (fuel : Nat) (n s : Int) (K : Ex → St → Option Out) : ∀ (k : Nat) (w0 w1 : Int), lpN (sub qa16 [0, 0]) (itX Tryd.prog mode T_div fuel 3 14 6 5 (roundK (evC qa13) (evC qa14) (qa10 fuel) #[21, 22] 137430565816 (qa7 s))) 0 [0, 1] k ⟨qa18, [(qa9 n), qa11, qa12, (3, some ⟨79, .agg [vU w0], true⟩), (4, some ⟨79, .agg [vU w1], true⟩), (5, none)], 6, none⟩ K = belowF_l2 fuel n s (fun y0 y1 y2 => K .ret ⟨[], [(qa9 n), (1, some ⟨79, .agg [vU y0], true⟩), (2, some ⟨3, .agg [vI y1], true⟩), (3, some ⟨79, .agg [vU y2], true⟩), (4, some ⟨79, .agg [vU y0], true⟩), (5, none)], 6, (some .ret)⟩) k w0 w1
  | 0, _, _ => rfl
  | k + 1, w0, w1 => by
    unfold belowF_l2
    exact (belowF_s4_eq fuel k K w1 w0 n s).trans (congr (congr (congr (Eq.refl (belowF_s4 (R := Out) w1 w0 n s)) (rfl)) (rfl)) (funext fun a0 => funext fun a1 => belowF_l2_eq fuel n s K k a0 a1))
noncomputable def belowF_s5 {R : Type} (x0 x1 s n x2 : Int) (c0 : Int → Int → Option R) : Option R :=
  c0 x0 x1
theorem belowF_s5_eq (fuel : Nat)  (x0 x1 s n x2 : Int) : (kont (itX Tryd.prog mode T_div fuel 3 14 6 5 (roundK (evC qa13) (evC qa14) (qa10 fuel) #[21, 22] 137430565816 (qa7 s))) qa16 [0] 0 (itE (behind ⟨(qa7 s), [(qa9 n), qa11, qa12, (qa19 n), (qa17 s)], 5, none⟩ (kont (qa10 fuel) qa8 [1, 1, 1, 0, 1, 0] 48 (endK Tryd.prog 0 0 228))))) .ret ⟨[], [(qa9 n), (1, some ⟨79, .agg [vU x0], true⟩), (2, some ⟨3, .agg [vI x1], true⟩), (3, some ⟨79, .agg [vU x2], true⟩), (4, some ⟨79, .agg [vU x0], true⟩), (5, none)], 6, (some .ret)⟩ = belowF_s5 x0 x1 s n x2 (fun a0 a1 => some (.tup [vU a0, vI a1], [])) := by kernel_rfl
noncomputable def belowF_s1 {R : Type} (n s : Int) (c0 : Option R) (c1 : Int → Int → Option R) : Option R :=
  grd (decide (2 ≤ (IntKind.u64.wrap (max n 2))) && decide ((IntKind.u64.wrap (max n 2)) ≤ 512)) <|
  br (n == 1)
    (c0)
    (c1 (18446744073709551616 % (IntKind.u64.wrap (max n 2))) s)
theorem belowF_s1_eq (fuel : Nat)  (n s : Int) : callN Tryd.prog mode T_div fuel 228 [vU s, vI n] [] = belowF_s1 n s (lpN (sub qa16 [0, 0]) (itX Tryd.prog mode T_div fuel 3 14 6 5 (roundK (evC qa13) (evC qa14) (qa10 fuel) #[21, 22] 137430565816 (qa7 s))) 0 [0, 1] fuel ⟨qa18, [(qa9 n), qa11, qa12, qa15, (qa17 s), (5, none)], 6, none⟩ (kont (itX Tryd.prog mode T_div fuel 3 14 6 5 (roundK (evC qa13) (evC qa14) (qa10 fuel) #[21, 22] 137430565816 (qa7 s))) qa16 [0] 0 (itE (behind ⟨(qa7 s), [(qa9 n), qa11, qa12, qa15, (qa17 s)], 5, none⟩ (kont (qa10 fuel) qa8 [1, 1, 1, 0, 1, 0] 48 (endK Tryd.prog 0 0 228)))))) (fun a0 a1 => lpN (sub qa16 [0, 0]) (itX Tryd.prog mode T_div fuel 3 14 6 5 (roundK (evC qa13) (evC qa14) (qa10 fuel) #[21, 22] 137430565816 (qa7 s))) 0 [0, 1] fuel ⟨qa18, [(qa9 n), qa11, qa12, (3, some ⟨79, .agg [vU a0], true⟩), (4, some ⟨79, .agg [vU a1], true⟩), (5, none)], 6, none⟩ (kont (itX Tryd.prog mode T_div fuel 3 14 6 5 (roundK (evC qa13) (evC qa14) (qa10 fuel) #[21, 22] 137430565816 (qa7 s))) qa16 [0] 0 (itE (behind ⟨(qa7 s), [(qa9 n), qa11, qa12, (qa19 n), (qa17 s)], 5, none⟩ (kont (qa10 fuel) qa8 [1, 1, 1, 0, 1, 0] 48 (endK Tryd.prog 0 0 228)))))) := by kernel_rfl
noncomputable def belowF {R : Type} (fuel : Nat) (s n : Int) (r0 : Int → Int → Option R) : Option R :=
  (belowF_s1 n s ((belowF_l1 fuel n s (fun x0 x1 => (belowF_s3 x0 x1 s n (fun a0 a1 => r0 a0 a1))) fuel)) (fun a2 a3 => (belowF_l2 fuel n s (fun x2 x3 x4 => (belowF_s5 x2 x3 s n x4 (fun a4 a5 => r0 a4 a5))) fuel a2 a3)))
theorem belowF_eq (fuel : Nat) (s n : Int) : callN Tryd.prog mode T_div fuel 228 [.s (.int .u64 s), .s (.int .i64 n)] [] = belowF fuel s n (fun z0 z1 => some (.tup [.s (.int .u64 z0), .s (.int .i64 z1)], [])) := by
  unfold belowF
  exact (belowF_s1_eq fuel  n s).trans (congr (congr (Eq.refl (belowF_s1 (R := Out) n s)) ((belowF_l1_eq fuel n s (kont (itX Tryd.prog mode T_div fuel 3 14 6 5 (roundK (evC qa13) (evC qa14) (qa10 fuel) #[21, 22] 137430565816 (qa7 s))) qa16 [0] 0 (itE (behind ⟨(qa7 s), [(qa9 n), qa11, qa12, qa15, (qa17 s)], 5, none⟩ (kont (qa10 fuel) qa8 [1, 1, 1, 0, 1, 0] 48 (endK Tryd.prog 0 0 228))))) fuel ).trans (congrFun (congr (Eq.refl (belowF_l1 (R := Out) fuel n s)) (funext fun x0 => funext fun x1 => (belowF_s3_eq fuel  x0 x1 s n))) fuel))) (funext fun a0 => funext fun a1 => (belowF_l2_eq fuel n s (kont (itX Tryd.prog mode T_div fuel 3 14 6 5 (roundK (evC qa13) (evC qa14) (qa10 fuel) #[21, 22] 137430565816 (qa7 s))) qa16 [0] 0 (itE (behind ⟨(qa7 s), [(qa9 n), qa11, qa12, (qa19 n), (qa17 s)], 5, none⟩ (kont (qa10 fuel) qa8 [1, 1, 1, 0, 1, 0] 48 (endK Tryd.prog 0 0 228))))) fuel a0 a1).trans (congrFun (congrFun (congrFun (congr (Eq.refl (belowF_l2 (R := Out) fuel n s)) (funext fun x2 => funext fun x3 => funext fun x4 => (belowF_s5_eq fuel  x2 x3 s n x4))) fuel) a0) a1)))
theorem below_loop {R : Type} (fuel : Nat) (n s0 rest : Int) (hn : 1 ≤ n) (hn2 : n ≤ 512) (hr : 0 ≤ rest) (hr2 : rest < 512) (k0 : Int → Int → Int → Option R) : ∀ (k : Nat) (s : Int) (r : Int × Int), search rest n k s = some r → belowF_l2 fuel n s0 k0 k rest s = k0 r.1 r.2 rest
  | 0, s, r, h => by cases h
  | k + 1, s, r, h => by
    unfold belowF_l2 belowF_s4
    have hx := mixed_range (nextS s)
    have hw : IntKind.u64.wrap n = n := wrap_u64 (by omega) (by omega)
    have hm1 := Int.emod_nonneg (mixedS (nextS s)) (show n ≠ 0 by omega)
    have hm2 := Int.emod_lt_of_pos (mixedS (nextS s)) (show 0 < n by omega)
    simp only [search] at h
    rw [hw, bnd_of (rem_pos hx.1 (by omega)), wrap_i64 (by omega) (by omega), br_if, br_if]
    by_cases h0 : rest = 0
    · subst h0
      rw [if_pos (by omega)] at h
      cases h
      have : ¬ (mixedS (nextS s) < IntKind.u64.wrap (0 - 0)) := by rw [wrap_u64 (by decide) (by decide)]; omega
      rw [if_neg (by simpa using this)]
      simp
    · rw [wrap_u64_mod, show (0 - rest) % 18446744073709551616 = 18446744073709551616 - rest by omega]
      by_cases hc : mixedS (nextS s) + rest < 18446744073709551616
      · rw [if_pos hc] at h
        cases h
        rw [if_pos (by simp; omega)]
      · rw [if_neg hc] at h
        rw [if_neg (by simp; omega), if_neg (by simpa using h0)]
        exact below_loop fuel n s0 rest hn hn2 hr hr2 k0 k _ r h
theorem below_fact (s : Int) (n : Int) (hg : (decide (0 ≤ s) && decide (s < 18446744073709551616) && decide (1 ≤ n) && decide (n ≤ 512)) = true) : Fact Tryd.prog gTab 228 [.s (.int .u64 s), .s (.int .i64 n)] [] (.tup [.s (.int .u64 ((belowS s n).1)), .s (.int .i64 ((belowS s n).2))], []) := by
  simp only [Bool.and_eq_true, decide_eq_true_eq] at hg
  obtain ⟨⟨⟨h0, h1⟩, hn⟩, hn2⟩ := hg
  have hr := rest_range hn hn2
  obtain ⟨k, r, hs⟩ := search_ends (n := n) h0 h1 (show 18446744073709551616 % n < 18446744073709551616 by omega)
  rw [below_of_search hs]
  refine callN_fact hN hM T_div_ok (n := k + 1) (mode := mode) ?_
  rw [belowF_eq]
  unfold belowF belowF_s1
  have hmx : IntKind.u64.wrap (max n 2) = max n 2 := wrap_u64 (by omega) (by omega)
  rw [hmx, grd_of (by simp; omega), br_if]
  by_cases h : n = 1
  · subst h
    rw [if_pos (by decide)]
    unfold belowF_l1 belowF_s2
    have hx := mixed_range (nextS s)
    have hw : IntKind.u64.wrap 1 = 1 := by decide
    have hm1 := Int.emod_nonneg (mixedS (nextS s)) (show (1 : Int) ≠ 0 by omega)
    have hm2 := Int.emod_lt_of_pos (mixedS (nextS s)) (show (0 : Int) < 1 by omega)
    cases k with
    | zero => cases hs
    | succ k =>
      simp only [search] at hs
      rw [if_pos (by omega)] at hs
      cases hs
      rw [hw, bnd_of (rem_pos hx.1 (by omega)), wrap_i64 (by omega) (by omega), br_if, if_neg (by simp; omega)]
      rfl
  · rw [if_neg (by simpa using h), show max n 2 = n by omega]
    dsimp only
    rw [below_loop (k + 1) n s _ hn hn2 hr.1 hr.2 _ (k + 1) s r (search_more hs 1)]
    rfl
noncomputable def below_ent : List V → List Blk → Option (Bool × Out)
  | [.s (.int .u64 s), .s (.int .i64 n)], [] => some ((decide (0 ≤ s) && decide (s < 18446744073709551616) && decide (1 ≤ n) && decide (n ≤ 512)), (.tup [.s (.int .u64 ((belowS s n).1)), .s (.int .i64 ((belowS s n).2))], []))
  | _, _ => none
theorem below_ok : ∀ args bs out, below_ent args bs = some (true, out) → Fact Tryd.prog gTab 228 args bs out := by
  intro args bs out h
  unfold below_ent at h
  split at h
  · rename_i s n
    simp only [Option.some.injEq, Prod.mk.injEq] at h
    obtain ⟨hg, rfl⟩ := h
    exact below_fact s n hg
  · cases h
noncomputable def T_below : Tbl := Tbl.cons 228 below_ent T_div
theorem T_below_ok : CallOk Tryd.prog gTab T_below := cons_ok T_div_ok below_ok
/-! downpour/downpourref06.rest -/
noncomputable def refRestF_s1 {R : Type} (n : Int) (c0 : Int → Option R) : Option R :=
  bnd (divI .rem .u64 18446744073709551615 n) fun v1 =>
  bnd (divI .rem .u64 (IntKind.u64.wrap (v1 + 1)) n) fun v2 =>
  c0 v2
theorem refRestF_s1_eq (fuel : Nat)  (n : Int) : callN Tryd.prog mode T_below fuel 231 [vU n] [] = refRestF_s1 n (fun a3 => some (vU a3, [])) := by kernel_rfl
noncomputable def refRestF {R : Type} (fuel : Nat) (n : Int) (r0 : Int → Option R) : Option R :=
  (refRestF_s1 n (fun a3 => r0 a3))
theorem refRestF_eq (fuel : Nat) (n : Int) : callN Tryd.prog mode T_below fuel 231 [.s (.int .u64 n)] [] = refRestF fuel n (fun z0 => some (.s (.int .u64 z0), [])) := by
  unfold refRestF
  exact (refRestF_s1_eq fuel  n)
theorem refRest_fact (n : Int) (hg : (decide (1 ≤ n) && decide (n ≤ 512)) = true) : Fact Tryd.prog gTab 231 [.s (.int .u64 n)] [] (.s (.int .u64 (18446744073709551616 % n)), []) := by
  simp only [Bool.and_eq_true, decide_eq_true_eq] at hg
  refine callN_fact hN hM T_below_ok (n := 0) (mode := mode) ?_
  rw [refRestF_eq]
  unfold refRestF refRestF_s1
  have h1 := Int.emod_nonneg 18446744073709551615 (show n ≠ 0 by omega)
  have h2 := Int.emod_lt_of_pos 18446744073709551615 (show 0 < n by omega)
  rw [bnd_of (rem_pos (by decide) (by omega)), wrap_u64 (by omega) (by omega), bnd_of (rem_pos (by omega) (by omega)), Int.emod_add_emod]
  rfl
noncomputable def refRest_ent : List V → List Blk → Option (Bool × Out)
  | [.s (.int .u64 n)], [] => some ((decide (1 ≤ n) && decide (n ≤ 512)), (.s (.int .u64 (18446744073709551616 % n)), []))
  | _, _ => none
theorem refRest_ok : ∀ args bs out, refRest_ent args bs = some (true, out) → Fact Tryd.prog gTab 231 args bs out := by
  intro args bs out h
  unfold refRest_ent at h
  split at h
  · rename_i n
    simp only [Option.some.injEq, Prod.mk.injEq] at h
    obtain ⟨hg, rfl⟩ := h
    exact refRest_fact n hg
  · cases h
noncomputable def T_refRest : Tbl := Tbl.cons 231 refRest_ent T_below
theorem T_refRest_ok : CallOk Tryd.prog gTab T_refRest := cons_ok T_below_ok refRest_ok
/-! downpour/downpourref06.Below -/
noncomputable def refBelowF_s2 {R : Type} (w3 w4 n : Int) (c0 c1 : Int → Int → Option R) : Option R :=
  grd (decide (0 ≤ (IntKind.u64.wrap (w3 + 11400714819323198485))) && decide ((IntKind.u64.wrap (w3 + 11400714819323198485)) < 18446744073709551616)) <|
  br (decide ((mixedS (IntKind.u64.wrap (w3 + 11400714819323198485))) ≤ w4))
    (bnd (divI .rem .u64 (mixedS (IntKind.u64.wrap (w3 + 11400714819323198485))) (IntKind.u64.wrap n)) fun v8 =>
    c0 (IntKind.u64.wrap (w3 + 11400714819323198485)) (IntKind.i64.wrap v8))
    (c1 (IntKind.u64.wrap (w3 + 11400714819323198485)) w4)
theorem refBelowF_s2_eq (fuel k : Nat) (K : Ex → St → Option Out) (w3 w4 n : Int) : lpN (sub (bodyOf Tryd.prog 218) [1, 1, 0, 0]) (fnX Tryd.prog mode T_refRest fuel 25 0) 16 [0, 1, 4, 5] (k + 1) ⟨[(0, vU w3), (1, vI n), (4, .ptr 0 2 0 0), (5, vU w4)], [(0, some ⟨263, .agg [vU 0, vI 0], true⟩)], 1, none⟩ K = refBelowF_s2 w3 w4 n (fun a9 a0 => K .ret ⟨[(4, .ptr 0 2 0 0)], [(0, some ⟨263, .agg [vU a9, vI a0], true⟩)], 1, none⟩) (fun a1 a2 => lpN (sub (bodyOf Tryd.prog 218) [1, 1, 0, 0]) (fnX Tryd.prog mode T_refRest fuel 25 0) 16 [0, 1, 4, 5] k ⟨[(0, vU a1), (1, vI n), (4, .ptr 0 2 0 0), (5, vU a2)], [(0, some ⟨263, .agg [vU 0, vI 0], true⟩)], 1, none⟩ K) := by kernel_rfl
noncomputable def refBelowF_l1 {R : Type} (fuel : Nat) (n : Int) (k0 : Int → Int → Option R) : Nat → Int → Int → Option R
  | 0, _, _ => none
  | k + 1, w3, w4 =>
    (refBelowF_s2 w3 w4 n (fun a9 a0 => k0 a9 a0) (fun a1 a2 => ( refBelowF_l1 fuel n k0 k a1 a2 )))
theorem refBelowF_l1_eq (fuel : Nat) (n : Int) (K : Ex → St → Option Out) : ∀ (k : Nat) (w3 w4 : Int), lpN (sub (bodyOf Tryd.prog 218) [1, 1, 0, 0]) (fnX Tryd.prog mode T_refRest fuel 25 0) 16 [0, 1, 4, 5] k ⟨[(0, vU w3), (1, vI n), (4, .ptr 0 2 0 0), (5, vU w4)], [(0, some ⟨263, .agg [vU 0, vI 0], true⟩)], 1, none⟩ K = refBelowF_l1 fuel n (fun y6 y7 => K .ret ⟨[(4, .ptr 0 2 0 0)], [(0, some ⟨263, .agg [vU y6, vI y7], true⟩)], 1, none⟩) k w3 w4
  | 0, _, _ => rfl
  | k + 1, w3, w4 => by
    unfold refBelowF_l1
    exact (refBelowF_s2_eq fuel k K w3 w4 n).trans (congr (congr (Eq.refl (refBelowF_s2 (R := Out) w3 w4 n)) (rfl)) (funext fun a0 => funext fun a1 => refBelowF_l1_eq fuel n K k a0 a1))
noncomputable def refBelowF_s3 {R : Type} (x0 x1 : Int) (c0 : Int → Int → Option R) : Option R :=
  c0 x0 x1
theorem refBelowF_s3_eq (fuel : Nat)  (x0 x1 : Int) : (kont (fnX Tryd.prog mode T_refRest fuel 25 0) (bodyOf Tryd.prog 218) [1, 1, 0] 16 (endK Tryd.prog 0 0 218)) .ret ⟨[(4, .ptr 0 2 0 0)], [(0, some ⟨263, .agg [vU x0, vI x1], true⟩)], 1, none⟩ = refBelowF_s3 x0 x1 (fun a0 a1 => some (.agg [vU a0, vI a1], [])) := by kernel_rfl
noncomputable def refBelowF_s1 {R : Type} (n s : Int) (c0 : Int → Int → Option R) : Option R :=
  grd (decide (1 ≤ (IntKind.u64.wrap n)) && decide ((IntKind.u64.wrap n) ≤ 512)) <|
  c0 s (IntKind.u64.wrap (18446744073709551615 - (18446744073709551616 % (IntKind.u64.wrap n))))
theorem refBelowF_s1_eq (fuel : Nat)  (n s : Int) : callN Tryd.prog mode T_refRest fuel 218 [vU s, vI n] [] = refBelowF_s1 n s (fun a0 a1 => lpN (sub (bodyOf Tryd.prog 218) [1, 1, 0, 0]) (fnX Tryd.prog mode T_refRest fuel 25 0) 16 [0, 1, 4, 5] fuel ⟨[(0, vU a0), (1, vI n), (4, .ptr 0 2 0 0), (5, vU a1)], [(0, some ⟨263, .agg [vU 0, vI 0], true⟩)], 1, none⟩ (kont (fnX Tryd.prog mode T_refRest fuel 25 0) (bodyOf Tryd.prog 218) [1, 1, 0] 16 (endK Tryd.prog 0 0 218))) := by kernel_rfl
noncomputable def refBelowF {R : Type} (fuel : Nat) (s n : Int) (r0 : Int → Int → Option R) : Option R :=
  (refBelowF_s1 n s (fun a0 a1 => (refBelowF_l1 fuel n (fun x0 x1 => (refBelowF_s3 x0 x1 (fun a2 a3 => r0 a2 a3))) fuel a0 a1)))
theorem refBelowF_eq (fuel : Nat) (s n : Int) : callN Tryd.prog mode T_refRest fuel 218 [.s (.int .u64 s), .s (.int .i64 n)] [] = refBelowF fuel s n (fun z0 z1 => some (.agg [.s (.int .u64 z0), .s (.int .i64 z1)], [])) := by
  unfold refBelowF
  exact (refBelowF_s1_eq fuel  n s).trans (congr (Eq.refl (refBelowF_s1 (R := Out) n s)) (funext fun a0 => funext fun a1 => (refBelowF_l1_eq fuel n (kont (fnX Tryd.prog mode T_refRest fuel 25 0) (bodyOf Tryd.prog 218) [1, 1, 0] 16 (endK Tryd.prog 0 0 218)) fuel a0 a1).trans (congrFun (congrFun (congrFun (congr (Eq.refl (refBelowF_l1 (R := Out) fuel n)) (funext fun x0 => funext fun x1 => (refBelowF_s3_eq fuel  x0 x1))) fuel) a0) a1)))
theorem refBelow_loop {R : Type} (fuel : Nat) (n rest : Int) (hn : 1 ≤ n) (hn2 : n ≤ 512) (hr : 0 ≤ rest) (hr2 : rest < 512) (k0 : Int → Int → Option R) : ∀ (k : Nat) (s : Int) (r : Int × Int), search rest n k s = some r → refBelowF_l1 fuel n k0 k s (18446744073709551615 - rest) = k0 r.1 r.2
  | 0, s, r, h => by cases h
  | k + 1, s, r, h => by
    unfold refBelowF_l1 refBelowF_s2
    have hx := mixed_range (nextS s)
    have hw : IntKind.u64.wrap n = n := wrap_u64 (by omega) (by omega)
    have hm1 := Int.emod_nonneg (mixedS (nextS s)) (show n ≠ 0 by omega)
    have hm2 := Int.emod_lt_of_pos (mixedS (nextS s)) (show 0 < n by omega)
    have hu := u64_range (s + 11400714819323198485)
    have hnx : IntKind.u64.wrap (s + 11400714819323198485) = nextS s := by rw [nextS_eq]; rfl
    rw [hnx] at hu ⊢
    simp only [search] at h
    rw [grd_of (by simp only [Bool.and_eq_true, decide_eq_true_eq]; exact hu), hw, bnd_of (rem_pos hx.1 (by omega)), wrap_i64 (by omega) (by omega), br_if]
    by_cases hc : mixedS (nextS s) + rest < 18446744073709551616
    · rw [if_pos hc] at h
      cases h
      rw [if_pos (by simp; omega)]
    · rw [if_neg hc] at h
      rw [if_neg (by simp; omega)]
      exact refBelow_loop fuel n rest hn hn2 hr hr2 k0 k _ r h
theorem refBelow_fact (s : Int) (n : Int) (hg : (decide (0 ≤ s) && decide (s < 18446744073709551616) && decide (1 ≤ n) && decide (n ≤ 512)) = true) : Fact Tryd.prog gTab 218 [.s (.int .u64 s), .s (.int .i64 n)] [] (.agg [.s (.int .u64 ((belowS s n).1)), .s (.int .i64 ((belowS s n).2))], []) := by
  simp only [Bool.and_eq_true, decide_eq_true_eq] at hg
  obtain ⟨⟨⟨h0, h1⟩, hn⟩, hn2⟩ := hg
  have hr := rest_range hn hn2
  obtain ⟨k, r, hs⟩ := search_ends (n := n) h0 h1 (show 18446744073709551616 % n < 18446744073709551616 by omega)
  rw [below_of_search hs]
  refine callN_fact hN hM T_refRest_ok (n := k) (mode := mode) ?_
  rw [refBelowF_eq]
  unfold refBelowF refBelowF_s1
  have hw : IntKind.u64.wrap n = n := wrap_u64 (by omega) (by omega)
  rw [hw, grd_of (by simp; omega), wrap_u64 (x := 18446744073709551615 - 18446744073709551616 % n) (by omega) (by omega)]
  dsimp only
  rw [refBelow_loop k n _ hn hn2 hr.1 hr.2 _ k s r hs]
  rfl
noncomputable def refBelow_ent : List V → List Blk → Option (Bool × Out)
  | [.s (.int .u64 s), .s (.int .i64 n)], [] => some ((decide (0 ≤ s) && decide (s < 18446744073709551616) && decide (1 ≤ n) && decide (n ≤ 512)), (.agg [.s (.int .u64 ((belowS s n).1)), .s (.int .i64 ((belowS s n).2))], []))
  | _, _ => none
theorem refBelow_ok : ∀ args bs out, refBelow_ent args bs = some (true, out) → Fact Tryd.prog gTab 218 args bs out := by
  intro args bs out h
  unfold refBelow_ent at h
  split at h
  · rename_i s n
    simp only [Option.some.injEq, Prod.mk.injEq] at h
    obtain ⟨hg, rfl⟩ := h
    exact refBelow_fact s n hg
  · cases h
noncomputable def T_refBelow : Tbl := Tbl.cons 218 refBelow_ent T_refRest
theorem T_refBelow_ok : CallOk Tryd.prog gTab T_refBelow := cons_ok T_refRest_ok refBelow_ok
/-! Orders of random numbers: what they are. -/
def iotaS (n : Nat) : List Int := (List.range n).map Int.ofNat
theorem iota_succ (n : Nat) : iotaS n ++ [(n : Int)] = iotaS (n + 1) := by unfold iotaS; rw [List.range_succ, List.map_append]; rfl
theorem iota_len (n : Nat) : (iotaS n).length = n := by unfold iotaS; simp
def swpS (l : List Int) (i j : Nat) : List Int := (l.set i (l[j]?.getD 0)).set j (l[i]?.getD 0)
theorem swp_len (l : List Int) (i j : Nat) : (swpS l i j).length = l.length := by unfold swpS; simp
noncomputable def swapsS : Nat → Int → List Int → Int × List Int
  | 0, s, l => (s, l)
  | i + 1, s, l => swapsS i (belowS s ((i : Int) + 2)).1 (swpS l (i + 1) (belowS s ((i : Int) + 2)).2.toNat)
noncomputable def shuffleI (s n : Int) : Int × List Int := swapsS (n.toNat - 1) s (iotaS n.toNat)
noncomputable def shuffleS : Int → Int → Int × List Int := Classical.choose (⟨shuffleI, rfl⟩ : ∃ f, f = shuffleI)
theorem shuffleS_eq : shuffleS = shuffleI := Classical.choose_spec (⟨shuffleI, rfl⟩ : ∃ f, f = shuffleI)
def someOk (n many : Int) : Bool := sizedS n && decide (0 ≤ many) && decide (many ≤ n)
def riseI (m : Nat) (xs : List Int) : List Int := ((xs.take m).mergeSort fun x y => decide (x ≤ y)) ++ xs.drop m
noncomputable def sortPre : Nat → List Int → List Int := Classical.choose (⟨riseI, rfl⟩ : ∃ f, f = riseI)
theorem sortPre_eq : sortPre = riseI := Classical.choose_spec (⟨riseI, rfl⟩ : ∃ f, f = riseI)
noncomputable def someI (s n many : Int) : List Int := ((shuffleS s n).2.take many.toNat).mergeSort fun x y => decide (x ≤ y)
noncomputable def someS : Int → Int → Int → List Int := Classical.choose (⟨someI, rfl⟩ : ∃ f, f = someI)
theorem someS_eq : someS = someI := Classical.choose_spec (⟨someI, rfl⟩ : ∃ f, f = someI)
theorem search_range {rest n : Int} {r : Int × Int} (hn : 1 ≤ n) : ∀ {k : Nat} {s : Int}, search rest n k s = some r → (0 ≤ r.1 ∧ r.1 < 18446744073709551616) ∧ 0 ≤ r.2 ∧ r.2 < n
  | 0, s, h => by cases h
  | k + 1, s, h => by
    simp only [search] at h
    split at h
    · cases h
      exact ⟨next_range s, Int.emod_nonneg _ (by omega), Int.emod_lt_of_pos _ (by omega)⟩
    · exact search_range hn h
theorem below_range {s n : Int} (h0 : 0 ≤ s) (h1 : s < 18446744073709551616) (hn : 1 ≤ n) (hn2 : n ≤ 512) : (0 ≤ (belowS s n).1 ∧ (belowS s n).1 < 18446744073709551616) ∧ 0 ≤ (belowS s n).2 ∧ (belowS s n).2 < n := by
  have hr := rest_range hn hn2
  obtain ⟨k, r, hs⟩ := search_ends (n := n) h0 h1 (show 18446744073709551616 % n < 18446744073709551616 by omega)
  rw [below_of_search hs]
  exact search_range hn hs
theorem get_of {l : List Int} {i : Nat} (h : i < l.length) : l[i]? = some (l[i]?.getD 0) := by rw [List.getElem?_eq_getElem h]; rfl
noncomputable def inI (l : List Int) (many n : Int) : Bool := (l.take many.toNat).contains n
noncomputable def inS : List Int → Int → Int → Bool := Classical.choose (⟨inI, rfl⟩ : ∃ f, f = inI)
theorem inS_eq : inS = inI := Classical.choose_spec (⟨inI, rfl⟩ : ∃ f, f = inI)
def eqI_li (a b : List Int) : Bool := decide (a = b)
noncomputable def eqS_li : List Int → List Int → Bool := Classical.choose (⟨eqI_li, rfl⟩ : ∃ f, f = eqI_li)
theorem eqS_li_eq : eqS_li = eqI_li := Classical.choose_spec (⟨eqI_li, rfl⟩ : ∃ f, f = eqI_li)
theorem eqS_li_self (a : List Int) : eqS_li a a = true := by rw [eqS_li_eq]; simp [eqI_li]
theorem swp_perm {l : List Int} {i j : Nat} (hi : i < l.length) (hj : j < l.length) : (swpS l i j).Perm l := by
  have h := List.set_set_perm hi hj
  unfold swpS
  rw [List.getElem?_eq_getElem hi, List.getElem?_eq_getElem hj]
  exact h
theorem swaps_perm : ∀ (i : Nat) (s : Int) (l : List Int), i < l.length → l.length ≤ 512 → 0 ≤ s → s < 18446744073709551616 → (swapsS i s l).2.Perm l
  | 0, s, l, _, _, _, _ => List.Perm.refl _
  | i + 1, s, l, hi, hl, h0, h1 => by
    have hb := below_range (n := (i : Int) + 2) h0 h1 (by omega) (by omega)
    obtain ⟨⟨b0, b1⟩, b2, b3⟩ := hb
    rw [swapsS]
    exact (swaps_perm i _ _ (by rw [swp_len]; omega) (by rw [swp_len]; omega) b0 b1).trans (swp_perm hi (by omega))
theorem iota_nodup (n : Nat) : (iotaS n).Nodup := by
  unfold iotaS
  have h := List.nodup_range (n := n)
  unfold List.Nodup at h ⊢
  rw [List.pairwise_map]
  exact h.imp fun h e => h (by injection e)
theorem mem_iota {n : Nat} {x : Int} : x ∈ iotaS n ↔ 0 ≤ x ∧ x < n := by
  unfold iotaS
  rw [List.mem_map]
  constructor
  · rintro ⟨a, ha, rfl⟩
    rw [List.mem_range] at ha
    exact ⟨Int.natCast_nonneg a, Int.ofNat_lt.2 ha⟩
  · rintro ⟨h0, h1⟩
    exact ⟨x.toNat, List.mem_range.2 (by omega), by show ((x.toNat : Nat) : Int) = x; omega⟩
theorem shuffle_perm {s n : Int} (h0 : 0 ≤ s) (h1 : s < 18446744073709551616) (hn : 1 ≤ n) (hn2 : n ≤ 512) : (shuffleS s n).2.Perm (iotaS n.toNat) := by
  rw [shuffleS_eq]
  unfold shuffleI
  exact swaps_perm _ _ _ (by rw [iota_len]; omega) (by rw [iota_len]; omega) h0 h1
theorem mem_shuffle {s n x : Int} (h0 : 0 ≤ s) (h1 : s < 18446744073709551616) (hn : 1 ≤ n) (hn2 : n ≤ 512) : x ∈ (shuffleS s n).2 ↔ 0 ≤ x ∧ x < n := by
  rw [(shuffle_perm h0 h1 hn hn2).mem_iff, mem_iota]
  omega
theorem shuffle_nodup {s n : Int} (h0 : 0 ≤ s) (h1 : s < 18446744073709551616) (hn : 1 ≤ n) (hn2 : n ≤ 512) : (shuffleS s n).2.Nodup := (shuffle_perm h0 h1 hn hn2).nodup_iff.2 (iota_nodup _)
def pickS (p : Int → Bool) : Nat → Int → List Int
  | 0, _ => []
  | k + 1, i => if p i = true then i :: pickS p k (i + 1) else pickS p k (i + 1)
theorem mem_pick {p : Int → Bool} {x : Int} : ∀ {k : Nat} {i : Int}, x ∈ pickS p k i ↔ i ≤ x ∧ x < i + k ∧ p x = true
  | 0, i => by simp [pickS]; omega
  | k + 1, i => by
    have ih := mem_pick (p := p) (x := x) (k := k) (i := i + 1)
    rw [pickS]
    split
    · rename_i hp
      rw [List.mem_cons, ih]
      constructor
      · rintro (rfl | ⟨a, b, c⟩)
        · exact ⟨by omega, by omega, hp⟩
        · exact ⟨by omega, by omega, c⟩
      · rintro ⟨a, b, c⟩
        by_cases h : x = i
        · exact .inl h
        · exact .inr ⟨by omega, by omega, c⟩
    · rename_i hp
      rw [ih]
      constructor
      · rintro ⟨a, b, c⟩; exact ⟨by omega, by omega, c⟩
      · rintro ⟨a, b, c⟩
        have : x ≠ i := by rintro rfl; exact hp c
        exact ⟨by omega, by omega, c⟩
theorem pick_rise {p : Int → Bool} : ∀ {k : Nat} {i : Int}, (pickS p k i).Pairwise (· < ·)
  | 0, i => List.Pairwise.nil
  | k + 1, i => by
    rw [pickS]
    split
    · exact List.pairwise_cons.2 ⟨fun x hx => by have := (mem_pick.1 hx).1; omega, pick_rise⟩
    · exact pick_rise
theorem mem_some {s n many x : Int} : x ∈ someS s n many ↔ x ∈ (shuffleS s n).2.take many.toNat := by rw [someS_eq]; exact List.mem_mergeSort
theorem some_perm (s n many : Int) : (someS s n many).Perm ((shuffleS s n).2.take many.toNat) := by rw [someS_eq]; exact List.mergeSort_perm _ _
theorem some_rise (s n many : Int) : (someS s n many).Pairwise (· ≤ ·) := by
  rw [someS_eq]
  have := List.pairwise_mergeSort (le := fun x y : Int => decide (x ≤ y)) (fun a b c h1 h2 => by simp only [decide_eq_true_eq] at h1 h2 ⊢; omega) (fun a b => by simp; omega) ((shuffleS s n).2.take many.toNat)
  exact this.imp fun h => by simpa using h
theorem some_nodup {s n many : Int} (h0 : 0 ≤ s) (h1 : s < 18446744073709551616) (hn : 1 ≤ n) (hn2 : n ≤ 512) : (someS s n many).Nodup := (some_perm s n many).nodup_iff.2 ((shuffle_nodup h0 h1 hn hn2).sublist (List.take_sublist _ _))
theorem some_pick {s n many : Int} (h0 : 0 ≤ s) (h1 : s < 18446744073709551616) (hn : 1 ≤ n) (hn2 : n ≤ 512) : someS s n many = pickS (inS (shuffleS s n).2 many) n.toNat 0 := by
  refine List.Perm.eq_of_pairwise (le := (· ≤ ·)) (fun a b _ _ h h' => by omega) (some_rise s n many) (pick_rise.imp fun h => by omega) ?_
  refine (List.perm_ext_iff_of_nodup (some_nodup h0 h1 hn hn2) (pick_rise.imp fun h => by omega)).2 fun x => ?_
  rw [mem_some, mem_pick, inS_eq]
  unfold inI
  rw [List.contains_iff_mem]
  constructor
  · intro h
    have := (mem_shuffle h0 h1 hn hn2).1 ((List.take_sublist _ _).subset h)
    exact ⟨by omega, by omega, h⟩
  · exact fun h => h.2.2
theorem swaps_len : ∀ (i : Nat) (s : Int) (l : List Int), (swapsS i s l).2.length = l.length
  | 0, s, l => rfl
  | i + 1, s, l => by rw [swapsS, swaps_len i, swp_len]
theorem shuffle_len (s n : Int) : (shuffleS s n).2.length = n.toNat := by rw [shuffleS_eq]; unfold shuffleI; rw [swaps_len, iota_len]
theorem some_len {s n many : Int} (h : 0 ≤ many) (h2 : many ≤ n) : (someS s n many).length = many.toNat := by
  rw [(some_perm s n many).length_eq, List.length_take, shuffle_len]; omega
def mode1 : FuncId → Nat := fun f => bif Nat.beq f 156 then 2 else bif Nat.beq f 216 then 2 else 0
/-! downpour/random.Shuffle -/
noncomputable abbrev qa20 (fuel : Nat) : Ctx Out := (fnX Tryd.prog mode1 T_refBelow fuel 52 0)
noncomputable abbrev qa21 : Code := (bodyOf Tryd.prog 216)
noncomputable abbrev qa22 : Code := (sub qa21 [1, 1, 1, 1, 0, 1, 0, 0])
noncomputable abbrev qa23 : Code := (sub qa21 [1, 1, 1, 0, 1, 0, 0])
noncomputable abbrev qa24 : List Nat := [0, 1, 4, 5, 6, 7, 14, 15]
noncomputable def shufOwnF_s3 {R : Type} (w0 n : Int) (w1 : List Int) (w2 : Nat) (s : Int) (c0 : Nat → Int → List Int → Option R) (c1 : Nat → List Int → Option R) : Option R :=
  br (decide (w0 < n))
    (grd (Nat.beq w1.length w2) <|
    grd (okN (w2 + 1) 8) <|
    c0 ((w1 ++ [w0]).length) (IntKind.i64.wrap (w0 + 1)) (w1 ++ [w0]))
    (c1 w2 w1)
theorem shufOwnF_s3_eq (fuel k : Nat) (K : Ex → St → Option Out) (w0 n : Int) (w1 : List Int) (w2 : Nat) (s : Int) : lpN qa23 (qa20 fuel) 4503599618983667 qa24 (k + 1) ⟨[(0, vU s), (1, vI n), (4, vU 0), (5, vN), (6, vI 0), (7, .sl 0 1 0 w2), (14, vI n), (15, vI w0)], [(0, bL 3 w1)], 1, none⟩ K = shufOwnF_s3 w0 n w1 w2 s (fun a0 a1 a2 => lpN qa23 (qa20 fuel) 4503599618983667 qa24 k ⟨[(0, vU s), (1, vI n), (4, vU 0), (5, vN), (6, vI 0), (7, .sl 0 1 0 a0), (14, vI n), (15, vI a1)], [(0, bL 3 a2)], 1, none⟩ K) (fun a3 a4 => K (.exit 0) ⟨[(0, vU s), (1, vI n), (4, vU 0), (5, vN), (6, vI 0), (7, .sl 0 1 0 a3)], [(0, bL 3 a4)], 1, none⟩) := by kernel_rfl
noncomputable def shufOwnF_l2 {R : Type} (fuel : Nat) (s n : Int) (k0 : Nat → List Int → Option R) : Nat → Nat → Int → List Int → Option R
  | 0, _, _, _ => none
  | k + 1, w0, w1, w2 =>
    (shufOwnF_s3 w1 n w2 w0 s (fun a0 a1 a2 => ( shufOwnF_l2 fuel s n k0 k a0 a1 a2 )) (fun a3 a4 => k0 a3 a4))
theorem shufOwnF_l2_eq (fuel : Nat) (s n : Int) (K : Ex → St → Option Out) : ∀ (k w0 : Nat) (w1 : Int) (w2 : List Int), lpN qa23 (qa20 fuel) 4503599618983667 qa24 k ⟨[(0, vU s), (1, vI n), (4, vU 0), (5, vN), (6, vI 0), (7, .sl 0 1 0 w0), (14, vI n), (15, vI w1)], [(0, bL 3 w2)], 1, none⟩ K = shufOwnF_l2 fuel s n (fun y0 y1 => K (.exit 0) ⟨[(0, vU s), (1, vI n), (4, vU 0), (5, vN), (6, vI 0), (7, .sl 0 1 0 y0)], [(0, bL 3 y1)], 1, none⟩) k w0 w1 w2
  | 0, _, _, _ => rfl
  | k + 1, w0, w1, w2 => by
    unfold shufOwnF_l2
    exact (shufOwnF_s3_eq fuel k K w1 n w2 w0 s).trans (congr (congr (Eq.refl (shufOwnF_s3 (R := Out) w1 n w2 w0 s)) (funext fun a0 => funext fun a1 => funext fun a2 => shufOwnF_l2_eq fuel s n K k a0 a1 a2)) (rfl))
noncomputable def shufOwnF_s2 {R : Type} (n s : Int) (c0 : Nat → Int → List Int → Option R) (c1 : Option R) : Option R :=
  br (decide (0 < n))
    (c0 1 1 ([0]))
    (c1)
theorem shufOwnF_s2_eq (fuel k : Nat) (K : Ex → St → Option Out) (n s : Int) : lpN qa23 (qa20 fuel) 4503599618983667 qa24 (k + 1) ⟨[(0, vU s), (1, vI n), (4, vU 0), (5, vN), (6, vI 0), (7, vN), (14, vI n), (15, vI 0)], [], 0, none⟩ K = shufOwnF_s2 n s (fun a0 a1 a2 => lpN qa23 (qa20 fuel) 4503599618983667 qa24 k ⟨[(0, vU s), (1, vI n), (4, vU 0), (5, vN), (6, vI 0), (7, .sl 0 1 0 a0), (14, vI n), (15, vI a1)], [(0, bL 3 a2)], 1, none⟩ K) (K (.exit 0) ⟨[(0, vU s), (1, vI n), (4, vU 0), (5, vN), (6, vI 0), (7, vN)], [], 0, none⟩) := by kernel_rfl
noncomputable def shufOwnF_l1 {R : Type} (fuel : Nat) (s n : Int) (k0 : Nat → List Int → Option R) (k1 : Option R) : Nat → Option R
  | 0 => none
  | k + 1 =>
    (shufOwnF_s2 n s (fun a0 a1 a2 => (shufOwnF_l2 fuel s n (fun x0 x1 => k0 x0 x1) k a0 a1 a2)) (k1))
theorem shufOwnF_l1_eq (fuel : Nat) (s n : Int) (K : Ex → St → Option Out) : ∀ (k : Nat) , lpN qa23 (qa20 fuel) 4503599618983667 qa24 k ⟨[(0, vU s), (1, vI n), (4, vU 0), (5, vN), (6, vI 0), (7, vN), (14, vI n), (15, vI 0)], [], 0, none⟩ K = shufOwnF_l1 fuel s n (fun y8 y9 => K (.exit 0) ⟨[(0, vU s), (1, vI n), (4, vU 0), (5, vN), (6, vI 0), (7, .sl 0 1 0 y8)], [(0, bL 3 y9)], 1, none⟩) (K (.exit 0) ⟨[(0, vU s), (1, vI n), (4, vU 0), (5, vN), (6, vI 0), (7, vN)], [], 0, none⟩) k 
  | 0 => rfl
  | k + 1 => by
    unfold shufOwnF_l1
    exact (shufOwnF_s2_eq fuel k K n s).trans (congr (congr (Eq.refl (shufOwnF_s2 (R := Out) n s)) (funext fun a0 => funext fun a1 => funext fun a2 => shufOwnF_l2_eq fuel s n K k a0 a1 a2)) (rfl))
noncomputable def shufOwnF_s5 {R : Type} (w0 w1 : Int) (x0 : Nat) (w2 : List Int) (c0 : Int → Int → List Int → Option R) (c1 : Int → List Int → Option R) : Option R :=
  br (decide (w0 > 0))
    (grd (decide (0 ≤ w1) && decide (w1 < 18446744073709551616) && decide (1 ≤ (IntKind.i64.wrap (w0 + 1))) && decide ((IntKind.i64.wrap (w0 + 1)) ≤ 512)) <|
    bnd (below ((belowS w1 (IntKind.i64.wrap (w0 + 1))).2) x0) fun j0 =>
    bnd (w2[(0 + j0)]?) fun e0 =>
    bnd (below w0 x0) fun j1 =>
    bnd (w2[(0 + j1)]?) fun e1 =>
    bnd (below w0 x0) fun j2 =>
    bnd (w2[(0 + j2)]?) fun e2 =>
    bnd (below ((belowS w1 (IntKind.i64.wrap (w0 + 1))).2) x0) fun j3 =>
    bnd ((w2.set (0 + j2) e0)[(0 + j3)]?) fun e3 =>
    c0 ((belowS w1 (IntKind.i64.wrap (w0 + 1))).1) (IntKind.i64.wrap (w0 - 1)) ((w2.set (0 + j2) e0).set (0 + j3) e1))
    (c1 w1 w2)
theorem shufOwnF_s5_eq (fuel k : Nat) (K : Ex → St → Option Out) (w0 w1 : Int) (x0 : Nat) (w2 : List Int) : lpN qa22 (qa20 fuel) 3377699720528113 [0, 4, 5, 6, 7, 9] (k + 1) ⟨[(0, vU w1), (4, vU 0), (5, vN), (6, vI 0), (7, .sl 0 1 0 x0), (9, vI w0)], [(0, bL 3 w2)], 1, none⟩ K = shufOwnF_s5 w0 w1 x0 w2 (fun a0 a1 a2 => lpN qa22 (qa20 fuel) 3377699720528113 [0, 4, 5, 6, 7, 9] k ⟨[(0, vU a0), (4, vU 0), (5, vN), (6, vI 0), (7, .sl 0 1 0 x0), (9, vI a1)], [(0, bL 3 a2)], 1, none⟩ K) (fun a3 a4 => K (.exit 2) ⟨[(0, vU a3), (4, vU 0), (5, vN), (6, vI 0), (7, .sl 0 1 0 x0)], [(0, bL 3 a4)], 1, none⟩) := by kernel_rfl
noncomputable def shufOwnF_l3 {R : Type} (fuel x0 : Nat) (k0 : Int → List Int → Option R) : Nat → Int → Int → List Int → Option R
  | 0, _, _, _ => none
  | k + 1, w0, w1, w2 =>
    (shufOwnF_s5 w1 w0 x0 w2 (fun a0 a1 a2 => ( shufOwnF_l3 fuel x0 k0 k a0 a1 a2 )) (fun a3 a4 => k0 a3 a4))
theorem shufOwnF_l3_eq (fuel x0 : Nat) (K : Ex → St → Option Out) : ∀ (k : Nat) (w0 w1 : Int) (w2 : List Int), lpN qa22 (qa20 fuel) 3377699720528113 [0, 4, 5, 6, 7, 9] k ⟨[(0, vU w0), (4, vU 0), (5, vN), (6, vI 0), (7, .sl 0 1 0 x0), (9, vI w1)], [(0, bL 3 w2)], 1, none⟩ K = shufOwnF_l3 fuel x0 (fun y0 y1 => K (.exit 2) ⟨[(0, vU y0), (4, vU 0), (5, vN), (6, vI 0), (7, .sl 0 1 0 x0)], [(0, bL 3 y1)], 1, none⟩) k w0 w1 w2
  | 0, _, _, _ => rfl
  | k + 1, w0, w1, w2 => by
    unfold shufOwnF_l3
    exact (shufOwnF_s5_eq fuel k K w1 w0 x0 w2).trans (congr (congr (Eq.refl (shufOwnF_s5 (R := Out) w1 w0 x0 w2)) (funext fun a0 => funext fun a1 => funext fun a2 => shufOwnF_l3_eq fuel x0 K k a0 a1 a2)) (rfl))
noncomputable def shufOwnF_s6 {R : Type} (x0 : Int) (x1 : Nat) (x2 : List Int) (c0 : Int → Nat → Nat → Int → List Int → Option R) : Option R :=
  c0 x0 0 x1 0 x2
theorem shufOwnF_s6_eq (fuel : Nat)  (x0 : Int) (x1 : Nat) (x2 : List Int) : (kont (qa20 fuel) qa21 [1, 1, 1, 1, 0, 1, 0] 112 (endK Tryd.prog 2 0 216)) (.exit 2) ⟨[(0, vU x0), (4, vU 0), (5, vN), (6, vI 0), (7, .sl 0 1 0 x1)], [(0, bL 3 x2)], 1, none⟩ = shufOwnF_s6 x0 x1 x2 (fun a0 a1 a2 a3 a4 => some (.tup [vU a0, .sl 0 1 a1 a2, vI a3], [bL 3 a4])) := by kernel_rfl
noncomputable def shufOwnF_s4 {R : Type} (s n : Int) (x0 : List Int) (x1 : Nat) (c0 : Int → Int → List Int → Option R) : Option R :=
  c0 s (IntKind.i64.wrap (n - 1)) x0
theorem shufOwnF_s4_eq (fuel : Nat)  (s n : Int) (x0 : List Int) (x1 : Nat) : (kont (qa20 fuel) qa21 [1, 1, 1, 0, 1, 0] 112 (endK Tryd.prog 2 0 216)) (.exit 0) ⟨[(0, vU s), (1, vI n), (4, vU 0), (5, vN), (6, vI 0), (7, .sl 0 1 0 x1)], [(0, bL 3 x0)], 1, none⟩ = shufOwnF_s4 s n x0 x1 (fun a0 a1 a2 => lpN qa22 (qa20 fuel) 3377699720528113 [0, 4, 5, 6, 7, 9] fuel ⟨[(0, vU a0), (4, vU 0), (5, vN), (6, vI 0), (7, .sl 0 1 0 x1), (9, vI a1)], [(0, bL 3 a2)], 1, none⟩ (kont (qa20 fuel) qa21 [1, 1, 1, 1, 0, 1, 0] 112 (endK Tryd.prog 2 0 216))) := by kernel_rfl
noncomputable def shufOwnF_s8 {R : Type} (w0 s : Int) (c0 : Option R) : Option R :=
  br (decide (w0 > 0))
    (grd (decide (0 ≤ s) && decide (s < 18446744073709551616) && decide (1 ≤ (IntKind.i64.wrap (w0 + 1))) && decide ((IntKind.i64.wrap (w0 + 1)) ≤ 512)) <|
    none)
    (c0)
theorem shufOwnF_s8_eq (fuel k : Nat) (K : Ex → St → Option Out) (w0 s : Int) : lpN qa22 (qa20 fuel) 3377699720528113 [0, 4, 5, 6, 7, 9] (k + 1) ⟨[(0, vU s), (4, vU 0), (5, vN), (6, vI 0), (7, vN), (9, vI w0)], [], 0, none⟩ K = shufOwnF_s8 w0 s (K (.exit 2) ⟨[(0, vU s), (4, vU 0), (5, vN), (6, vI 0), (7, vN)], [], 0, none⟩) := by kernel_rfl
noncomputable def shufOwnF_l4 {R : Type} (fuel : Nat) (s : Int) (k0 : Option R) : Nat → Int → Option R
  | 0, _ => none
  | k + 1, w0 =>
    (shufOwnF_s8 w0 s (k0))
theorem shufOwnF_l4_eq (fuel : Nat) (s : Int) (K : Ex → St → Option Out) : ∀ (k : Nat) (w0 : Int), lpN qa22 (qa20 fuel) 3377699720528113 [0, 4, 5, 6, 7, 9] k ⟨[(0, vU s), (4, vU 0), (5, vN), (6, vI 0), (7, vN), (9, vI w0)], [], 0, none⟩ K = shufOwnF_l4 fuel s (K (.exit 2) ⟨[(0, vU s), (4, vU 0), (5, vN), (6, vI 0), (7, vN)], [], 0, none⟩) k w0
  | 0, _ => rfl
  | k + 1, w0 => by
    unfold shufOwnF_l4
    exact (shufOwnF_s8_eq fuel k K w0 s)
noncomputable def shufOwnF_s9 {R : Type} (s : Int) (c0 : Int → Int → Option R) : Option R :=
  c0 s 0
theorem shufOwnF_s9_eq (fuel : Nat)  (s : Int) : (kont (qa20 fuel) qa21 [1, 1, 1, 1, 0, 1, 0] 112 (endK Tryd.prog 2 0 216)) (.exit 2) ⟨[(0, vU s), (4, vU 0), (5, vN), (6, vI 0), (7, vN)], [], 0, none⟩ = shufOwnF_s9 s (fun a0 a1 => some (.tup [vU a0, vN, vI a1], [])) := by kernel_rfl
noncomputable def shufOwnF_s7 {R : Type} (n s : Int) (c0 : Int → Option R) : Option R :=
  c0 (IntKind.i64.wrap (n - 1))
theorem shufOwnF_s7_eq (fuel : Nat)  (n s : Int) : (kont (qa20 fuel) qa21 [1, 1, 1, 0, 1, 0] 112 (endK Tryd.prog 2 0 216)) (.exit 0) ⟨[(0, vU s), (1, vI n), (4, vU 0), (5, vN), (6, vI 0), (7, vN)], [], 0, none⟩ = shufOwnF_s7 n s (fun a0 => lpN qa22 (qa20 fuel) 3377699720528113 [0, 4, 5, 6, 7, 9] fuel ⟨[(0, vU s), (4, vU 0), (5, vN), (6, vI 0), (7, vN), (9, vI a0)], [], 0, none⟩ (kont (qa20 fuel) qa21 [1, 1, 1, 1, 0, 1, 0] 112 (endK Tryd.prog 2 0 216))) := by kernel_rfl
noncomputable def shufOwnF_s1 {R : Type} (n s : Int) (c0 : Int → Int → Option R) (c1 : Option R) : Option R :=
  br (!(sizedS n))
    (c0 0 2)
    (c1)
theorem shufOwnF_s1_eq (fuel : Nat)  (n s : Int) : callN Tryd.prog mode1 T_refBelow fuel 216 [vU s, vI n] [] = shufOwnF_s1 n s (fun a1 a2 => some (.tup [vU a1, vN, vI a2], [])) (lpN qa23 (qa20 fuel) 4503599618983667 qa24 fuel ⟨[(0, vU s), (1, vI n), (4, vU 0), (5, vN), (6, vI 0), (7, vN), (14, vI n), (15, vI 0)], [], 0, none⟩ (kont (qa20 fuel) qa21 [1, 1, 1, 0, 1, 0] 112 (endK Tryd.prog 2 0 216))) := by kernel_rfl
noncomputable def shufOwnF {R : Type} (fuel : Nat) (s n : Int) (r0 : Int → Int → Option R) (r1 : Int → Nat → Nat → Int → List Int → Option R) : Option R :=
  (shufOwnF_s1 n s (fun a1 a2 => r0 a1 a2) ((shufOwnF_l1 fuel s n (fun x0 x1 => (shufOwnF_s4 s n x1 x0 (fun a0 a3 a4 => (shufOwnF_l3 fuel x0 (fun x2 x3 => (shufOwnF_s6 x2 x0 x3 (fun a5 a6 a7 a8 a9 => r1 a5 a6 a7 a8 a9))) fuel a0 a3 a4)))) ((shufOwnF_s7 n s (fun a73 => (shufOwnF_l4 fuel s ((shufOwnF_s9 s (fun a74 a75 => r0 a74 a75))) fuel a73)))) fuel)))
theorem shufOwnF_eq (fuel : Nat) (s n : Int) : callN Tryd.prog mode1 T_refBelow fuel 216 [.s (.int .u64 s), .s (.int .i64 n)] [] = shufOwnF fuel s n (fun z0 z1 => some (.tup [.s (.int .u64 z0), .s (.slice none 0 0), .s (.int .i64 z1)], [])) (fun z0 z1 z2 z3 z4 => some (.tup [.s (.int .u64 z0), .sl 0 1 z1 z2, .s (.int .i64 z3)], [some ⟨3, .li .i64 z4, true⟩])) := by
  unfold shufOwnF
  exact (shufOwnF_s1_eq fuel  n s).trans (congr (congr (Eq.refl (shufOwnF_s1 (R := Out) n s)) (rfl)) ((shufOwnF_l1_eq fuel s n (kont (qa20 fuel) qa21 [1, 1, 1, 0, 1, 0] 112 (endK Tryd.prog 2 0 216)) fuel ).trans (congrFun (congr (congr (Eq.refl (shufOwnF_l1 (R := Out) fuel s n)) (funext fun x0 => funext fun x1 => (shufOwnF_s4_eq fuel  s n x1 x0).trans (congr (Eq.refl (shufOwnF_s4 (R := Out) s n x1 x0)) (funext fun a0 => funext fun a1 => funext fun a2 => (shufOwnF_l3_eq fuel x0 (kont (qa20 fuel) qa21 [1, 1, 1, 1, 0, 1, 0] 112 (endK Tryd.prog 2 0 216)) fuel a0 a1 a2).trans (congrFun (congrFun (congrFun (congrFun (congr (Eq.refl (shufOwnF_l3 (R := Out) fuel x0)) (funext fun x2 => funext fun x3 => (shufOwnF_s6_eq fuel  x2 x0 x3))) fuel) a0) a1) a2))))) ((shufOwnF_s7_eq fuel  n s).trans (congr (Eq.refl (shufOwnF_s7 (R := Out) n s)) (funext fun a3 => (shufOwnF_l4_eq fuel s (kont (qa20 fuel) qa21 [1, 1, 1, 1, 0, 1, 0] 112 (endK Tryd.prog 2 0 216)) fuel a3).trans (congrFun (congrFun (congr (Eq.refl (shufOwnF_l4 (R := Out) fuel s)) ((shufOwnF_s9_eq fuel  s))) fuel) a3))))) fuel)))
theorem shufOwn_app {R : Type} (fuel : Nat) (s n : Int) (k0 : Nat → List Int → Option R) (h1 : 1 ≤ n) (h2 : n ≤ 512) : ∀ (k j : Nat), (j : Int) ≤ n → n < (j : Int) + k → shufOwnF_l2 fuel s n k0 k j (j : Int) (iotaS j) = k0 n.toNat (iotaS n.toNat)
  | 0, j, hj, hk => by omega
  | k + 1, j, hj, hk => by
    unfold shufOwnF_l2 shufOwnF_s3
    rw [br_if]
    by_cases hc : (j : Int) < n
    · rw [if_pos (by simpa using hc), iota_len, grd_of (beq_self _), grd_of (okN_of (by omega) (by omega)), iota_succ, iota_len, wrap_i64 (by omega) (by omega), show (j : Int) + 1 = ((j + 1 : Nat) : Int) by omega]
      exact shufOwn_app fuel s n k0 h1 h2 k (j + 1) (by omega) (by omega)
    · rw [if_neg (by simpa using hc), show n.toNat = j by omega]
theorem shufOwn_swaps {R : Type} (fuel m : Nat) (hm : m ≤ 512) (k0 : Int → List Int → Option R) : ∀ (i k : Nat) (s : Int) (l : List Int), l.length = m → i < m → 0 ≤ s → s < 18446744073709551616 → i < k → shufOwnF_l3 fuel m k0 k s (i : Int) l = k0 (swapsS i s l).1 (swapsS i s l).2 ∧ (swapsS i s l).2.length = m
  | _, 0, s, l, hl, hi, h0, h1, hk => by omega
  | 0, k + 1, s, l, hl, hi, h0, h1, hk => by
    unfold shufOwnF_l3 shufOwnF_s5
    rw [br_if, if_neg (by decide)]
    exact ⟨rfl, hl⟩
  | i + 1, k + 1, s, l, hl, hi, h0, h1, hk => by
    unfold shufOwnF_l3 shufOwnF_s5
    have hw : IntKind.i64.wrap (((i + 1 : Nat) : Int) + 1) = (i : Int) + 2 := by rw [wrap_i64 (by omega) (by omega)]; omega
    have hb := below_range (n := (i : Int) + 2) h0 h1 (by omega) (by omega)
    obtain ⟨⟨b0, b1⟩, b2, b3⟩ := hb
    have e1 : below (belowS s ((i : Int) + 2)).2 m = some (belowS s ((i : Int) + 2)).2.toNat := below_of b2 (by omega)
    have e2 : below ((i + 1 : Nat) : Int) m = some (i + 1) := below_of (i := ((i + 1 : Nat) : Int)) (by omega) (by omega)
    have b4 : (belowS s ((i : Int) + 2)).2.toNat < m := by omega
    have hl1 : IntKind.i64.wrap (((i + 1 : Nat) : Int) - 1) = (i : Int) := by rw [wrap_i64 (by omega) (by omega)]; omega
    have ih := fun l' hl' => shufOwn_swaps fuel m hm k0 i k (belowS s ((i : Int) + 2)).1 l' hl' (by omega) b0 b1 (by omega)
    rw [hw, br_if, if_pos (by simp), grd_of (by simp; omega), hl1, swapsS]
    rw [e1]
    generalize belowS s ((i : Int) + 2) = b at *
    generalize b.2.toNat = j at *
    obtain ⟨x, hx⟩ : ∃ x, l[j]? = some x := ⟨_, List.getElem?_eq_getElem (by omega)⟩
    obtain ⟨y, hy⟩ : ∃ y, l[i + 1]? = some y := ⟨_, List.getElem?_eq_getElem (by omega)⟩
    obtain ⟨z, hz⟩ : ∃ z, (l.set (i + 1) x)[j]? = some z := ⟨_, List.getElem?_eq_getElem (by simp; omega)⟩
    have hsw : swpS l (i + 1) j = (l.set (i + 1) x).set j y := by unfold swpS; rw [hx, hy]; rfl
    rw [hsw]
    simp only [e2, bnd_some, Nat.zero_add, hx, hy, hz]
    exact ih _ (by simpa using hl)
theorem shufOwn_fact (s : Int) (n : Int) (hg : (decide (0 ≤ s) && decide (s < 18446744073709551616) && decide (1 ≤ n) && decide (n ≤ 512)) = true) : Fact Tryd.prog gTab 216 [.s (.int .u64 s), .s (.int .i64 n)] [] (.tup [.s (.int .u64 ((shuffleS s n).1)), .sl 0 1 0 (Int.toNat n), .s (.int .i64 0)], [some ⟨3, .li .i64 ((shuffleS s n).2), true⟩]) := by
  simp only [Bool.and_eq_true, decide_eq_true_eq] at hg
  obtain ⟨⟨⟨h0, h1⟩, hn⟩, hn2⟩ := hg
  obtain ⟨F, hF⟩ : ∃ F : Nat, F = 599 := ⟨_, rfl⟩
  refine callN_fact hN hM T_refBelow_ok (n := F + 1) (mode := mode1) ?_
  rw [shufOwnF_eq]
  obtain ⟨j, rfl⟩ : ∃ j : Nat, n = (j : Int) := ⟨n.toNat, by omega⟩
  have hs := fun (k0 : Int → List Int → Option Out) => shufOwn_swaps (R := Out) (F + 1) j (by omega) k0 (j - 1) (F + 1) s (iotaS j) (iota_len j) (by omega) h0 h1 (by omega)
  have hj1 : IntKind.i64.wrap ((j : Int) - 1) = ((j - 1 : Nat) : Int) := by rw [wrap_i64 (by omega) (by omega)]; omega
  have hsh : shuffleS s (j : Int) = swapsS (j - 1) s (iotaS j) := by rw [shuffleS_eq]; unfold shuffleI; simp
  have hz : sizedS (j : Int) = true := by unfold sizedS; simp; omega
  have ha := fun k0 => shufOwn_app (R := Out) (F + 1) s (j : Int) k0 hn hn2 F 1 (by omega) (by omega)
  unfold shufOwnF shufOwnF_s1
  rw [hz, br_if, if_neg (by decide)]
  unfold shufOwnF_l1 shufOwnF_s2
  dsimp only
  rw [br_if, if_pos (by simp; omega)]
  simp only [show [(0 : Int)] = iotaS 1 from rfl, show (1 : Int) = ((1 : Nat) : Int) from rfl, ha]
  unfold shufOwnF_s4
  simp only [hj1, Int.toNat_natCast, (hs _).1, hsh]
  rfl
noncomputable def shufOwn_ent : List V → List Blk → Option (Bool × Out)
  | [.s (.int .u64 s), .s (.int .i64 n)], [] => some ((decide (0 ≤ s) && decide (s < 18446744073709551616) && decide (1 ≤ n) && decide (n ≤ 512)), (.tup [.s (.int .u64 ((shuffleS s n).1)), .sl 0 1 0 (Int.toNat n), .s (.int .i64 0)], [some ⟨3, .li .i64 ((shuffleS s n).2), true⟩]))
  | _, _ => none
theorem shufOwn_ok : ∀ args bs out, shufOwn_ent args bs = some (true, out) → Fact Tryd.prog gTab 216 args bs out := by
  intro args bs out h
  unfold shufOwn_ent at h
  split at h
  · rename_i s n
    simp only [Option.some.injEq, Prod.mk.injEq] at h
    obtain ⟨hg, rfl⟩ := h
    exact shufOwn_fact s n hg
  · cases h
noncomputable def T_shufOwn : Tbl := Tbl.cons 216 shufOwn_ent T_refBelow
theorem T_shufOwn_ok : CallOk Tryd.prog gTab T_shufOwn := cons_ok T_refBelow_ok shufOwn_ok
/-! slices.Sort[[]int,int] -/
def laysSort_ren : Go.Shelf.Ren := ⟨fun | 189 => 156 | 125 => 181 | 257 => 180 | 128 => 205 | 129 => 206 | 294 => 197 | 295 => 198 | 296 => 199 | 297 => 200 | 298 => 201 | 299 => 202 | 216 => 120 | 300 => 203 | 301 => 204 | 328 => 219 | 329 => 220 | 330 => 221 | 331 => 222 | 332 => 223 | 215 => 158 | 343 => 232 | n => n, fun | 28 => 26 | 3 => 3 | 46 => 191 | 0 => 0 | 51 => 226 | 53 => 79 | 4 => 4 | 183 => 252 | 182 => 251 | 131 => 148 | 5 => 5 | 9 => 9 | 218 => 265 | 222 => 269 | 228 => 280 | 229 => 281 | n => n, fun | n => n⟩
theorem laysSort : Go.Proofs.Lays.n189 Tryd.prog laysSort_ren where
  mixed := by kernel_rfl
  f125 := Tryd.func181.trans (congrArg some (by kernel_rfl))
  f128 := Tryd.func205.trans (congrArg some (by kernel_rfl))
  f129 := Tryd.func206.trans (congrArg some (by kernel_rfl))
  f189 := Tryd.func156.trans (congrArg some (by kernel_rfl))
  f215 := Tryd.func158.trans (congrArg some (by kernel_rfl))
  f216 := Tryd.func120.trans (congrArg some (by kernel_rfl))
  f257 := Tryd.func180.trans (congrArg some (by kernel_rfl))
  f294 := Tryd.func197.trans (congrArg some (by kernel_rfl))
  f295 := Tryd.func198.trans (congrArg some (by kernel_rfl))
  f296 := Tryd.func199.trans (congrArg some (by kernel_rfl))
  f297 := Tryd.func200.trans (congrArg some (by kernel_rfl))
  f298 := Tryd.func201.trans (congrArg some (by kernel_rfl))
  f299 := Tryd.func202.trans (congrArg some (by kernel_rfl))
  f300 := Tryd.func203.trans (congrArg some (by kernel_rfl))
  f301 := Tryd.func204.trans (congrArg some (by kernel_rfl))
  f328 := Tryd.func219.trans (congrArg some (by kernel_rfl))
  f329 := Tryd.func220.trans (congrArg some (by kernel_rfl))
  f330 := Tryd.func221.trans (congrArg some (by kernel_rfl))
  f331 := Tryd.func222.trans (congrArg some (by kernel_rfl))
  f332 := Tryd.func223.trans (congrArg some (by kernel_rfl))
  f343 := Tryd.func232.trans (congrArg some (by kernel_rfl))
  t0 := Tryd.underlying0
  a0 := Tryd.isAgg0
  z0 := Tryd.sizeOf0
  v0 := Tryd.zeroValue0
  t3 := Tryd.underlying3
  a3 := Tryd.isAgg3
  z3 := Tryd.sizeOf3
  v3 := Tryd.zeroValue3
  t4 := Tryd.underlying4
  a4 := Tryd.isAgg4
  z4 := Tryd.sizeOf4
  v4 := Tryd.zeroValue4
  t5 := Tryd.underlying5
  a5 := Tryd.isAgg5
  z5 := Tryd.sizeOf5
  v5 := Tryd.zeroValue5
  t9 := Tryd.underlying9
  a9 := Tryd.isAgg9
  z9 := Tryd.sizeOf9
  v9 := Tryd.zeroValue9
  t28 := Tryd.underlying26
  a28 := Tryd.isAgg26
  z28 := Tryd.sizeOf26
  v28 := Tryd.zeroValue26
  t46 := Tryd.underlying191
  a46 := Tryd.isAgg191
  z46 := Tryd.sizeOf191
  v46 := Tryd.zeroValue191
  t51 := Tryd.underlying226
  a51 := Tryd.isAgg226
  z51 := Tryd.sizeOf226
  v51 := Tryd.zeroValue226
  t53 := Tryd.underlying79
  a53 := Tryd.isAgg79
  z53 := Tryd.sizeOf79
  v53 := Tryd.zeroValue79
  t131 := Tryd.underlying148
  a131 := Tryd.isAgg148
  z131 := Tryd.sizeOf148
  v131 := Tryd.zeroValue148
  t182 := Tryd.underlying251
  a182 := Tryd.isAgg251
  z182 := Tryd.sizeOf251
  v182 := Tryd.zeroValue251
  t183 := Tryd.underlying252
  a183 := Tryd.isAgg252
  z183 := Tryd.sizeOf252
  v183 := Tryd.zeroValue252
  t218 := Tryd.underlying265
  a218 := Tryd.isAgg265
  z218 := Tryd.sizeOf265
  v218 := Tryd.zeroValue265
  t222 := Tryd.underlying269
  a222 := Tryd.isAgg269
  z222 := Tryd.sizeOf269
  v222 := Tryd.zeroValue269
  t228 := Tryd.underlying280
  a228 := Tryd.isAgg280
  z228 := Tryd.sizeOf280
  v228 := Tryd.zeroValue280
  t229 := Tryd.underlying281
  a229 := Tryd.isAgg281
  z229 := Tryd.sizeOf281
  v229 := Tryd.zeroValue281
theorem sort_fact (m : Nat) (xs : List Int) (hg : (Nat.ble m xs.length && Nat.ble xs.length 1000000) = true) : Fact Tryd.prog gTab 156 [.sl 0 1 0 m] [⟨3, .li .i64 xs, true⟩] (.tup [], [some ⟨3, .li .i64 (sortPre m xs), true⟩]) := by
  rw [Bool.and_eq_true] at hg
  have hm := Nat.le_of_ble_eq_true hg.1
  have hx := Nat.le_of_ble_eq_true hg.2
  refine fact_put (Go.PM.enters_of (by kernel_rfl)) rfl rfl fun w ρ I ys k hb hk hsz hr => ?_
  simp only [RVs, RV] at hr
  obtain ⟨y, r, rfl, ⟨k', cap, ty, n, p, rfl, hp, hk', hz, hlen, hL, hsh, hn⟩, rfl⟩ := hr
  rw [hk] at hk'
  cases hk'
  have hp0 : p = 0 ∨ m = 0 := by rcases hp with h | h <;> omega
  obtain ⟨cs, fz, zs, h1, h2, h3, h4, h5, h6⟩ := id hb
  have hF : zs = xs.map (.int .i64) := h2
  subst hF
  have hl : (xs.take m).length = m := by simp; omega
  have hH : Go.Sort.Holds (Value.int .i64) w k.r p (xs.take m).toArray := by
    intro j hj
    have hj' : j < m := by simpa [hl] using hj
    have hp' : p = 0 := by rcases hp0 with h | h <;> omega
    subst hp'
    have hc := h3 j (.int .i64 (xs[j]'(by omega))) (by simp)
    have hcs : j < cs.size := by
      rw [Nat.zero_add] at hc
      have e : w.cell? ⟨k.r, j, none⟩ = cs[j]? := by simp [World.cell?, h1]
      rw [e] at hc
      exact (Array.getElem?_eq_some_iff.1 hc).1
    refine ⟨?_, (h4 j hcs).2⟩
    rw [hc, getElem!_pos _ j hj]
    simp
  have hs := Any.slices_Sort_int laysSort k.r p cap (xs.take m) w hH hsz (by omega)
  have hlen2 : ((xs.take m).mergeSort fun x y => decide (x ≤ y)).length = m := by rw [List.length_mergeSort, hl]
  rw [hl] at hs
  refine hs.mono fun e w' ⟨he, q, os, hw'⟩ => ⟨he, ?_⟩
  rw [Go.Lib.sorted_world _ _ _ _ _ _ _ _ hH (by simp [hlen2, hl])] at hw'
  have hw2 : w' = Go.Sort.grow ((w.drewN q).setCells k.r 0 (((xs.take m).mergeSort fun x y => decide (x ≤ y)).map (.int .i64))) os := by
    rw [hw']
    rcases hp0 with h | h
    · rw [h]
    · have : ((xs.take m).mergeSort fun x y => decide (x ≤ y)) = [] := List.eq_nil_of_length_eq_zero (by rw [hlen2, h])
      rw [this]; rfl
  have := put_ints (q := q) (os := os) hb (ys := (xs.take m).mergeSort fun x y => decide (x ≤ y)) (by rw [hlen2]; exact hm)
  rw [hw2, sortPre_eq]
  unfold riseI
  rw [hlen2] at this
  exact this
noncomputable def sort_ent : List V → List Blk → Option (Bool × Out)
  | [.sl 0 1 0 m], [⟨3, .li .i64 xs, true⟩] => some ((Nat.ble m xs.length && Nat.ble xs.length 1000000), (.tup [], [some ⟨3, .li .i64 (sortPre m xs), true⟩]))
  | _, _ => none
theorem sort_ok : ∀ args bs out, sort_ent args bs = some (true, out) → Fact Tryd.prog gTab 156 args bs out := by
  intro args bs out h
  unfold sort_ent at h
  split at h
  · rename_i m xs
    simp only [Option.some.injEq, Prod.mk.injEq] at h
    obtain ⟨hg, rfl⟩ := h
    exact sort_fact m xs hg
  · cases h
noncomputable def T_sort : Tbl := Tbl.cons 156 sort_ent T_shufOwn
theorem T_sort_ok : CallOk Tryd.prog gTab T_sort := cons_ok T_shufOwn_ok sort_ok
/-! downpour/random.Some -/
noncomputable def someF_s1 {R : Type} (n many s : Int) (c0 : Int → Int → Option R) (c1 : Int → List Int → Int → Option R) : Option R :=
  br (!(sizedS n))
    (c0 0 2)
    (br (decide (many < 0))
      (c0 0 2)
      (br (decide (many > n))
        (c0 0 2)
        (grd (decide (0 ≤ s) && decide (s < 18446744073709551616) && decide (1 ≤ n) && decide (n ≤ 512)) <|
        bnd (upTo many (Int.toNat n)) fun j7 =>
        grd (Nat.ble (j7 - 0) ((shuffleS s n).2).length && Nat.ble ((shuffleS s n).2).length 1000000) <|
        bnd (upTo many (Int.toNat n)) fun j8 =>
        c1 ((shuffleS s n).1) (((sortPre (j7 - 0) ((shuffleS s n).2)).drop 0).take (j8 - 0)) 0)))
theorem someF_s1_eq (fuel : Nat)  (n many s : Int) : callN Tryd.prog mode1 T_sort fuel 191 [vU s, vI n, vI many] [] = someF_s1 n many s (fun a1 a2 => some (.tup [vU a1, vN, vI a2], [])) (fun a9 a0 a3 => some (.tup [vU a9, vL a0, vI a3], [])) := by kernel_rfl
noncomputable def someF {R : Type} (fuel : Nat) (s n many : Int) (r0 : Int → Int → Option R) (r1 : Int → List Int → Int → Option R) : Option R :=
  (someF_s1 n many s (fun a1 a2 => r0 a1 a2) (fun a9 a0 a3 => r1 a9 a0 a3))
theorem someF_eq (fuel : Nat) (s n many : Int) : callN Tryd.prog mode1 T_sort fuel 191 [.s (.int .u64 s), .s (.int .i64 n), .s (.int .i64 many)] [] = someF fuel s n many (fun z0 z1 => some (.tup [.s (.int .u64 z0), .s (.slice none 0 0), .s (.int .i64 z1)], [])) (fun z0 z1 z2 => some (.tup [.s (.int .u64 z0), .li .i64 z1, .s (.int .i64 z2)], [])) := by
  unfold someF
  exact (someF_s1_eq fuel  n many s)
theorem some_fact (s : Int) (n : Int) (many : Int) (hg : (decide (0 ≤ s) && decide (s < 18446744073709551616)) = true) : Fact Tryd.prog gTab 191 [.s (.int .u64 s), .s (.int .i64 n), .s (.int .i64 many)] [] (.tup [.s (.int .u64 (if someOk n many = true then (shuffleS s n).1 else 0)), .li .i64 (if someOk n many = true then someS s n many else []), .s (.int .i64 (if someOk n many = true then 0 else 2))], []) := by
  cases hz : someOk n many with
  | false =>
    refine Fact.out (v := .tup [.s (.int .u64 0), .s (.slice none 0 0), .s (.int .i64 2)]) (bs' := []) ?_ (fun _ _ _ x h => RV_tup_two (fun _ h => RVs_two (fun _ h => h) (fun _ h => RVs_two (fun _ h => RV_nil_li h) (fun _ h => h) h) h) h)
    refine callN_fact hN hM T_sort_ok (n := 0) (mode := mode1) ?_
    rw [someF_eq]
    unfold someF someF_s1
    unfold someOk at hz
    simp only [br_if]
    cases h : sizedS n with
    | false => rfl
    | true =>
      rw [h] at hz
      simp only [Bool.true_and, Bool.and_eq_false_iff, decide_eq_false_iff_not] at hz
      by_cases h1 : many < 0
      · simp [h1]
      · have h2 : many > n := by omega
        simp [h1, h2]
  | true =>
    refine callN_fact hN hM T_sort_ok (n := 0) (mode := mode1) ?_
    rw [someF_eq]
    unfold someF someF_s1
    have hz' := hz
    unfold someOk at hz'
    simp only [Bool.and_eq_true, decide_eq_true_eq] at hz'
    obtain ⟨⟨h1, h2⟩, h3⟩ := hz'
    have h1' := h1
    unfold sizedS at h1'
    simp only [Bool.and_eq_true, decide_eq_true_eq] at h1' hg
    have hl := shuffle_len s n
    rw [h1, br_if, br_if, br_if, if_neg (by decide), if_neg (by simpa using h2), if_neg (by simpa using h3), grd_of (by simp; omega), bnd_of (upTo_of h2 (by omega))]
    rw [grd_of (by rw [Bool.and_eq_true]; exact ⟨Nat.ble_eq_true_of_le (by omega), Nat.ble_eq_true_of_le (by omega)⟩)]
    dsimp only
    have e : ((sortPre (many.toNat - 0) (shuffleS s n).2).drop 0).take (many.toNat - 0) = someS s n many := by
      rw [List.drop_zero, Nat.sub_zero, sortPre_eq, someS_eq]
      unfold riseI someI
      rw [List.take_append_of_le_length (by rw [List.length_mergeSort, List.length_take]; omega), List.take_of_length_le (by rw [List.length_mergeSort, List.length_take]; omega)]
    rw [bnd_of (upTo_of h2 (by omega)), e]
    simp
noncomputable def some_ent : List V → List Blk → Option (Bool × Out)
  | [.s (.int .u64 s), .s (.int .i64 n), .s (.int .i64 many)], [] => some ((decide (0 ≤ s) && decide (s < 18446744073709551616)), (.tup [.s (.int .u64 (if someOk n many = true then (shuffleS s n).1 else 0)), .li .i64 (if someOk n many = true then someS s n many else []), .s (.int .i64 (if someOk n many = true then 0 else 2))], []))
  | _, _ => none
theorem some_ok : ∀ args bs out, some_ent args bs = some (true, out) → Fact Tryd.prog gTab 191 args bs out := by
  intro args bs out h
  unfold some_ent at h
  split at h
  · rename_i s n many
    simp only [Option.some.injEq, Prod.mk.injEq] at h
    obtain ⟨hg, rfl⟩ := h
    exact some_fact s n many hg
  · cases h
noncomputable def T_some : Tbl := Tbl.cons 191 some_ent T_sort
theorem T_some_ok : CallOk Tryd.prog gTab T_some := cons_ok T_sort_ok some_ok
def mode2 : FuncId → Nat := fun f => 0
/-! downpour/random.Shuffle -/
noncomputable abbrev qa25 (fuel : Nat) : Ctx Out := (fnX Tryd.prog mode2 T_some fuel 52 0)
noncomputable abbrev qa26 : Code := (bodyOf Tryd.prog 216)
noncomputable abbrev qa27 : Code := (sub qa26 [1, 1, 1, 1, 0, 1, 0, 0])
noncomputable abbrev qa28 : Code := (sub qa26 [1, 1, 1, 0, 1, 0, 0])
noncomputable abbrev qa29 : List Nat := [0, 1, 4, 5, 6, 7, 14, 15]
noncomputable def shufF_s3 {R : Type} (w0 n : Int) (w1 : List Int) (w2 : Nat) (s : Int) (c0 : Nat → Int → List Int → Option R) (c1 : Nat → List Int → Option R) : Option R :=
  br (decide (w0 < n))
    (grd (Nat.beq w1.length w2) <|
    grd (okN (w2 + 1) 8) <|
    c0 ((w1 ++ [w0]).length) (IntKind.i64.wrap (w0 + 1)) (w1 ++ [w0]))
    (c1 w2 w1)
theorem shufF_s3_eq (fuel k : Nat) (K : Ex → St → Option Out) (w0 n : Int) (w1 : List Int) (w2 : Nat) (s : Int) : lpN qa28 (qa25 fuel) 4503599618983667 qa29 (k + 1) ⟨[(0, vU s), (1, vI n), (4, vU 0), (5, vN), (6, vI 0), (7, .sl 0 1 0 w2), (14, vI n), (15, vI w0)], [(0, bL 3 w1)], 1, none⟩ K = shufF_s3 w0 n w1 w2 s (fun a0 a1 a2 => lpN qa28 (qa25 fuel) 4503599618983667 qa29 k ⟨[(0, vU s), (1, vI n), (4, vU 0), (5, vN), (6, vI 0), (7, .sl 0 1 0 a0), (14, vI n), (15, vI a1)], [(0, bL 3 a2)], 1, none⟩ K) (fun a3 a4 => K (.exit 0) ⟨[(0, vU s), (1, vI n), (4, vU 0), (5, vN), (6, vI 0), (7, .sl 0 1 0 a3)], [(0, bL 3 a4)], 1, none⟩) := by kernel_rfl
noncomputable def shufF_l2 {R : Type} (fuel : Nat) (s n : Int) (k0 : Nat → List Int → Option R) : Nat → Nat → Int → List Int → Option R
  | 0, _, _, _ => none
  | k + 1, w0, w1, w2 =>
    (shufF_s3 w1 n w2 w0 s (fun a0 a1 a2 => ( shufF_l2 fuel s n k0 k a0 a1 a2 )) (fun a3 a4 => k0 a3 a4))
theorem shufF_l2_eq (fuel : Nat) (s n : Int) (K : Ex → St → Option Out) : ∀ (k w0 : Nat) (w1 : Int) (w2 : List Int), lpN qa28 (qa25 fuel) 4503599618983667 qa29 k ⟨[(0, vU s), (1, vI n), (4, vU 0), (5, vN), (6, vI 0), (7, .sl 0 1 0 w0), (14, vI n), (15, vI w1)], [(0, bL 3 w2)], 1, none⟩ K = shufF_l2 fuel s n (fun y0 y1 => K (.exit 0) ⟨[(0, vU s), (1, vI n), (4, vU 0), (5, vN), (6, vI 0), (7, .sl 0 1 0 y0)], [(0, bL 3 y1)], 1, none⟩) k w0 w1 w2
  | 0, _, _, _ => rfl
  | k + 1, w0, w1, w2 => by
    unfold shufF_l2
    exact (shufF_s3_eq fuel k K w1 n w2 w0 s).trans (congr (congr (Eq.refl (shufF_s3 (R := Out) w1 n w2 w0 s)) (funext fun a0 => funext fun a1 => funext fun a2 => shufF_l2_eq fuel s n K k a0 a1 a2)) (rfl))
noncomputable def shufF_s2 {R : Type} (n s : Int) (c0 : Nat → Int → List Int → Option R) (c1 : Option R) : Option R :=
  br (decide (0 < n))
    (c0 1 1 ([0]))
    (c1)
theorem shufF_s2_eq (fuel k : Nat) (K : Ex → St → Option Out) (n s : Int) : lpN qa28 (qa25 fuel) 4503599618983667 qa29 (k + 1) ⟨[(0, vU s), (1, vI n), (4, vU 0), (5, vN), (6, vI 0), (7, vN), (14, vI n), (15, vI 0)], [], 0, none⟩ K = shufF_s2 n s (fun a0 a1 a2 => lpN qa28 (qa25 fuel) 4503599618983667 qa29 k ⟨[(0, vU s), (1, vI n), (4, vU 0), (5, vN), (6, vI 0), (7, .sl 0 1 0 a0), (14, vI n), (15, vI a1)], [(0, bL 3 a2)], 1, none⟩ K) (K (.exit 0) ⟨[(0, vU s), (1, vI n), (4, vU 0), (5, vN), (6, vI 0), (7, vN)], [], 0, none⟩) := by kernel_rfl
noncomputable def shufF_l1 {R : Type} (fuel : Nat) (s n : Int) (k0 : Nat → List Int → Option R) (k1 : Option R) : Nat → Option R
  | 0 => none
  | k + 1 =>
    (shufF_s2 n s (fun a0 a1 a2 => (shufF_l2 fuel s n (fun x0 x1 => k0 x0 x1) k a0 a1 a2)) (k1))
theorem shufF_l1_eq (fuel : Nat) (s n : Int) (K : Ex → St → Option Out) : ∀ (k : Nat) , lpN qa28 (qa25 fuel) 4503599618983667 qa29 k ⟨[(0, vU s), (1, vI n), (4, vU 0), (5, vN), (6, vI 0), (7, vN), (14, vI n), (15, vI 0)], [], 0, none⟩ K = shufF_l1 fuel s n (fun y8 y9 => K (.exit 0) ⟨[(0, vU s), (1, vI n), (4, vU 0), (5, vN), (6, vI 0), (7, .sl 0 1 0 y8)], [(0, bL 3 y9)], 1, none⟩) (K (.exit 0) ⟨[(0, vU s), (1, vI n), (4, vU 0), (5, vN), (6, vI 0), (7, vN)], [], 0, none⟩) k 
  | 0 => rfl
  | k + 1 => by
    unfold shufF_l1
    exact (shufF_s2_eq fuel k K n s).trans (congr (congr (Eq.refl (shufF_s2 (R := Out) n s)) (funext fun a0 => funext fun a1 => funext fun a2 => shufF_l2_eq fuel s n K k a0 a1 a2)) (rfl))
noncomputable def shufF_s5 {R : Type} (w0 w1 : Int) (x0 : Nat) (w2 : List Int) (c0 : Int → Int → List Int → Option R) (c1 : Int → List Int → Option R) : Option R :=
  br (decide (w0 > 0))
    (grd (decide (0 ≤ w1) && decide (w1 < 18446744073709551616) && decide (1 ≤ (IntKind.i64.wrap (w0 + 1))) && decide ((IntKind.i64.wrap (w0 + 1)) ≤ 512)) <|
    bnd (below ((belowS w1 (IntKind.i64.wrap (w0 + 1))).2) x0) fun j0 =>
    bnd (w2[(0 + j0)]?) fun e0 =>
    bnd (below w0 x0) fun j1 =>
    bnd (w2[(0 + j1)]?) fun e1 =>
    bnd (below w0 x0) fun j2 =>
    bnd (w2[(0 + j2)]?) fun e2 =>
    bnd (below ((belowS w1 (IntKind.i64.wrap (w0 + 1))).2) x0) fun j3 =>
    bnd ((w2.set (0 + j2) e0)[(0 + j3)]?) fun e3 =>
    c0 ((belowS w1 (IntKind.i64.wrap (w0 + 1))).1) (IntKind.i64.wrap (w0 - 1)) ((w2.set (0 + j2) e0).set (0 + j3) e1))
    (c1 w1 w2)
theorem shufF_s5_eq (fuel k : Nat) (K : Ex → St → Option Out) (w0 w1 : Int) (x0 : Nat) (w2 : List Int) : lpN qa27 (qa25 fuel) 3377699720528113 [0, 4, 5, 6, 7, 9] (k + 1) ⟨[(0, vU w1), (4, vU 0), (5, vN), (6, vI 0), (7, .sl 0 1 0 x0), (9, vI w0)], [(0, bL 3 w2)], 1, none⟩ K = shufF_s5 w0 w1 x0 w2 (fun a0 a1 a2 => lpN qa27 (qa25 fuel) 3377699720528113 [0, 4, 5, 6, 7, 9] k ⟨[(0, vU a0), (4, vU 0), (5, vN), (6, vI 0), (7, .sl 0 1 0 x0), (9, vI a1)], [(0, bL 3 a2)], 1, none⟩ K) (fun a3 a4 => K (.exit 2) ⟨[(0, vU a3), (4, vU 0), (5, vN), (6, vI 0), (7, .sl 0 1 0 x0)], [(0, bL 3 a4)], 1, none⟩) := by kernel_rfl
noncomputable def shufF_l3 {R : Type} (fuel x0 : Nat) (k0 : Int → List Int → Option R) : Nat → Int → Int → List Int → Option R
  | 0, _, _, _ => none
  | k + 1, w0, w1, w2 =>
    (shufF_s5 w1 w0 x0 w2 (fun a0 a1 a2 => ( shufF_l3 fuel x0 k0 k a0 a1 a2 )) (fun a3 a4 => k0 a3 a4))
theorem shufF_l3_eq (fuel x0 : Nat) (K : Ex → St → Option Out) : ∀ (k : Nat) (w0 w1 : Int) (w2 : List Int), lpN qa27 (qa25 fuel) 3377699720528113 [0, 4, 5, 6, 7, 9] k ⟨[(0, vU w0), (4, vU 0), (5, vN), (6, vI 0), (7, .sl 0 1 0 x0), (9, vI w1)], [(0, bL 3 w2)], 1, none⟩ K = shufF_l3 fuel x0 (fun y0 y1 => K (.exit 2) ⟨[(0, vU y0), (4, vU 0), (5, vN), (6, vI 0), (7, .sl 0 1 0 x0)], [(0, bL 3 y1)], 1, none⟩) k w0 w1 w2
  | 0, _, _, _ => rfl
  | k + 1, w0, w1, w2 => by
    unfold shufF_l3
    exact (shufF_s5_eq fuel k K w1 w0 x0 w2).trans (congr (congr (Eq.refl (shufF_s5 (R := Out) w1 w0 x0 w2)) (funext fun a0 => funext fun a1 => funext fun a2 => shufF_l3_eq fuel x0 K k a0 a1 a2)) (rfl))
noncomputable def shufF_s6 {R : Type} (x0 : Int) (x1 : List Int) (x2 : Nat) (c0 : Int → List Int → Int → Option R) : Option R :=
  c0 x0 ((x1.drop 0).take x2) 0
theorem shufF_s6_eq (fuel : Nat)  (x0 : Int) (x1 : List Int) (x2 : Nat) : (kont (qa25 fuel) qa26 [1, 1, 1, 1, 0, 1, 0] 112 (endK Tryd.prog 0 0 216)) (.exit 2) ⟨[(0, vU x0), (4, vU 0), (5, vN), (6, vI 0), (7, .sl 0 1 0 x2)], [(0, bL 3 x1)], 1, none⟩ = shufF_s6 x0 x1 x2 (fun a0 a1 a2 => some (.tup [vU a0, vL a1, vI a2], [])) := by kernel_rfl
noncomputable def shufF_s4 {R : Type} (s n : Int) (x0 : List Int) (x1 : Nat) (c0 : Int → Int → List Int → Option R) : Option R :=
  c0 s (IntKind.i64.wrap (n - 1)) x0
theorem shufF_s4_eq (fuel : Nat)  (s n : Int) (x0 : List Int) (x1 : Nat) : (kont (qa25 fuel) qa26 [1, 1, 1, 0, 1, 0] 112 (endK Tryd.prog 0 0 216)) (.exit 0) ⟨[(0, vU s), (1, vI n), (4, vU 0), (5, vN), (6, vI 0), (7, .sl 0 1 0 x1)], [(0, bL 3 x0)], 1, none⟩ = shufF_s4 s n x0 x1 (fun a0 a1 a2 => lpN qa27 (qa25 fuel) 3377699720528113 [0, 4, 5, 6, 7, 9] fuel ⟨[(0, vU a0), (4, vU 0), (5, vN), (6, vI 0), (7, .sl 0 1 0 x1), (9, vI a1)], [(0, bL 3 a2)], 1, none⟩ (kont (qa25 fuel) qa26 [1, 1, 1, 1, 0, 1, 0] 112 (endK Tryd.prog 0 0 216))) := by kernel_rfl
noncomputable def shufF_s8 {R : Type} (w0 s : Int) (c0 : Option R) : Option R :=
  br (decide (w0 > 0))
    (grd (decide (0 ≤ s) && decide (s < 18446744073709551616) && decide (1 ≤ (IntKind.i64.wrap (w0 + 1))) && decide ((IntKind.i64.wrap (w0 + 1)) ≤ 512)) <|
    none)
    (c0)
theorem shufF_s8_eq (fuel k : Nat) (K : Ex → St → Option Out) (w0 s : Int) : lpN qa27 (qa25 fuel) 3377699720528113 [0, 4, 5, 6, 7, 9] (k + 1) ⟨[(0, vU s), (4, vU 0), (5, vN), (6, vI 0), (7, vN), (9, vI w0)], [], 0, none⟩ K = shufF_s8 w0 s (K (.exit 2) ⟨[(0, vU s), (4, vU 0), (5, vN), (6, vI 0), (7, vN)], [], 0, none⟩) := by kernel_rfl
noncomputable def shufF_l4 {R : Type} (fuel : Nat) (s : Int) (k0 : Option R) : Nat → Int → Option R
  | 0, _ => none
  | k + 1, w0 =>
    (shufF_s8 w0 s (k0))
theorem shufF_l4_eq (fuel : Nat) (s : Int) (K : Ex → St → Option Out) : ∀ (k : Nat) (w0 : Int), lpN qa27 (qa25 fuel) 3377699720528113 [0, 4, 5, 6, 7, 9] k ⟨[(0, vU s), (4, vU 0), (5, vN), (6, vI 0), (7, vN), (9, vI w0)], [], 0, none⟩ K = shufF_l4 fuel s (K (.exit 2) ⟨[(0, vU s), (4, vU 0), (5, vN), (6, vI 0), (7, vN)], [], 0, none⟩) k w0
  | 0, _ => rfl
  | k + 1, w0 => by
    unfold shufF_l4
    exact (shufF_s8_eq fuel k K w0 s)
noncomputable def shufF_s9 {R : Type} (s : Int) (c0 : Int → Int → Option R) : Option R :=
  c0 s 0
theorem shufF_s9_eq (fuel : Nat)  (s : Int) : (kont (qa25 fuel) qa26 [1, 1, 1, 1, 0, 1, 0] 112 (endK Tryd.prog 0 0 216)) (.exit 2) ⟨[(0, vU s), (4, vU 0), (5, vN), (6, vI 0), (7, vN)], [], 0, none⟩ = shufF_s9 s (fun a0 a1 => some (.tup [vU a0, vN, vI a1], [])) := by kernel_rfl
noncomputable def shufF_s7 {R : Type} (n s : Int) (c0 : Int → Option R) : Option R :=
  c0 (IntKind.i64.wrap (n - 1))
theorem shufF_s7_eq (fuel : Nat)  (n s : Int) : (kont (qa25 fuel) qa26 [1, 1, 1, 0, 1, 0] 112 (endK Tryd.prog 0 0 216)) (.exit 0) ⟨[(0, vU s), (1, vI n), (4, vU 0), (5, vN), (6, vI 0), (7, vN)], [], 0, none⟩ = shufF_s7 n s (fun a0 => lpN qa27 (qa25 fuel) 3377699720528113 [0, 4, 5, 6, 7, 9] fuel ⟨[(0, vU s), (4, vU 0), (5, vN), (6, vI 0), (7, vN), (9, vI a0)], [], 0, none⟩ (kont (qa25 fuel) qa26 [1, 1, 1, 1, 0, 1, 0] 112 (endK Tryd.prog 0 0 216))) := by kernel_rfl
noncomputable def shufF_s1 {R : Type} (n s : Int) (c0 : Int → Int → Option R) (c1 : Option R) : Option R :=
  br (!(sizedS n))
    (c0 0 2)
    (c1)
theorem shufF_s1_eq (fuel : Nat)  (n s : Int) : callN Tryd.prog mode2 T_some fuel 216 [vU s, vI n] [] = shufF_s1 n s (fun a1 a2 => some (.tup [vU a1, vN, vI a2], [])) (lpN qa28 (qa25 fuel) 4503599618983667 qa29 fuel ⟨[(0, vU s), (1, vI n), (4, vU 0), (5, vN), (6, vI 0), (7, vN), (14, vI n), (15, vI 0)], [], 0, none⟩ (kont (qa25 fuel) qa26 [1, 1, 1, 0, 1, 0] 112 (endK Tryd.prog 0 0 216))) := by kernel_rfl
noncomputable def shufF {R : Type} (fuel : Nat) (s n : Int) (r0 : Int → Int → Option R) (r1 : Int → List Int → Int → Option R) : Option R :=
  (shufF_s1 n s (fun a1 a2 => r0 a1 a2) ((shufF_l1 fuel s n (fun x0 x1 => (shufF_s4 s n x1 x0 (fun a0 a3 a4 => (shufF_l3 fuel x0 (fun x2 x3 => (shufF_s6 x2 x3 x0 (fun a5 a6 a7 => r1 a5 a6 a7))) fuel a0 a3 a4)))) ((shufF_s7 n s (fun a8 => (shufF_l4 fuel s ((shufF_s9 s (fun a9 a73 => r0 a9 a73))) fuel a8)))) fuel)))
theorem shufF_eq (fuel : Nat) (s n : Int) : callN Tryd.prog mode2 T_some fuel 216 [.s (.int .u64 s), .s (.int .i64 n)] [] = shufF fuel s n (fun z0 z1 => some (.tup [.s (.int .u64 z0), .s (.slice none 0 0), .s (.int .i64 z1)], [])) (fun z0 z1 z2 => some (.tup [.s (.int .u64 z0), .li .i64 z1, .s (.int .i64 z2)], [])) := by
  unfold shufF
  exact (shufF_s1_eq fuel  n s).trans (congr (congr (Eq.refl (shufF_s1 (R := Out) n s)) (rfl)) ((shufF_l1_eq fuel s n (kont (qa25 fuel) qa26 [1, 1, 1, 0, 1, 0] 112 (endK Tryd.prog 0 0 216)) fuel ).trans (congrFun (congr (congr (Eq.refl (shufF_l1 (R := Out) fuel s n)) (funext fun x0 => funext fun x1 => (shufF_s4_eq fuel  s n x1 x0).trans (congr (Eq.refl (shufF_s4 (R := Out) s n x1 x0)) (funext fun a0 => funext fun a1 => funext fun a2 => (shufF_l3_eq fuel x0 (kont (qa25 fuel) qa26 [1, 1, 1, 1, 0, 1, 0] 112 (endK Tryd.prog 0 0 216)) fuel a0 a1 a2).trans (congrFun (congrFun (congrFun (congrFun (congr (Eq.refl (shufF_l3 (R := Out) fuel x0)) (funext fun x2 => funext fun x3 => (shufF_s6_eq fuel  x2 x3 x0))) fuel) a0) a1) a2))))) ((shufF_s7_eq fuel  n s).trans (congr (Eq.refl (shufF_s7 (R := Out) n s)) (funext fun a3 => (shufF_l4_eq fuel s (kont (qa25 fuel) qa26 [1, 1, 1, 1, 0, 1, 0] 112 (endK Tryd.prog 0 0 216)) fuel a3).trans (congrFun (congrFun (congr (Eq.refl (shufF_l4 (R := Out) fuel s)) ((shufF_s9_eq fuel  s))) fuel) a3))))) fuel)))
theorem shuf_app {R : Type} (fuel : Nat) (s n : Int) (k0 : Nat → List Int → Option R) (h1 : 1 ≤ n) (h2 : n ≤ 512) : ∀ (k j : Nat), (j : Int) ≤ n → n < (j : Int) + k → shufF_l2 fuel s n k0 k j (j : Int) (iotaS j) = k0 n.toNat (iotaS n.toNat)
  | 0, j, hj, hk => by omega
  | k + 1, j, hj, hk => by
    unfold shufF_l2 shufF_s3
    rw [br_if]
    by_cases hc : (j : Int) < n
    · rw [if_pos (by simpa using hc), iota_len, grd_of (beq_self _), grd_of (okN_of (by omega) (by omega)), iota_succ, iota_len, wrap_i64 (by omega) (by omega), show (j : Int) + 1 = ((j + 1 : Nat) : Int) by omega]
      exact shuf_app fuel s n k0 h1 h2 k (j + 1) (by omega) (by omega)
    · rw [if_neg (by simpa using hc), show n.toNat = j by omega]
theorem shuf_swaps {R : Type} (fuel m : Nat) (hm : m ≤ 512) (k0 : Int → List Int → Option R) : ∀ (i k : Nat) (s : Int) (l : List Int), l.length = m → i < m → 0 ≤ s → s < 18446744073709551616 → i < k → shufF_l3 fuel m k0 k s (i : Int) l = k0 (swapsS i s l).1 (swapsS i s l).2 ∧ (swapsS i s l).2.length = m
  | _, 0, s, l, hl, hi, h0, h1, hk => by omega
  | 0, k + 1, s, l, hl, hi, h0, h1, hk => by
    unfold shufF_l3 shufF_s5
    rw [br_if, if_neg (by decide)]
    exact ⟨rfl, hl⟩
  | i + 1, k + 1, s, l, hl, hi, h0, h1, hk => by
    unfold shufF_l3 shufF_s5
    have hw : IntKind.i64.wrap (((i + 1 : Nat) : Int) + 1) = (i : Int) + 2 := by rw [wrap_i64 (by omega) (by omega)]; omega
    have hb := below_range (n := (i : Int) + 2) h0 h1 (by omega) (by omega)
    obtain ⟨⟨b0, b1⟩, b2, b3⟩ := hb
    have e1 : below (belowS s ((i : Int) + 2)).2 m = some (belowS s ((i : Int) + 2)).2.toNat := below_of b2 (by omega)
    have e2 : below ((i + 1 : Nat) : Int) m = some (i + 1) := below_of (i := ((i + 1 : Nat) : Int)) (by omega) (by omega)
    have b4 : (belowS s ((i : Int) + 2)).2.toNat < m := by omega
    have hl1 : IntKind.i64.wrap (((i + 1 : Nat) : Int) - 1) = (i : Int) := by rw [wrap_i64 (by omega) (by omega)]; omega
    have ih := fun l' hl' => shuf_swaps fuel m hm k0 i k (belowS s ((i : Int) + 2)).1 l' hl' (by omega) b0 b1 (by omega)
    rw [hw, br_if, if_pos (by simp), grd_of (by simp; omega), hl1, swapsS]
    rw [e1]
    generalize belowS s ((i : Int) + 2) = b at *
    generalize b.2.toNat = j at *
    obtain ⟨x, hx⟩ : ∃ x, l[j]? = some x := ⟨_, List.getElem?_eq_getElem (by omega)⟩
    obtain ⟨y, hy⟩ : ∃ y, l[i + 1]? = some y := ⟨_, List.getElem?_eq_getElem (by omega)⟩
    obtain ⟨z, hz⟩ : ∃ z, (l.set (i + 1) x)[j]? = some z := ⟨_, List.getElem?_eq_getElem (by simp; omega)⟩
    have hsw : swpS l (i + 1) j = (l.set (i + 1) x).set j y := by unfold swpS; rw [hx, hy]; rfl
    rw [hsw]
    simp only [e2, bnd_some, Nat.zero_add, hx, hy, hz]
    exact ih _ (by simpa using hl)
theorem shuf_fact (s : Int) (n : Int) (hg : (decide (0 ≤ s) && decide (s < 18446744073709551616)) = true) : Fact Tryd.prog gTab 216 [.s (.int .u64 s), .s (.int .i64 n)] [] (.tup [.s (.int .u64 (if sizedS n = true then (shuffleS s n).1 else 0)), .li .i64 (if sizedS n = true then (shuffleS s n).2 else []), .s (.int .i64 (if sizedS n = true then 0 else 2))], []) := by
  cases hz : sizedS n with
  | false =>
    refine Fact.out (v := .tup [.s (.int .u64 0), .s (.slice none 0 0), .s (.int .i64 2)]) (bs' := []) ?_ (fun _ _ _ x h => RV_tup_two (fun _ h => RVs_two (fun _ h => h) (fun _ h => RVs_two (fun _ h => RV_nil_li h) (fun _ h => h) h) h) h)
    refine callN_fact hN hM T_some_ok (n := 0) (mode := mode2) ?_
    rw [shufF_eq]
    unfold shufF shufF_s1
    rw [hz]
    exact br_tt _ _
  | true =>
  have hg' : (decide (0 ≤ s) && decide (s < 18446744073709551616) && decide (1 ≤ n) && decide (n ≤ 512)) = true := by
    unfold sizedS at hz; rw [Bool.and_assoc, hg, hz]; rfl
  clear hg
  have hg := hg'
  clear hg'
  simp only [Bool.and_eq_true, decide_eq_true_eq] at hg
  obtain ⟨⟨⟨h0, h1⟩, hn⟩, hn2⟩ := hg
  obtain ⟨F, hF⟩ : ∃ F : Nat, F = 599 := ⟨_, rfl⟩
  refine callN_fact hN hM T_some_ok (n := F + 1) (mode := mode2) ?_
  rw [shufF_eq]
  obtain ⟨j, rfl⟩ : ∃ j : Nat, n = (j : Int) := ⟨n.toNat, by omega⟩
  have hs := fun (k0 : Int → List Int → Option Out) => shuf_swaps (R := Out) (F + 1) j (by omega) k0 (j - 1) (F + 1) s (iotaS j) (iota_len j) (by omega) h0 h1 (by omega)
  have hj1 : IntKind.i64.wrap ((j : Int) - 1) = ((j - 1 : Nat) : Int) := by rw [wrap_i64 (by omega) (by omega)]; omega
  have hsh : shuffleS s (j : Int) = swapsS (j - 1) s (iotaS j) := by rw [shuffleS_eq]; unfold shuffleI; simp
  have ha := fun k0 => shuf_app (R := Out) (F + 1) s (j : Int) k0 hn hn2 F 1 (by omega) (by omega)
  unfold shufF shufF_s1
  rw [hz, br_if, if_neg (by decide)]
  unfold shufF_l1 shufF_s2
  dsimp only
  rw [br_if, if_pos (by simp; omega)]
  simp only [show [(0 : Int)] = iotaS 1 from rfl, show (1 : Int) = ((1 : Nat) : Int) from rfl, ha]
  unfold shufF_s4
  simp only [hj1, Int.toNat_natCast, (hs _).1, hsh]
  unfold shufF_s6
  have hlen := (hs (fun _ _ => none)).2
  rw [List.drop_zero, List.take_of_length_le (by omega)]
  simp
noncomputable def shuf_ent : List V → List Blk → Option (Bool × Out)
  | [.s (.int .u64 s), .s (.int .i64 n)], [] => some ((decide (0 ≤ s) && decide (s < 18446744073709551616)), (.tup [.s (.int .u64 (if sizedS n = true then (shuffleS s n).1 else 0)), .li .i64 (if sizedS n = true then (shuffleS s n).2 else []), .s (.int .i64 (if sizedS n = true then 0 else 2))], []))
  | _, _ => none
theorem shuf_ok : ∀ args bs out, shuf_ent args bs = some (true, out) → Fact Tryd.prog gTab 216 args bs out := by
  intro args bs out h
  unfold shuf_ent at h
  split at h
  · rename_i s n
    simp only [Option.some.injEq, Prod.mk.injEq] at h
    obtain ⟨hg, rfl⟩ := h
    exact shuf_fact s n hg
  · cases h
noncomputable def T_shuf : Tbl := Tbl.cons 216 shuf_ent T_some
theorem T_shuf_ok : CallOk Tryd.prog gTab T_shuf := cons_ok T_some_ok shuf_ok
/-! downpour/downpourref06.Shuffle -/
noncomputable abbrev qa30 : Nat × Option Blk := (0, some ⟨224, .agg [vU 0, vN], true⟩)
noncomputable abbrev qa31 (fuel : Nat) : Ctx Out := (fnX Tryd.prog mode2 T_shuf fuel 52 0)
noncomputable abbrev qa32 : Code := (bodyOf Tryd.prog 193)
noncomputable abbrev qa33 : Nat × V := (4, .ptr 0 2 0 0)
noncomputable def refShuffleF_s2 {R : Type} (w2 n : Int) (w3 : List Int) (w1 : Nat) (s : Int) (c0 : Nat → Int → List Int → Option R) (c1 : Nat → List Int → Option R) : Option R :=
  br (decide (w2 < n))
    (grd (Nat.beq w3.length w1) <|
    grd (okN (w1 + 1) 8) <|
    c0 ((w3 ++ [w2]).length) (IntKind.i64.wrap (w2 + 1)) (w3 ++ [w2]))
    (c1 w1 w3)
theorem refShuffleF_s2_eq (fuel k : Nat) (K : Ex → St → Option Out) (w2 n : Int) (w3 : List Int) (w1 : Nat) (s : Int) : lpN (sub qa32 [1, 1, 0, 1, 0, 0]) (qa31 fuel) 4503599626322867 [0, 1, 4, 5, 6] (k + 1) ⟨[(0, vU s), (1, vI n), qa33, (5, .sl 1 1 0 w1), (6, vI w2)], [qa30, (1, bL 3 w3)], 2, none⟩ K = refShuffleF_s2 w2 n w3 w1 s (fun a6 a7 a8 => lpN (sub qa32 [1, 1, 0, 1, 0, 0]) (qa31 fuel) 4503599626322867 [0, 1, 4, 5, 6] k ⟨[(0, vU s), (1, vI n), qa33, (5, .sl 1 1 0 a6), (6, vI a7)], [qa30, (1, bL 3 a8)], 2, none⟩ K) (fun a9 a0 => K (.exit 0) ⟨[(0, vU s), (1, vI n), qa33, (5, .sl 1 1 0 a9)], [qa30, (1, bL 3 a0)], 2, none⟩) := by kernel_rfl
noncomputable def refShuffleF_l1 {R : Type} (fuel : Nat) (s n : Int) (k0 : Nat → List Int → Option R) : Nat → Nat → Int → List Int → Option R
  | 0, _, _, _ => none
  | k + 1, w1, w2, w3 =>
    (refShuffleF_s2 w2 n w3 w1 s (fun a6 a7 a8 => ( refShuffleF_l1 fuel s n k0 k a6 a7 a8 )) (fun a9 a0 => k0 a9 a0))
theorem refShuffleF_l1_eq (fuel : Nat) (s n : Int) (K : Ex → St → Option Out) : ∀ (k w1 : Nat) (w2 : Int) (w3 : List Int), lpN (sub qa32 [1, 1, 0, 1, 0, 0]) (qa31 fuel) 4503599626322867 [0, 1, 4, 5, 6] k ⟨[(0, vU s), (1, vI n), qa33, (5, .sl 1 1 0 w1), (6, vI w2)], [qa30, (1, bL 3 w3)], 2, none⟩ K = refShuffleF_l1 fuel s n (fun y4 y5 => K (.exit 0) ⟨[(0, vU s), (1, vI n), qa33, (5, .sl 1 1 0 y4)], [qa30, (1, bL 3 y5)], 2, none⟩) k w1 w2 w3
  | 0, _, _, _ => rfl
  | k + 1, w1, w2, w3 => by
    unfold refShuffleF_l1
    exact (refShuffleF_s2_eq fuel k K w2 n w3 w1 s).trans (congr (congr (Eq.refl (refShuffleF_s2 (R := Out) w2 n w3 w1 s)) (funext fun a6 => funext fun a7 => funext fun a8 => refShuffleF_l1_eq fuel s n K k a6 a7 a8)) (rfl))
noncomputable def refShuffleF_s4 {R : Type} (w0 w1 : Int) (x0 : Nat) (w2 : List Int) (c0 : Int → Int → List Int → Option R) (c1 : Int → List Int → Option R) : Option R :=
  br (decide (w0 > 0))
    (grd (decide (0 ≤ w1) && decide (w1 < 18446744073709551616) && decide (1 ≤ (IntKind.i64.wrap (w0 + 1))) && decide ((IntKind.i64.wrap (w0 + 1)) ≤ 512)) <|
    bnd (below w0 x0) fun j0 =>
    bnd (w2[(0 + j0)]?) fun e0 =>
    bnd (below ((belowS w1 (IntKind.i64.wrap (w0 + 1))).2) x0) fun j1 =>
    bnd (w2[(0 + j1)]?) fun e1 =>
    bnd (below w0 x0) fun j2 =>
    bnd (w2[(0 + j2)]?) fun e2 =>
    bnd (below ((belowS w1 (IntKind.i64.wrap (w0 + 1))).2) x0) fun j3 =>
    bnd ((w2.set (0 + j2) e1)[(0 + j3)]?) fun e3 =>
    c0 ((belowS w1 (IntKind.i64.wrap (w0 + 1))).1) (IntKind.i64.wrap (w0 - 1)) ((w2.set (0 + j2) e1).set (0 + j3) e0))
    (c1 w1 w2)
theorem refShuffleF_s4_eq (fuel k : Nat) (K : Ex → St → Option Out) (w0 w1 : Int) (x0 : Nat) (w2 : List Int) : lpN (sub qa32 [1, 1, 1, 0, 1, 0, 0]) (qa31 fuel) 3940649673949233 [0, 4, 5, 7] (k + 1) ⟨[(0, vU w1), qa33, (5, .sl 1 1 0 x0), (7, vI w0)], [qa30, (1, bL 3 w2)], 2, none⟩ K = refShuffleF_s4 w0 w1 x0 w2 (fun a0 a1 a2 => lpN (sub qa32 [1, 1, 1, 0, 1, 0, 0]) (qa31 fuel) 3940649673949233 [0, 4, 5, 7] k ⟨[(0, vU a0), qa33, (5, .sl 1 1 0 x0), (7, vI a1)], [qa30, (1, bL 3 a2)], 2, none⟩ K) (fun a3 a4 => K (.exit 2) ⟨[(0, vU a3), qa33, (5, .sl 1 1 0 x0)], [qa30, (1, bL 3 a4)], 2, none⟩) := by kernel_rfl
noncomputable def refShuffleF_l2 {R : Type} (fuel x0 : Nat) (k0 : Int → List Int → Option R) : Nat → Int → Int → List Int → Option R
  | 0, _, _, _ => none
  | k + 1, w0, w1, w2 =>
    (refShuffleF_s4 w1 w0 x0 w2 (fun a0 a1 a2 => ( refShuffleF_l2 fuel x0 k0 k a0 a1 a2 )) (fun a3 a4 => k0 a3 a4))
theorem refShuffleF_l2_eq (fuel x0 : Nat) (K : Ex → St → Option Out) : ∀ (k : Nat) (w0 w1 : Int) (w2 : List Int), lpN (sub qa32 [1, 1, 1, 0, 1, 0, 0]) (qa31 fuel) 3940649673949233 [0, 4, 5, 7] k ⟨[(0, vU w0), qa33, (5, .sl 1 1 0 x0), (7, vI w1)], [qa30, (1, bL 3 w2)], 2, none⟩ K = refShuffleF_l2 fuel x0 (fun y0 y1 => K (.exit 2) ⟨[(0, vU y0), qa33, (5, .sl 1 1 0 x0)], [qa30, (1, bL 3 y1)], 2, none⟩) k w0 w1 w2
  | 0, _, _, _ => rfl
  | k + 1, w0, w1, w2 => by
    unfold refShuffleF_l2
    exact (refShuffleF_s4_eq fuel k K w1 w0 x0 w2).trans (congr (congr (Eq.refl (refShuffleF_s4 (R := Out) w1 w0 x0 w2)) (funext fun a0 => funext fun a1 => funext fun a2 => refShuffleF_l2_eq fuel x0 K k a0 a1 a2)) (rfl))
noncomputable def refShuffleF_s5 {R : Type} (x0 : Int) (x1 : List Int) (x2 : Nat) (c0 : Int → List Int → Option R) : Option R :=
  c0 x0 ((x1.drop 0).take x2)
theorem refShuffleF_s5_eq (fuel : Nat)  (x0 : Int) (x1 : List Int) (x2 : Nat) : (kont (qa31 fuel) qa32 [1, 1, 1, 0, 1, 0] 16 (endK Tryd.prog 0 0 193)) (.exit 2) ⟨[(0, vU x0), qa33, (5, .sl 1 1 0 x2)], [qa30, (1, bL 3 x1)], 2, none⟩ = refShuffleF_s5 x0 x1 x2 (fun a0 a1 => some (.agg [vU a0, vL a1], [])) := by kernel_rfl
noncomputable def refShuffleF_s3 {R : Type} (s n : Int) (x0 : List Int) (x1 : Nat) (c0 : Int → Int → List Int → Option R) : Option R :=
  c0 s (IntKind.i64.wrap (n - 1)) x0
theorem refShuffleF_s3_eq (fuel : Nat)  (s n : Int) (x0 : List Int) (x1 : Nat) : (kont (qa31 fuel) qa32 [1, 1, 0, 1, 0] 16 (endK Tryd.prog 0 0 193)) (.exit 0) ⟨[(0, vU s), (1, vI n), qa33, (5, .sl 1 1 0 x1)], [qa30, (1, bL 3 x0)], 2, none⟩ = refShuffleF_s3 s n x0 x1 (fun a0 a1 a2 => lpN (sub qa32 [1, 1, 1, 0, 1, 0, 0]) (qa31 fuel) 3940649673949233 [0, 4, 5, 7] fuel ⟨[(0, vU a0), qa33, (5, .sl 1 1 0 x1), (7, vI a1)], [qa30, (1, bL 3 a2)], 2, none⟩ (kont (qa31 fuel) qa32 [1, 1, 1, 0, 1, 0] 16 (endK Tryd.prog 0 0 193))) := by kernel_rfl
noncomputable def refShuffleF_s1 {R : Type} (s n : Int) (c0 : Nat → Int → List Int → Option R) : Option R :=
  c0 0 0 ([])
theorem refShuffleF_s1_eq (fuel : Nat)  (s n : Int) : callN Tryd.prog mode2 T_shuf fuel 193 [vU s, vI n] [] = refShuffleF_s1 s n (fun a0 a1 a2 => lpN (sub qa32 [1, 1, 0, 1, 0, 0]) (qa31 fuel) 4503599626322867 [0, 1, 4, 5, 6] fuel ⟨[(0, vU s), (1, vI n), qa33, (5, .sl 1 1 0 a0), (6, vI a1)], [qa30, (1, bL 3 a2)], 2, none⟩ (kont (qa31 fuel) qa32 [1, 1, 0, 1, 0] 16 (endK Tryd.prog 0 0 193))) := by kernel_rfl
noncomputable def refShuffleF {R : Type} (fuel : Nat) (s n : Int) (r0 : Int → List Int → Option R) : Option R :=
  (refShuffleF_s1 s n (fun a0 a1 a2 => (refShuffleF_l1 fuel s n (fun x0 x1 => (refShuffleF_s3 s n x1 x0 (fun a3 a4 a5 => (refShuffleF_l2 fuel x0 (fun x2 x3 => (refShuffleF_s5 x2 x3 x0 (fun a6 a7 => r0 a6 a7))) fuel a3 a4 a5)))) fuel a0 a1 a2)))
theorem refShuffleF_eq (fuel : Nat) (s n : Int) : callN Tryd.prog mode2 T_shuf fuel 193 [.s (.int .u64 s), .s (.int .i64 n)] [] = refShuffleF fuel s n (fun z0 z1 => some (.agg [.s (.int .u64 z0), .li .i64 z1], [])) := by
  unfold refShuffleF
  exact (refShuffleF_s1_eq fuel  s n).trans (congr (Eq.refl (refShuffleF_s1 (R := Out) s n)) (funext fun a0 => funext fun a1 => funext fun a2 => (refShuffleF_l1_eq fuel s n (kont (qa31 fuel) qa32 [1, 1, 0, 1, 0] 16 (endK Tryd.prog 0 0 193)) fuel a0 a1 a2).trans (congrFun (congrFun (congrFun (congrFun (congr (Eq.refl (refShuffleF_l1 (R := Out) fuel s n)) (funext fun x0 => funext fun x1 => (refShuffleF_s3_eq fuel  s n x1 x0).trans (congr (Eq.refl (refShuffleF_s3 (R := Out) s n x1 x0)) (funext fun a3 => funext fun a4 => funext fun a5 => (refShuffleF_l2_eq fuel x0 (kont (qa31 fuel) qa32 [1, 1, 1, 0, 1, 0] 16 (endK Tryd.prog 0 0 193)) fuel a3 a4 a5).trans (congrFun (congrFun (congrFun (congrFun (congr (Eq.refl (refShuffleF_l2 (R := Out) fuel x0)) (funext fun x2 => funext fun x3 => (refShuffleF_s5_eq fuel  x2 x3 x0))) fuel) a3) a4) a5))))) fuel) a0) a1) a2)))
theorem refShuffle_app {R : Type} (fuel : Nat) (s n : Int) (k0 : Nat → List Int → Option R) (h1 : 1 ≤ n) (h2 : n ≤ 512) : ∀ (k j : Nat), (j : Int) ≤ n → n < (j : Int) + k → refShuffleF_l1 fuel s n k0 k j (j : Int) (iotaS j) = k0 n.toNat (iotaS n.toNat)
  | 0, j, hj, hk => by omega
  | k + 1, j, hj, hk => by
    unfold refShuffleF_l1 refShuffleF_s2
    rw [br_if]
    by_cases hc : (j : Int) < n
    · rw [if_pos (by simpa using hc), iota_len, grd_of (beq_self _), grd_of (okN_of (by omega) (by omega)), iota_succ, iota_len, wrap_i64 (by omega) (by omega), show (j : Int) + 1 = ((j + 1 : Nat) : Int) by omega]
      exact refShuffle_app fuel s n k0 h1 h2 k (j + 1) (by omega) (by omega)
    · rw [if_neg (by simpa using hc), show n.toNat = j by omega]
theorem refShuffle_swaps {R : Type} (fuel m : Nat) (hm : m ≤ 512) (k0 : Int → List Int → Option R) : ∀ (i k : Nat) (s : Int) (l : List Int), l.length = m → i < m → 0 ≤ s → s < 18446744073709551616 → i < k → refShuffleF_l2 fuel m k0 k s (i : Int) l = k0 (swapsS i s l).1 (swapsS i s l).2 ∧ (swapsS i s l).2.length = m
  | _, 0, s, l, hl, hi, h0, h1, hk => by omega
  | 0, k + 1, s, l, hl, hi, h0, h1, hk => by
    unfold refShuffleF_l2 refShuffleF_s4
    rw [br_if, if_neg (by decide)]
    exact ⟨rfl, hl⟩
  | i + 1, k + 1, s, l, hl, hi, h0, h1, hk => by
    unfold refShuffleF_l2 refShuffleF_s4
    have hw : IntKind.i64.wrap (((i + 1 : Nat) : Int) + 1) = (i : Int) + 2 := by rw [wrap_i64 (by omega) (by omega)]; omega
    have hb := below_range (n := (i : Int) + 2) h0 h1 (by omega) (by omega)
    obtain ⟨⟨b0, b1⟩, b2, b3⟩ := hb
    have e1 : below (belowS s ((i : Int) + 2)).2 m = some (belowS s ((i : Int) + 2)).2.toNat := below_of b2 (by omega)
    have e2 : below ((i + 1 : Nat) : Int) m = some (i + 1) := below_of (i := ((i + 1 : Nat) : Int)) (by omega) (by omega)
    have b4 : (belowS s ((i : Int) + 2)).2.toNat < m := by omega
    have hl1 : IntKind.i64.wrap (((i + 1 : Nat) : Int) - 1) = (i : Int) := by rw [wrap_i64 (by omega) (by omega)]; omega
    have ih := fun l' hl' => refShuffle_swaps fuel m hm k0 i k (belowS s ((i : Int) + 2)).1 l' hl' (by omega) b0 b1 (by omega)
    rw [hw, br_if, if_pos (by simp), grd_of (by simp; omega), hl1, swapsS]
    rw [e1]
    generalize belowS s ((i : Int) + 2) = b at *
    generalize b.2.toNat = j at *
    obtain ⟨x, hx⟩ : ∃ x, l[j]? = some x := ⟨_, List.getElem?_eq_getElem (by omega)⟩
    obtain ⟨y, hy⟩ : ∃ y, l[i + 1]? = some y := ⟨_, List.getElem?_eq_getElem (by omega)⟩
    obtain ⟨z, hz⟩ : ∃ z, (l.set (i + 1) x)[j]? = some z := ⟨_, List.getElem?_eq_getElem (by simp; omega)⟩
    have hsw : swpS l (i + 1) j = (l.set (i + 1) x).set j y := by unfold swpS; rw [hx, hy]; rfl
    rw [hsw]
    simp only [e2, bnd_some, Nat.zero_add, hx, hy, hz]
    exact ih _ (by simpa using hl)
theorem refShuffle_fact (s : Int) (n : Int) (hg : (decide (0 ≤ s) && decide (s < 18446744073709551616) && decide (1 ≤ n) && decide (n ≤ 512)) = true) : Fact Tryd.prog gTab 193 [.s (.int .u64 s), .s (.int .i64 n)] [] (.agg [.s (.int .u64 ((shuffleS s n).1)), .li .i64 ((shuffleS s n).2)], []) := by
  simp only [Bool.and_eq_true, decide_eq_true_eq] at hg
  obtain ⟨⟨⟨h0, h1⟩, hn⟩, hn2⟩ := hg
  obtain ⟨F, hF⟩ : ∃ F : Nat, F = 599 := ⟨_, rfl⟩
  refine callN_fact hN hM T_shuf_ok (n := F + 1) (mode := mode2) ?_
  rw [refShuffleF_eq]
  obtain ⟨j, rfl⟩ : ∃ j : Nat, n = (j : Int) := ⟨n.toNat, by omega⟩
  have hs := fun (k0 : Int → List Int → Option Out) => refShuffle_swaps (R := Out) (F + 1) j (by omega) k0 (j - 1) (F + 1) s (iotaS j) (iota_len j) (by omega) h0 h1 (by omega)
  have hj1 : IntKind.i64.wrap ((j : Int) - 1) = ((j - 1 : Nat) : Int) := by rw [wrap_i64 (by omega) (by omega)]; omega
  have hsh : shuffleS s (j : Int) = swapsS (j - 1) s (iotaS j) := by rw [shuffleS_eq]; unfold shuffleI; simp
  have ha := fun k0 => refShuffle_app (R := Out) (F + 1) s (j : Int) k0 hn hn2 (F + 1) 0 (by omega) (by omega)
  unfold refShuffleF refShuffleF_s1
  simp only [show [] = iotaS 0 from rfl, show (0 : Int) = ((0 : Nat) : Int) from rfl, ha]
  unfold refShuffleF_s3
  simp only [hj1, Int.toNat_natCast, (hs _).1, hsh]
  unfold refShuffleF_s5
  have hlen := (hs (fun _ _ => none)).2
  rw [List.drop_zero, List.take_of_length_le (by omega)]
noncomputable def refShuffle_ent : List V → List Blk → Option (Bool × Out)
  | [.s (.int .u64 s), .s (.int .i64 n)], [] => some ((decide (0 ≤ s) && decide (s < 18446744073709551616) && decide (1 ≤ n) && decide (n ≤ 512)), (.agg [.s (.int .u64 ((shuffleS s n).1)), .li .i64 ((shuffleS s n).2)], []))
  | _, _ => none
theorem refShuffle_ok : ∀ args bs out, refShuffle_ent args bs = some (true, out) → Fact Tryd.prog gTab 193 args bs out := by
  intro args bs out h
  unfold refShuffle_ent at h
  split at h
  · rename_i s n
    simp only [Option.some.injEq, Prod.mk.injEq] at h
    obtain ⟨hg, rfl⟩ := h
    exact refShuffle_fact s n hg
  · cases h
noncomputable def T_refShuffle : Tbl := Tbl.cons 193 refShuffle_ent T_shuf
theorem T_refShuffle_ok : CallOk Tryd.prog gTab T_refShuffle := cons_ok T_shuf_ok refShuffle_ok
/-! downpour/downpourref06.in -/
noncomputable abbrev qa34 (fuel : Nat) : Ctx Out := (fnX Tryd.prog mode2 T_refShuffle fuel 21 0)
noncomputable def refInF_s2 {R : Type} (w7 w6 : Int) (w5 : List Int) (n : Int) (c0 : Option R) (c1 : List Int → Int → Int → Option R) (c2 : Option R) : Option R :=
  br (decide (w7 < w6))
    (bnd (ix w5 w7) fun e9 =>
    br (e9 == n)
      (c0)
      (c1 w5 w6 (IntKind.i64.wrap (w7 + 1))))
    (c2)
theorem refInF_s2_eq (fuel k : Nat) (K : Ex → St → Option Out) (w7 w6 : Int) (w5 : List Int) (n : Int) : lpN (sub (bodyOf Tryd.prog 194) [1, 0, 1, 0, 0]) (qa34 fuel) 64 [2, 6, 11, 12, 13] (k + 1) ⟨[(2, vI n), (6, vB false), (11, vL w5), (12, vI w6), (13, vI w7)], [], 0, none⟩ K = refInF_s2 w7 w6 w5 n (K .ret ⟨[(6, vB true)], [], 0, none⟩) (fun a0 a1 a2 => lpN (sub (bodyOf Tryd.prog 194) [1, 0, 1, 0, 0]) (qa34 fuel) 64 [2, 6, 11, 12, 13] k ⟨[(2, vI n), (6, vB false), (11, vL a0), (12, vI a1), (13, vI a2)], [], 0, none⟩ K) (K (.exit 0) ⟨[(6, vB false)], [], 0, none⟩) := by kernel_rfl
noncomputable def refInF_l1 {R : Type} (fuel : Nat) (n : Int) (k0 k1 : Option R) : Nat → List Int → Int → Int → Option R
  | 0, _, _, _ => none
  | k + 1, w5, w6, w7 =>
    (refInF_s2 w7 w6 w5 n (k0) (fun a0 a1 a2 => ( refInF_l1 fuel n k0 k1 k a0 a1 a2 )) (k1))
theorem refInF_l1_eq (fuel : Nat) (n : Int) (K : Ex → St → Option Out) : ∀ (k : Nat) (w5 : List Int) (w6 w7 : Int), lpN (sub (bodyOf Tryd.prog 194) [1, 0, 1, 0, 0]) (qa34 fuel) 64 [2, 6, 11, 12, 13] k ⟨[(2, vI n), (6, vB false), (11, vL w5), (12, vI w6), (13, vI w7)], [], 0, none⟩ K = refInF_l1 fuel n (K .ret ⟨[(6, vB true)], [], 0, none⟩) (K (.exit 0) ⟨[(6, vB false)], [], 0, none⟩) k w5 w6 w7
  | 0, _, _, _ => rfl
  | k + 1, w5, w6, w7 => by
    unfold refInF_l1
    exact (refInF_s2_eq fuel k K w7 w6 w5 n).trans (congr (congr (congr (Eq.refl (refInF_s2 (R := Out) w7 w6 w5 n)) (rfl)) (funext fun a0 => funext fun a1 => funext fun a2 => refInF_l1_eq fuel n K k a0 a1 a2)) (rfl))
noncomputable def refInF_s3 {R : Type}  (c0 : Bool → Option R) : Option R :=
  c0 true
theorem refInF_s3_eq (fuel : Nat)   : (kont (qa34 fuel) (bodyOf Tryd.prog 194) [1, 0, 1, 0] 64 (endK Tryd.prog 0 0 194)) .ret ⟨[(6, vB true)], [], 0, none⟩ = refInF_s3  (fun a0 => some (vB a0, [])) := by kernel_rfl
noncomputable def refInF_s4 {R : Type}  (c0 : Bool → Option R) : Option R :=
  c0 false
theorem refInF_s4_eq (fuel : Nat)   : (kont (qa34 fuel) (bodyOf Tryd.prog 194) [1, 0, 1, 0] 64 (endK Tryd.prog 0 0 194)) (.exit 0) ⟨[(6, vB false)], [], 0, none⟩ = refInF_s4  (fun a0 => some (vB a0, [])) := by kernel_rfl
noncomputable def refInF_s1 {R : Type} (many : Int) (l : List Int) (n : Int) (c0 : List Int → Int → Int → Option R) : Option R :=
  bnd (upTo many l.length) fun j1 =>
  c0 ((l.drop 0).take (j1 - 0)) ((((l.drop 0).take (j1 - 0)).length : Nat) : Int) 0
theorem refInF_s1_eq (fuel : Nat)  (many : Int) (l : List Int) (n : Int) : callN Tryd.prog mode2 T_refShuffle fuel 194 [vL l, vI many, vI n] [] = refInF_s1 many l n (fun a0 a1 a2 => lpN (sub (bodyOf Tryd.prog 194) [1, 0, 1, 0, 0]) (qa34 fuel) 64 [2, 6, 11, 12, 13] fuel ⟨[(2, vI n), (6, vB false), (11, vL a0), (12, vI a1), (13, vI a2)], [], 0, none⟩ (kont (qa34 fuel) (bodyOf Tryd.prog 194) [1, 0, 1, 0] 64 (endK Tryd.prog 0 0 194))) := by kernel_rfl
noncomputable def refInF {R : Type} (fuel : Nat) (l : List Int) (many n : Int) (r0 : Bool → Option R) : Option R :=
  (refInF_s1 many l n (fun a0 a1 a2 => (refInF_l1 fuel n ((refInF_s3 (fun a3 => r0 a3))) ((refInF_s4 (fun a4 => r0 a4))) fuel a0 a1 a2)))
theorem refInF_eq (fuel : Nat) (l : List Int) (many n : Int) : callN Tryd.prog mode2 T_refShuffle fuel 194 [.li .i64 l, .s (.int .i64 many), .s (.int .i64 n)] [] = refInF fuel l many n (fun z0 => some (.s (.bool z0), [])) := by
  unfold refInF
  exact (refInF_s1_eq fuel  many l n).trans (congr (Eq.refl (refInF_s1 (R := Out) many l n)) (funext fun a0 => funext fun a1 => funext fun a2 => (refInF_l1_eq fuel n (kont (qa34 fuel) (bodyOf Tryd.prog 194) [1, 0, 1, 0] 64 (endK Tryd.prog 0 0 194)) fuel a0 a1 a2).trans (congrFun (congrFun (congrFun (congrFun (congr (congr (Eq.refl (refInF_l1 (R := Out) fuel n)) ((refInF_s3_eq fuel  ))) ((refInF_s4_eq fuel  ))) fuel) a0) a1) a2)))
theorem refIn_loop {R : Type} (fuel : Nat) (n : Int) (xs : List Int) (hx : xs.length ≤ 1000000) (k0 k1 : Option R) : ∀ (k j : Nat), j ≤ xs.length → xs.length < j + k → refInF_l1 fuel n k0 k1 k xs (xs.length : Int) (j : Int) = if (xs.drop j).contains n = true then k0 else k1
  | 0, j, h1, h2 => by omega
  | k + 1, j, h1, h2 => by
    unfold refInF_l1 refInF_s2
    rw [br_if]
    by_cases hc : j < xs.length
    · rw [if_pos (by simpa using hc), bnd_of ((ix_nat xs j).trans (List.getElem?_eq_getElem hc)), br_if, List.drop_eq_getElem_cons hc, wrap_i64 (by omega) (by omega), show (j : Int) + 1 = ((j + 1 : Nat) : Int) by omega]
      dsimp only
      rw [refIn_loop fuel n xs hx k0 k1 k (j + 1) (by omega) (by omega)]
      generalize xs[j] = x
      generalize xs.drop (j + 1) = t
      rw [List.contains_cons]
      by_cases he : x = n
      · simp [he]
      · have he' : ¬ n = x := fun h => he h.symm
        simp [he, he']
    · rw [if_neg (by simpa using hc), List.drop_eq_nil_of_le (by omega)]
      simp
theorem refIn_fact (l : List Int) (many : Int) (n : Int) (hg : (decide (0 ≤ many) && decide (many ≤ l.length) && decide (l.length ≤ 1000000)) = true) : Fact Tryd.prog gTab 194 [.li .i64 l, .s (.int .i64 many), .s (.int .i64 n)] [] (.s (.bool (inS l many n)), []) := by
  simp only [Bool.and_eq_true, decide_eq_true_eq] at hg
  obtain ⟨⟨h0, h1⟩, h2⟩ := hg
  refine callN_fact hN hM T_refShuffle_ok (n := l.length + 1) (mode := mode2) ?_
  rw [refInF_eq]
  unfold refInF refInF_s1
  rw [bnd_of (upTo_of h0 h1)]
  dsimp only
  rw [List.drop_zero, Nat.sub_zero]
  have hl : (l.take many.toNat).length ≤ l.length := by simp; omega
  have := refIn_loop (R := Out) (l.length + 1) n (l.take many.toNat) (by omega)
  rw [show (0 : Int) = ((0 : Nat) : Int) from rfl, this _ _ _ _ (by omega) (by omega), List.drop_zero, inS_eq]
  unfold inI refInF_s3 refInF_s4
  cases (l.take many.toNat).contains n <;> rfl
noncomputable def refIn_ent : List V → List Blk → Option (Bool × Out)
  | [w0, .s (.int .i64 many), .s (.int .i64 n)], [] => (asSl (.int .i64) w0).bind fun l => some ((decide (0 ≤ many) && decide (many ≤ l.length) && decide (l.length ≤ 1000000)), (.s (.bool (inS l many n)), []))
  | _, _ => none
theorem refIn_ok : ∀ args bs out, refIn_ent args bs = some (true, out) → Fact Tryd.prog gTab 194 args bs out := by
  intro args bs out h
  unfold refIn_ent at h
  split at h
  · rename_i w0 many n
    obtain ⟨l, h_l, h⟩ := Option.bind_eq_some_iff.1 h
    simp only [Option.some.injEq, Prod.mk.injEq] at h
    obtain ⟨hg, rfl⟩ := h
    exact (refIn_fact l many n hg).args (fun _ _ _ => fun _ h => RVs_two (fun _ h => RV_li h_l h) (fun _ h => h) h)
  · cases h
noncomputable def T_refIn : Tbl := Tbl.cons 194 refIn_ent T_refShuffle
theorem T_refIn_ok : CallOk Tryd.prog gTab T_refIn := cons_ok T_refShuffle_ok refIn_ok
/-! downpour/downpourref06.Some -/
noncomputable abbrev qa35 : Nat × Option Blk := (0, some ⟨224, .agg [vU 0, vN], true⟩)
noncomputable abbrev qa36 : Code := (sub (bodyOf Tryd.prog 174) [1, 1, 1, 0, 1, 0, 0])
noncomputable abbrev qa37 (fuel : Nat) : Ctx Out := (fnX Tryd.prog mode2 T_refIn fuel 33 0)
noncomputable abbrev qa38 : List (Nat × V) := [(6, .ptr 0 2 0 0), (8, .ptr 1 2 0 0)]
noncomputable def refSomeF_s3 {R : Type} (w0 n many : Int) (w1 w2 : List Int) (w3 : Nat) (w9 : Int) (c0 c1 : Int → Nat → List Int → Option R) (c2 : Nat → List Int → Option R) : Option R :=
  br (decide (w0 < n))
    (grd (decide (0 ≤ many) && decide (many ≤ w1.length) && decide (w1.length ≤ 1000000)) <|
    br (inS w1 many w0)
      (grd (Nat.beq w2.length w3) <|
      grd (okN (w3 + 1) 8) <|
      c0 (IntKind.i64.wrap (w0 + 1)) ((w2 ++ [w0]).length) (w2 ++ [w0]))
      (c1 (IntKind.i64.wrap (w0 + 1)) w3 w2))
    (c2 w3 w2)
theorem refSomeF_s3_eq (fuel k : Nat) (K : Ex → St → Option Out) (w0 n many : Int) (w1 w2 : List Int) (w3 : Nat) (w9 : Int) : lpN qa36 (qa37 fuel) 4294967616 [1, 2, 6, 7, 8, 9] (k + 1) ⟨[(1, vI n), (2, vI many), (6, .ptr 0 2 0 0), (7, .ptr 1 2 0 0), (8, .ptr 2 2 0 0), (9, vI w0)], [qa35, (1, some ⟨224, .agg [vU w9, vL w1], true⟩), (2, some ⟨224, .agg [vU w9, .sl 3 1 0 w3], true⟩), (3, bL 3 w2)], 4, none⟩ K = refSomeF_s3 w0 n many w1 w2 w3 w9 (fun a0 a1 a2 => lpN qa36 (qa37 fuel) 4294967616 [1, 2, 6, 7, 8, 9] k ⟨[(1, vI n), (2, vI many), (6, .ptr 0 2 0 0), (7, .ptr 1 2 0 0), (8, .ptr 2 2 0 0), (9, vI a0)], [qa35, (1, some ⟨224, .agg [vU w9, vL w1], true⟩), (2, some ⟨224, .agg [vU w9, .sl 3 1 0 a1], true⟩), (3, bL 3 a2)], 4, none⟩ K) (fun a3 a4 a5 => lpN qa36 (qa37 fuel) 4294967616 [1, 2, 6, 7, 8, 9] k ⟨[(1, vI n), (2, vI many), (6, .ptr 0 2 0 0), (7, .ptr 1 2 0 0), (8, .ptr 2 2 0 0), (9, vI a3)], [qa35, (1, some ⟨224, .agg [vU w9, vL w1], true⟩), (2, some ⟨224, .agg [vU w9, .sl 3 1 0 a4], true⟩), (3, bL 3 a5)], 4, none⟩ K) (fun a6 a7 => K (.exit 0) ⟨qa38, [qa35, (1, some ⟨224, .agg [vU w9, .sl 2 1 0 a6], true⟩), (2, bL 3 a7)], 3, none⟩) := by kernel_rfl
noncomputable def refSomeF_l2 {R : Type} (fuel : Nat) (n many w9 : Int) (w0 : List Int) (k0 : Nat → List Int → Option R) : Nat → Int → Nat → List Int → Option R
  | 0, _, _, _ => none
  | k + 1, w1, w2, w3 =>
    (refSomeF_s3 w1 n many w0 w3 w2 w9 (fun a0 a1 a2 => ( refSomeF_l2 fuel n many w9 w0 k0 k a0 a1 a2 )) (fun a3 a4 a5 => ( refSomeF_l2 fuel n many w9 w0 k0 k a3 a4 a5 )) (fun a6 a7 => k0 a6 a7))
theorem refSomeF_l2_eq (fuel : Nat) (n many w9 : Int) (w0 : List Int) (K : Ex → St → Option Out) : ∀ (k : Nat) (w1 : Int) (w2 : Nat) (w3 : List Int), lpN qa36 (qa37 fuel) 4294967616 [1, 2, 6, 7, 8, 9] k ⟨[(1, vI n), (2, vI many), (6, .ptr 0 2 0 0), (7, .ptr 1 2 0 0), (8, .ptr 2 2 0 0), (9, vI w1)], [qa35, (1, some ⟨224, .agg [vU w9, vL w0], true⟩), (2, some ⟨224, .agg [vU w9, .sl 3 1 0 w2], true⟩), (3, bL 3 w3)], 4, none⟩ K = refSomeF_l2 fuel n many w9 w0 (fun y0 y1 => K (.exit 0) ⟨qa38, [qa35, (1, some ⟨224, .agg [vU w9, .sl 2 1 0 y0], true⟩), (2, bL 3 y1)], 3, none⟩) k w1 w2 w3
  | 0, _, _, _ => rfl
  | k + 1, w1, w2, w3 => by
    unfold refSomeF_l2
    exact (refSomeF_s3_eq fuel k K w1 n many w0 w3 w2 w9).trans (congr (congr (congr (Eq.refl (refSomeF_s3 (R := Out) w1 n many w0 w3 w2 w9)) (funext fun a0 => funext fun a1 => funext fun a2 => refSomeF_l2_eq fuel n many w9 w0 K k a0 a1 a2)) (funext fun a3 => funext fun a4 => funext fun a5 => refSomeF_l2_eq fuel n many w9 w0 K k a3 a4 a5)) (rfl))
noncomputable def refSomeF_s2 {R : Type} (w8 n many : Int) (w0 : List Int) (w9 : Int) (c0 : Int → Nat → List Int → Option R) (c1 : Int → Int → List Int → Option R) (c2 : Int → Option R) : Option R :=
  br (decide (w8 < n))
    (grd (decide (0 ≤ many) && decide (many ≤ w0.length) && decide (w0.length ≤ 1000000)) <|
    br (inS w0 many w8)
      (c0 (IntKind.i64.wrap (w8 + 1)) 1 ([w8]))
      (c1 (IntKind.i64.wrap (w8 + 1)) w9 w0))
    (c2 w9)
theorem refSomeF_s2_eq (fuel k : Nat) (K : Ex → St → Option Out) (w8 n many : Int) (w0 : List Int) (w9 : Int) : lpN qa36 (qa37 fuel) 4294967616 [1, 2, 6, 7, 8, 9] (k + 1) ⟨[(1, vI n), (2, vI many), (6, .ptr 0 2 0 0), (7, .ptr 1 2 0 0), (8, .ptr 2 2 0 0), (9, vI w8)], [qa35, (1, some ⟨224, .agg [vU w9, vL w0], true⟩), (2, some ⟨224, .agg [vU w9, vN], true⟩)], 3, none⟩ K = refSomeF_s2 w8 n many w0 w9 (fun a0 a1 a2 => lpN qa36 (qa37 fuel) 4294967616 [1, 2, 6, 7, 8, 9] k ⟨[(1, vI n), (2, vI many), (6, .ptr 0 2 0 0), (7, .ptr 1 2 0 0), (8, .ptr 2 2 0 0), (9, vI a0)], [qa35, (1, some ⟨224, .agg [vU w9, vL w0], true⟩), (2, some ⟨224, .agg [vU w9, .sl 3 1 0 a1], true⟩), (3, bL 3 a2)], 4, none⟩ K) (fun a3 a4 a5 => lpN qa36 (qa37 fuel) 4294967616 [1, 2, 6, 7, 8, 9] k ⟨[(1, vI n), (2, vI many), (6, .ptr 0 2 0 0), (7, .ptr 1 2 0 0), (8, .ptr 2 2 0 0), (9, vI a3)], [qa35, (1, some ⟨224, .agg [vU a4, vL a5], true⟩), (2, some ⟨224, .agg [vU a4, vN], true⟩)], 3, none⟩ K) (fun a6 => K (.exit 0) ⟨qa38, [qa35, (1, some ⟨224, .agg [vU a6, vN], true⟩)], 2, none⟩) := by kernel_rfl
noncomputable def refSomeF_l1 {R : Type} (fuel : Nat) (n many : Int) (k0 : Int → Nat → List Int → Option R) (k1 : Int → Option R) : Nat → Int → Int → List Int → Option R
  | 0, _, _, _ => none
  | k + 1, w8, w9, w0 =>
    (refSomeF_s2 w8 n many w0 w9 (fun a0 a1 a2 => (refSomeF_l2 fuel n many w9 w0 (fun x0 x1 => k0 w9 x0 x1) k a0 a1 a2)) (fun a3 a4 a5 => ( refSomeF_l1 fuel n many k0 k1 k a3 a4 a5 )) (fun a6 => k1 a6))
theorem refSomeF_l1_eq (fuel : Nat) (n many : Int) (K : Ex → St → Option Out) : ∀ (k : Nat) (w8 w9 : Int) (w0 : List Int), lpN qa36 (qa37 fuel) 4294967616 [1, 2, 6, 7, 8, 9] k ⟨[(1, vI n), (2, vI many), (6, .ptr 0 2 0 0), (7, .ptr 1 2 0 0), (8, .ptr 2 2 0 0), (9, vI w8)], [qa35, (1, some ⟨224, .agg [vU w9, vL w0], true⟩), (2, some ⟨224, .agg [vU w9, vN], true⟩)], 3, none⟩ K = refSomeF_l1 fuel n many (fun y0 y1 y2 => K (.exit 0) ⟨qa38, [qa35, (1, some ⟨224, .agg [vU y0, .sl 2 1 0 y1], true⟩), (2, bL 3 y2)], 3, none⟩) (fun y3 => K (.exit 0) ⟨qa38, [qa35, (1, some ⟨224, .agg [vU y3, vN], true⟩)], 2, none⟩) k w8 w9 w0
  | 0, _, _, _ => rfl
  | k + 1, w8, w9, w0 => by
    unfold refSomeF_l1
    exact (refSomeF_s2_eq fuel k K w8 n many w0 w9).trans (congr (congr (congr (Eq.refl (refSomeF_s2 (R := Out) w8 n many w0 w9)) (funext fun a0 => funext fun a1 => funext fun a2 => refSomeF_l2_eq fuel n many w9 w0 K k a0 a1 a2)) (funext fun a3 => funext fun a4 => funext fun a5 => refSomeF_l1_eq fuel n many K k a3 a4 a5)) (rfl))
noncomputable def refSomeF_s4 {R : Type} (x0 : Int) (x1 : List Int) (x2 : Nat) (c0 : Int → List Int → Option R) : Option R :=
  c0 x0 ((x1.drop 0).take x2)
theorem refSomeF_s4_eq (fuel : Nat)  (x0 : Int) (x1 : List Int) (x2 : Nat) : (kont (qa37 fuel) (bodyOf Tryd.prog 174) [1, 1, 1, 0, 1, 0] 64 (endK Tryd.prog 0 0 174)) (.exit 0) ⟨qa38, [qa35, (1, some ⟨224, .agg [vU x0, .sl 2 1 0 x2], true⟩), (2, bL 3 x1)], 3, none⟩ = refSomeF_s4 x0 x1 x2 (fun a0 a1 => some (.agg [vU a0, vL a1], [])) := by kernel_rfl
noncomputable def refSomeF_s5 {R : Type} (x0 : Int) (c0 : Int → Option R) : Option R :=
  c0 x0
theorem refSomeF_s5_eq (fuel : Nat)  (x0 : Int) : (kont (qa37 fuel) (bodyOf Tryd.prog 174) [1, 1, 1, 0, 1, 0] 64 (endK Tryd.prog 0 0 174)) (.exit 0) ⟨qa38, [qa35, (1, some ⟨224, .agg [vU x0, vN], true⟩)], 2, none⟩ = refSomeF_s5 x0 (fun a0 => some (.agg [vU a0, vN], [])) := by kernel_rfl
noncomputable def refSomeF_s1 {R : Type} (s n many : Int) (c0 : Int → Int → List Int → Option R) : Option R :=
  grd (decide (0 ≤ s) && decide (s < 18446744073709551616) && decide (1 ≤ n) && decide (n ≤ 512)) <|
  c0 0 ((shuffleS s n).1) ((shuffleS s n).2)
theorem refSomeF_s1_eq (fuel : Nat)  (s n many : Int) : callN Tryd.prog mode2 T_refIn fuel 174 [vU s, vI n, vI many] [] = refSomeF_s1 s n many (fun a0 a1 a2 => lpN qa36 (qa37 fuel) 4294967616 [1, 2, 6, 7, 8, 9] fuel ⟨[(1, vI n), (2, vI many), (6, .ptr 0 2 0 0), (7, .ptr 1 2 0 0), (8, .ptr 2 2 0 0), (9, vI a0)], [qa35, (1, some ⟨224, .agg [vU a1, vL a2], true⟩), (2, some ⟨224, .agg [vU a1, vN], true⟩)], 3, none⟩ (kont (qa37 fuel) (bodyOf Tryd.prog 174) [1, 1, 1, 0, 1, 0] 64 (endK Tryd.prog 0 0 174))) := by kernel_rfl
noncomputable def refSomeF {R : Type} (fuel : Nat) (s n many : Int) (r0 : Int → List Int → Option R) (r1 : Int → Option R) : Option R :=
  (refSomeF_s1 s n many (fun a0 a1 a2 => (refSomeF_l1 fuel n many (fun x0 x1 x2 => (refSomeF_s4 x0 x2 x1 (fun a3 a4 => r0 a3 a4))) (fun x3 => (refSomeF_s5 x3 (fun a5 => r1 a5))) fuel a0 a1 a2)))
theorem refSomeF_eq (fuel : Nat) (s n many : Int) : callN Tryd.prog mode2 T_refIn fuel 174 [.s (.int .u64 s), .s (.int .i64 n), .s (.int .i64 many)] [] = refSomeF fuel s n many (fun z0 z1 => some (.agg [.s (.int .u64 z0), .li .i64 z1], [])) (fun z0 => some (.agg [.s (.int .u64 z0), .s (.slice none 0 0)], [])) := by
  unfold refSomeF
  exact (refSomeF_s1_eq fuel  s n many).trans (congr (Eq.refl (refSomeF_s1 (R := Out) s n many)) (funext fun a0 => funext fun a1 => funext fun a2 => (refSomeF_l1_eq fuel n many (kont (qa37 fuel) (bodyOf Tryd.prog 174) [1, 1, 1, 0, 1, 0] 64 (endK Tryd.prog 0 0 174)) fuel a0 a1 a2).trans (congrFun (congrFun (congrFun (congrFun (congr (congr (Eq.refl (refSomeF_l1 (R := Out) fuel n many)) (funext fun x0 => funext fun x1 => funext fun x2 => (refSomeF_s4_eq fuel  x0 x2 x1))) (funext fun x3 => (refSomeF_s5_eq fuel  x3))) fuel) a0) a1) a2)))
theorem refSome_more {R : Type} (fuel : Nat) (n many w9 : Int) (w10 : List Int) (hn : n ≤ 512) (h0 : 0 ≤ many) (h1 : many ≤ w10.length) (hl : w10.length ≤ 1000000) (k0 : Nat → List Int → Option R) : ∀ (k j : Nat) (acc : List Int), (j : Int) ≤ n → n < (j : Int) + k → acc.length ≤ j → refSomeF_l2 fuel n many w9 w10 k0 k (j : Int) acc.length acc = k0 (acc ++ pickS (inS w10 many) (n.toNat - j) (j : Int)).length (acc ++ pickS (inS w10 many) (n.toNat - j) (j : Int))
  | 0, j, acc, h2, h3, h4 => by omega
  | k + 1, j, acc, h2, h3, h4 => by
    unfold refSomeF_l2 refSomeF_s3
    rw [br_if]
    by_cases hc : (j : Int) < n
    · rw [if_pos (by simpa using hc), grd_of (by simp; omega), br_if, wrap_i64 (by omega) (by omega), show (j : Int) + 1 = ((j + 1 : Nat) : Int) by omega, show n.toNat - j = (n.toNat - (j + 1)) + 1 by omega, pickS]
      by_cases hp : inS w10 many (j : Int) = true
      · rw [if_pos hp, if_pos hp, grd_of (beq_self _), grd_of (okN_of (by omega) (by omega))]
        dsimp only
        rw [refSome_more fuel n many w9 w10 hn h0 h1 hl k0 k (j + 1) (acc ++ [(j : Int)]) (by omega) (by omega) (by simp; omega), List.append_assoc]
        rfl
      · rw [if_neg hp, if_neg hp]
        exact refSome_more fuel n many w9 w10 hn h0 h1 hl k0 k (j + 1) acc (by omega) (by omega) (by omega)
    · rw [if_neg (by simpa using hc), show n.toNat - j = 0 by omega]
      simp [pickS]
theorem refSome_first {R : Type} (fuel : Nat) (n many w9 : Int) (w10 : List Int) (hn : n ≤ 512) (h0 : 0 ≤ many) (h1 : many ≤ w10.length) (hl : w10.length ≤ 1000000) (k0 : Int → Nat → List Int → Option R) (k1 : Int → Option R) : ∀ (k j : Nat), (j : Int) ≤ n → n < (j : Int) + k →
    refSomeF_l1 fuel n many k0 k1 k (j : Int) w9 w10 = if pickS (inS w10 many) (n.toNat - j) (j : Int) = [] then k1 w9 else k0 w9 (pickS (inS w10 many) (n.toNat - j) (j : Int)).length (pickS (inS w10 many) (n.toNat - j) (j : Int))
  | 0, j, h2, h3 => by omega
  | k + 1, j, h2, h3 => by
    unfold refSomeF_l1 refSomeF_s2
    rw [br_if]
    by_cases hc : (j : Int) < n
    · rw [if_pos (by simpa using hc), grd_of (by simp; omega), br_if, wrap_i64 (by omega) (by omega), show (j : Int) + 1 = ((j + 1 : Nat) : Int) by omega, show n.toNat - j = (n.toNat - (j + 1)) + 1 by omega, pickS]
      by_cases hp : inS w10 many (j : Int) = true
      · rw [if_pos hp, if_pos hp, if_neg (by simp)]
        by_cases hj : (j : Int) + 1 ≤ n ∧ n < (j : Int) + 1 + k
        · exact refSome_more fuel n many w9 w10 hn h0 h1 hl (k0 w9) k (j + 1) [(j : Int)] (by omega) (by omega) (by simp)
        · omega
      · rw [if_neg hp, if_neg hp]
        exact refSome_first fuel n many w9 w10 hn h0 h1 hl k0 k1 k (j + 1) (by omega) (by omega)
    · rw [if_neg (by simpa using hc), show n.toNat - j = 0 by omega]
      simp [pickS]
theorem refSome_fact (s : Int) (n : Int) (many : Int) (hg : ((decide (0 ≤ s) && decide (s < 18446744073709551616) && decide (1 ≤ n) && decide (n ≤ 512)) && decide (0 ≤ many) && decide (many ≤ n)) = true) : Fact Tryd.prog gTab 174 [.s (.int .u64 s), .s (.int .i64 n), .s (.int .i64 many)] [] (.agg [.s (.int .u64 ((shuffleS s n).1)), .li .i64 (someS s n many)], []) := by
  simp only [Bool.and_eq_true, decide_eq_true_eq] at hg
  obtain ⟨⟨⟨⟨⟨h0, h1⟩, hn⟩, hn2⟩, h2⟩, h3⟩ := hg
  have hl := shuffle_len s n
  have hf := fun (k0 : Int → Nat → List Int → Option Out) (k1 : Int → Option Out) => refSome_first 514 n many (shuffleS s n).1 (shuffleS s n).2 hn2 h2 (by omega) (by omega) k0 k1 514 0 (by omega) (by omega)
  rw [Nat.sub_zero, show ((0 : Nat) : Int) = 0 from rfl, ← some_pick h0 h1 hn hn2] at hf
  cases hs : someS s n many with
  | nil =>
    refine Fact.out (v := .agg [.s (.int .u64 (shuffleS s n).1), .s (.slice none 0 0)]) (bs' := []) ?_ (fun _ _ _ x h => RV_agg_two (fun _ h => RVs_two (fun _ h => h) (fun _ h => RVs_two (fun _ h => RV_nil_li h) (fun _ h => h) h) h) h)
    refine callN_fact hN hM T_refIn_ok (n := 514) (mode := mode2) ?_
    rw [refSomeF_eq]
    unfold refSomeF refSomeF_s1
    rw [grd_of (by simp; omega)]
    dsimp only
    rw [hf, hs]
    rfl
  | cons x l =>
    refine callN_fact hN hM T_refIn_ok (n := 514) (mode := mode2) ?_
    rw [refSomeF_eq]
    unfold refSomeF refSomeF_s1
    rw [grd_of (by simp; omega)]
    dsimp only
    rw [hf, hs, if_neg (by simp)]
    unfold refSomeF_s4
    rw [List.drop_zero, List.take_length]
noncomputable def refSome_ent : List V → List Blk → Option (Bool × Out)
  | [.s (.int .u64 s), .s (.int .i64 n), .s (.int .i64 many)], [] => some (((decide (0 ≤ s) && decide (s < 18446744073709551616) && decide (1 ≤ n) && decide (n ≤ 512)) && decide (0 ≤ many) && decide (many ≤ n)), (.agg [.s (.int .u64 ((shuffleS s n).1)), .li .i64 (someS s n many)], []))
  | _, _ => none
theorem refSome_ok : ∀ args bs out, refSome_ent args bs = some (true, out) → Fact Tryd.prog gTab 174 args bs out := by
  intro args bs out h
  unfold refSome_ent at h
  split at h
  · rename_i s n many
    simp only [Option.some.injEq, Prod.mk.injEq] at h
    obtain ⟨hg, rfl⟩ := h
    exact refSome_fact s n many hg
  · cases h
noncomputable def T_refSome : Tbl := Tbl.cons 174 refSome_ent T_refIn
theorem T_refSome_ok : CallOk Tryd.prog gTab T_refSome := cons_ok T_refIn_ok refSome_ok
/-! downpour/downpourref01.Numbers -/
noncomputable abbrev qa39 (fuel : Nat) : Ctx Out := (fnX Tryd.prog mode2 T_refSome fuel 26 0)
noncomputable def refNumbersF_s2 {R : Type} (w6 w5 : Int) (a b : List Int) (c0 : Option R) (c1 : Int → Int → Option R) (c2 : Option R) : Option R :=
  br (decide (w6 < w5))
    (bnd (ix a w6) fun e9 =>
    bnd (ix b w6) fun e0 =>
    br (e9 != e0)
      (c0)
      (c1 w5 (IntKind.i64.wrap (w6 + 1))))
    (c2)
theorem refNumbersF_s2_eq (fuel k : Nat) (K : Ex → St → Option Out) (w6 w5 : Int) (a b : List Int) : lpN (sub (bodyOf Tryd.prog 36) [1, 1, 0, 1, 0, 0]) (qa39 fuel) 16 [0, 1, 4, 12, 13] (k + 1) ⟨[(0, vL a), (1, vL b), (4, vB false), (12, vI w5), (13, vI w6)], [], 0, none⟩ K = refNumbersF_s2 w6 w5 a b (K .ret ⟨[(4, vB false)], [], 0, none⟩) (fun a0 a1 => lpN (sub (bodyOf Tryd.prog 36) [1, 1, 0, 1, 0, 0]) (qa39 fuel) 16 [0, 1, 4, 12, 13] k ⟨[(0, vL a), (1, vL b), (4, vB false), (12, vI a0), (13, vI a1)], [], 0, none⟩ K) (K (.exit 0) ⟨[(4, vB false)], [], 0, none⟩) := by kernel_rfl
noncomputable def refNumbersF_l1 {R : Type} (fuel : Nat) (a b : List Int) (k0 k1 : Option R) : Nat → Int → Int → Option R
  | 0, _, _ => none
  | k + 1, w5, w6 =>
    (refNumbersF_s2 w6 w5 a b (k0) (fun a0 a1 => ( refNumbersF_l1 fuel a b k0 k1 k a0 a1 )) (k1))
theorem refNumbersF_l1_eq (fuel : Nat) (a b : List Int) (K : Ex → St → Option Out) : ∀ (k : Nat) (w5 w6 : Int), lpN (sub (bodyOf Tryd.prog 36) [1, 1, 0, 1, 0, 0]) (qa39 fuel) 16 [0, 1, 4, 12, 13] k ⟨[(0, vL a), (1, vL b), (4, vB false), (12, vI w5), (13, vI w6)], [], 0, none⟩ K = refNumbersF_l1 fuel a b (K .ret ⟨[(4, vB false)], [], 0, none⟩) (K (.exit 0) ⟨[(4, vB false)], [], 0, none⟩) k w5 w6
  | 0, _, _ => rfl
  | k + 1, w5, w6 => by
    unfold refNumbersF_l1
    exact (refNumbersF_s2_eq fuel k K w6 w5 a b).trans (congr (congr (congr (Eq.refl (refNumbersF_s2 (R := Out) w6 w5 a b)) (rfl)) (funext fun a0 => funext fun a1 => refNumbersF_l1_eq fuel a b K k a0 a1)) (rfl))
noncomputable def refNumbersF_s3 {R : Type}  (c0 : Bool → Option R) : Option R :=
  c0 false
theorem refNumbersF_s3_eq (fuel : Nat)   : (kont (qa39 fuel) (bodyOf Tryd.prog 36) [1, 1, 0, 1, 0] 16 (endK Tryd.prog 0 0 36)) .ret ⟨[(4, vB false)], [], 0, none⟩ = refNumbersF_s3  (fun a0 => some (vB a0, [])) := by kernel_rfl
noncomputable def refNumbersF_s4 {R : Type}  (c0 : Bool → Option R) : Option R :=
  c0 true
theorem refNumbersF_s4_eq (fuel : Nat)   : (kont (qa39 fuel) (bodyOf Tryd.prog 36) [1, 1, 0, 1, 0] 16 (endK Tryd.prog 0 0 36)) (.exit 0) ⟨[(4, vB false)], [], 0, none⟩ = refNumbersF_s4  (fun a0 => some (vB a0, [])) := by kernel_rfl
noncomputable def refNumbersF_s1 {R : Type} (a b : List Int) (c0 : Bool → Option R) (c1 : Int → Int → Option R) : Option R :=
  br ((((a.length : Nat) : Int) : Int) != ((b.length : Nat) : Int))
    (c0 false)
    (c1 ((a.length : Nat) : Int) 0)
theorem refNumbersF_s1_eq (fuel : Nat)  (a b : List Int) : callN Tryd.prog mode2 T_refSome fuel 36 [vL a, vL b] [] = refNumbersF_s1 a b (fun a1 => some (vB a1, [])) (fun a0 a2 => lpN (sub (bodyOf Tryd.prog 36) [1, 1, 0, 1, 0, 0]) (qa39 fuel) 16 [0, 1, 4, 12, 13] fuel ⟨[(0, vL a), (1, vL b), (4, vB false), (12, vI a0), (13, vI a2)], [], 0, none⟩ (kont (qa39 fuel) (bodyOf Tryd.prog 36) [1, 1, 0, 1, 0] 16 (endK Tryd.prog 0 0 36))) := by kernel_rfl
noncomputable def refNumbersF {R : Type} (fuel : Nat) (a b : List Int) (r0 : Bool → Option R) : Option R :=
  (refNumbersF_s1 a b (fun a1 => r0 a1) (fun a0 a2 => (refNumbersF_l1 fuel a b ((refNumbersF_s3 (fun a3 => r0 a3))) ((refNumbersF_s4 (fun a4 => r0 a4))) fuel a0 a2)))
theorem refNumbersF_eq (fuel : Nat) (a b : List Int) : callN Tryd.prog mode2 T_refSome fuel 36 [.li .i64 a, .li .i64 b] [] = refNumbersF fuel a b (fun z0 => some (.s (.bool z0), [])) := by
  unfold refNumbersF
  exact (refNumbersF_s1_eq fuel  a b).trans (congr (congr (Eq.refl (refNumbersF_s1 (R := Out) a b)) (rfl)) (funext fun a0 => funext fun a1 => (refNumbersF_l1_eq fuel a b (kont (qa39 fuel) (bodyOf Tryd.prog 36) [1, 1, 0, 1, 0] 16 (endK Tryd.prog 0 0 36)) fuel a0 a1).trans (congrFun (congrFun (congrFun (congr (congr (Eq.refl (refNumbersF_l1 (R := Out) fuel a b)) ((refNumbersF_s3_eq fuel  ))) ((refNumbersF_s4_eq fuel  ))) fuel) a0) a1)))
theorem refNumbers_loop {R : Type} (fuel : Nat) (a b : List Int) (hab : a.length = b.length) (hx : a.length ≤ 1000000) (k0 k1 : Option R) : ∀ (k j : Nat), j ≤ a.length → a.length < j + k → refNumbersF_l1 fuel a b k0 k1 k (a.length : Int) (j : Int) = if a.drop j = b.drop j then k1 else k0
  | 0, j, h1, h2 => by omega
  | k + 1, j, h1, h2 => by
    unfold refNumbersF_l1 refNumbersF_s2
    rw [br_if]
    by_cases hc : j < a.length
    · have hc2 : j < b.length := by omega
      rw [if_pos (by simpa using hc), bnd_of ((ix_nat a j).trans (List.getElem?_eq_getElem hc)), bnd_of ((ix_nat b j).trans (List.getElem?_eq_getElem hc2)), br_if, List.drop_eq_getElem_cons hc, List.drop_eq_getElem_cons hc2, wrap_i64 (by omega) (by omega), show (j : Int) + 1 = ((j + 1 : Nat) : Int) by omega]
      dsimp only
      rw [refNumbers_loop fuel a b hab hx k0 k1 k (j + 1) (by omega) (by omega)]
      generalize a[j] = x
      generalize b[j] = y
      generalize a.drop (j + 1) = t
      generalize b.drop (j + 1) = u
      by_cases he : x = y <;> simp [he]
    · rw [if_neg (by simpa using hc), List.drop_eq_nil_of_le (by omega), List.drop_eq_nil_of_le (by omega)]
      simp
theorem refNumbers_fact (a : List Int) (b : List Int) (hg : (decide (a.length ≤ 1000000)) = true) : Fact Tryd.prog gTab 36 [.li .i64 a, .li .i64 b] [] (.s (.bool (eqS_li a b)), []) := by
  have hg := of_decide_eq_true hg
  refine callN_fact hN hM T_refSome_ok (n := a.length + 1) (mode := mode2) ?_
  rw [refNumbersF_eq]
  unfold refNumbersF refNumbersF_s1
  rw [br_if]
  by_cases hab : a.length = b.length
  · rw [if_neg (by simp; omega)]
    dsimp only
    have := refNumbers_loop (R := Out) (a.length + 1) a b hab hg
    rw [show (0 : Int) = ((0 : Nat) : Int) from rfl, this _ _ _ _ (by omega) (by omega), List.drop_zero, List.drop_zero, eqS_li_eq]
    unfold eqI_li refNumbersF_s3 refNumbersF_s4
    by_cases h : a = b <;> simp [h]
  · rw [if_pos (by simp; omega), eqS_li_eq]
    unfold eqI_li
    have : a ≠ b := by rintro rfl; exact hab rfl
    simp [this]
noncomputable def refNumbers_ent : List V → List Blk → Option (Bool × Out)
  | [w0, w1], [] => (asSl (.int .i64) w0).bind fun a => (asSl (.int .i64) w1).bind fun b => some ((decide (a.length ≤ 1000000)), (.s (.bool (eqS_li a b)), []))
  | _, _ => none
theorem refNumbers_ok : ∀ args bs out, refNumbers_ent args bs = some (true, out) → Fact Tryd.prog gTab 36 args bs out := by
  intro args bs out h
  unfold refNumbers_ent at h
  split at h
  · rename_i w0 w1
    obtain ⟨a, h_a, h⟩ := Option.bind_eq_some_iff.1 h
    obtain ⟨b, h_b, h⟩ := Option.bind_eq_some_iff.1 h
    simp only [Option.some.injEq, Prod.mk.injEq] at h
    obtain ⟨hg, rfl⟩ := h
    exact (refNumbers_fact a b hg).args (fun _ _ _ => fun _ h => RVs_two (fun _ h => RV_li h_a h) (fun _ h => RVs_two (fun _ h => RV_li h_b h) (fun _ h => h) h) h)
  · cases h
noncomputable def T_refNumbers : Tbl := Tbl.cons 36 refNumbers_ent T_refSome
theorem T_refNumbers_ok : CallOk Tryd.prog gTab T_refNumbers := cons_ok T_refSome_ok refNumbers_ok
def mode3 : FuncId → Nat := fun f => bif Nat.beq f 161 then 2 else 0
/-! downpour/bitrow.sized -/
noncomputable def rsizedF_s1 {R : Type} (n : Int) (c0 : Bool → Option R) : Option R :=
  br (decide (n ≥ 0))
    (c0 (decide (n ≤ 512)))
    (c0 false)
theorem rsizedF_s1_eq (fuel : Nat)  (n : Int) : callN Tryd.prog mode3 T_refNumbers fuel 124 [vI n] [] = rsizedF_s1 n (fun a1 => some (vB a1, [])) := by kernel_rfl
noncomputable def rsizedF {R : Type} (fuel : Nat) (n : Int) (r0 : Bool → Option R) : Option R :=
  (rsizedF_s1 n (fun a1 => r0 a1))
theorem rsizedF_eq (fuel : Nat) (n : Int) : callN Tryd.prog mode3 T_refNumbers fuel 124 [.s (.int .i64 n)] [] = rsizedF fuel n (fun z0 => some (.s (.bool z0), [])) := by
  unfold rsizedF
  exact (rsizedF_s1_eq fuel  n)
theorem rsized_fact (n : Int) : Fact Tryd.prog gTab 124 [.s (.int .i64 n)] [] (.s (.bool (szB n)), []) := by
  refine callN_fact hN hM T_refNumbers_ok (n := 0) (mode := mode3) ?_
  rw [rsizedF_eq]
  unfold rsizedF rsizedF_s1 szB
  rw [br_if]
  by_cases h : 0 ≤ n
  · simp [h]
  · simp [h]
noncomputable def rsized_ent : List V → List Blk → Option (Bool × Out)
  | [.s (.int .i64 n)], [] => some (true, (.s (.bool (szB n)), []))
  | _, _ => none
theorem rsized_ok : ∀ args bs out, rsized_ent args bs = some (true, out) → Fact Tryd.prog gTab 124 args bs out := by
  intro args bs out h
  unfold rsized_ent at h
  split at h
  · rename_i n
    simp only [Option.some.injEq, Prod.mk.injEq] at h
    obtain ⟨_, rfl⟩ := h
    exact rsized_fact n
  · cases h
noncomputable def T_rsized : Tbl := Tbl.cons 124 rsized_ent T_refNumbers
theorem T_rsized_ok : CallOk Tryd.prog gTab T_rsized := cons_ok T_refNumbers_ok rsized_ok
/-! downpour/bitrow.fresh -/
noncomputable def freshF_s1 {R : Type} (n : Int) (c0 : Int → Nat → Nat → List Int → Option R) : Option R :=
  bnd (divI .quo .i64 (IntKind.i64.wrap ((IntKind.i64.wrap (n + 64)) - 1)) 64) fun v1 =>
  bnd (mkN v1 v1 8) fun n2 =>
  c0 n 0 n2 (List.replicate n2 (0 : Int))
theorem freshF_s1_eq (fuel : Nat)  (n : Int) : callN Tryd.prog mode3 T_rsized fuel 161 [vI n] [] = freshF_s1 n (fun a3 a4 a5 a6 => some (.agg [vI a3, .sl 0 1 a4 a5], [some ⟨79, vW a6, true⟩])) := by kernel_rfl
noncomputable def freshF {R : Type} (fuel : Nat) (n : Int) (r0 : Int → Nat → Nat → List Int → Option R) : Option R :=
  (freshF_s1 n (fun a3 a4 a5 a6 => r0 a3 a4 a5 a6))
theorem freshF_eq (fuel : Nat) (n : Int) : callN Tryd.prog mode3 T_rsized fuel 161 [.s (.int .i64 n)] [] = freshF fuel n (fun z0 z1 z2 z3 => some (.agg [.s (.int .i64 z0), .sl 0 1 z1 z2], [some ⟨79, .li .u64 z3, true⟩])) := by
  unfold freshF
  exact (freshF_s1_eq fuel  n)
theorem count_words {n : Int} (h0 : 0 ≤ n) (h1 : n ≤ 512) : divI .quo .i64 (IntKind.i64.wrap (IntKind.i64.wrap (n + 64) - 1)) 64 = some ((nw n : Nat) : Int) := by
  rw [wrap_i64 (x := n + 64) (by omega) (by omega), wrap_i64 (by omega) (by omega), quo_i64 (by omega) (by omega) (by decide), nw_cast h0]
  congr 2
  omega
theorem fresh_fact (n : Int) (hg : (szB n) = true) : Fact Tryd.prog gTab 161 [.s (.int .i64 n)] [] (.agg [.s (.int .i64 n), .sl 0 1 0 (nw n)], [some ⟨79, .li .u64 (zerosS (nw n)), true⟩]) := by
  obtain ⟨h0, h1⟩ := szB_iff.1 hg
  refine callN_fact hN hM T_rsized_ok (n := 0) (mode := mode3) ?_
  rw [freshF_eq]
  unfold freshF freshF_s1
  have hl := nw_le h1
  rw [count_words h0 h1, bnd_some, bnd_of (mkN_of (by omega) (by omega) (by omega)), Int.toNat_natCast, zerosS_eq]
  rfl
noncomputable def fresh_ent : List V → List Blk → Option (Bool × Out)
  | [.s (.int .i64 n)], [] => some ((szB n), (.agg [.s (.int .i64 n), .sl 0 1 0 (nw n)], [some ⟨79, .li .u64 (zerosS (nw n)), true⟩]))
  | _, _ => none
theorem fresh_ok : ∀ args bs out, fresh_ent args bs = some (true, out) → Fact Tryd.prog gTab 161 args bs out := by
  intro args bs out h
  unfold fresh_ent at h
  split at h
  · rename_i n
    simp only [Option.some.injEq, Prod.mk.injEq] at h
    obtain ⟨hg, rfl⟩ := h
    exact fresh_fact n hg
  · cases h
noncomputable def T_fresh : Tbl := Tbl.cons 161 fresh_ent T_rsized
theorem T_fresh_ok : CallOk Tryd.prog gTab T_fresh := cons_ok T_rsized_ok fresh_ok
/-! downpour/bitrow.Right -/
noncomputable def rightF_s1 {R : Type} (n : Int) (ws : List Int) (c0 : Bool → Option R) : Option R :=
  br (!(szB n))
    (c0 false)
    (bnd (divI .quo .i64 (IntKind.i64.wrap ((IntKind.i64.wrap (n + 64)) - 1)) 64) fun v2 =>
    br (((ws.length : Nat) : Int) != v2)
      (c0 false)
      (bnd (divI .rem .i64 n 64) fun v4 =>
      br (v4 == 0)
        (c0 true)
        (bnd (ix ws (IntKind.i64.wrap (((ws.length : Nat) : Int) - 1))) fun e6 =>
        bnd (divI .rem .i64 n 64) fun v7 =>
        bnd (shfI .shr .u64 e6 v7) fun v8 =>
        c0 (v8 == 0))))
theorem rightF_s1_eq (fuel : Nat)  (n : Int) (ws : List Int) : callN Tryd.prog mode3 T_fresh fuel 76 [.agg [vI n, vW ws]] [] = rightF_s1 n ws (fun a1 => some (vB a1, [])) := by kernel_rfl
noncomputable def rightF {R : Type} (fuel : Nat) (n : Int) (ws : List Int) (r0 : Bool → Option R) : Option R :=
  (rightF_s1 n ws (fun a1 => r0 a1))
theorem rightF_eq (fuel : Nat) (n : Int) (ws : List Int) : callN Tryd.prog mode3 T_fresh fuel 76 [.agg [.s (.int .i64 n), .li .u64 ws]] [] = rightF fuel n ws (fun z0 => some (.s (.bool z0), [])) := by
  unfold rightF
  exact (rightF_s1_eq fuel  n ws)
theorem right_fact (n : Int) (ws : List Int) (hg : (okW ws) = true) : Fact Tryd.prog gTab 76 [.agg [.s (.int .i64 n), .li .u64 ws]] [] (.s (.bool (rtS n ws)), []) := by
  have hok := okW_iff.1 hg
  refine callN_fact hN hM T_fresh_ok (n := 0) (mode := mode3) ?_
  rw [rightF_eq]
  unfold rightF rightF_s1
  by_cases hs : szB n = true
  · obtain ⟨h0, h1⟩ := szB_iff.1 hs
    have hw := nw_cast h0
    rw [hs, br_if, if_neg (by decide), count_words h0 h1, bnd_some, br_if]
    by_cases hl : ws.length = nw n
    · rw [if_neg (by simp [hl]), bnd_of (rem_pos h0 (by decide)), br_if]
      obtain ⟨j, rfl⟩ : ∃ j : Nat, n = (j : Int) := ⟨n.toNat, by omega⟩
      have hlt := val_lt hok
      by_cases hm : (j : Int) % 64 = 0
      · rw [if_pos (by simpa using hm)]
        have : rtS (j : Int) ws = true := rtS_iff.2 ⟨⟨h0, h1⟩, hl, by rw [Int.toNat_natCast]; rwa [show 64 * ws.length = j by omega] at hlt⟩
        rw [this]
      · rw [if_neg (by simpa using hm)]
        have hpos : 0 < ws.length := by omega
        have hi : IntKind.i64.wrap (((ws.length : Nat) : Int) - 1) = ((ws.length - 1 : Nat) : Int) := by rw [wrap_i64 (by omega) (by omega)]; omega
        have hget : ws[ws.length - 1]? = some (ws.getD (ws.length - 1) 0) := by rw [List.getD_eq_getElem?_getD, List.getElem?_eq_getElem (by omega)]; rfl
        have hr := hok.getD (ws.length - 1)
        rw [hi, bnd_of ((ix_nat _ _).trans hget), bnd_of (rem_pos h0 (by decide)), show (j : Int) % 64 = ((j % 64 : Nat) : Int) by omega, bnd_of (shr_nat hr.1 (Nat.mod_lt _ (by decide)))]
        have hli := last_iff hok hpos (n := j) (by omega)
        rw [show j - 64 * (ws.length - 1) = j % 64 by omega] at hli
        refine congrArg (fun b => (some (V.s (.bool b), []) : Option Out)) ?_
        rw [Bool.eq_iff_iff, rtS_iff]
        simp only [beq_iff_eq]
        constructor
        · intro h
          exact ⟨⟨h0, h1⟩, hl, by rw [Int.toNat_natCast]; exact hli.1 (by omega)⟩
        · rintro ⟨_, _, h⟩
          rw [Int.toNat_natCast] at h
          have := hli.2 h
          omega
    · rw [if_pos (by simp; omega)]
      have : rtS n ws = false := by rw [Bool.eq_false_iff]; intro h; exact hl (rtS_iff.1 h).2.1
      rw [this]
  · rw [br_if, if_pos (by simpa using hs)]
    have : rtS n ws = false := by rw [Bool.eq_false_iff]; intro h; exact hs (szB_iff.2 (rtS_iff.1 h).1)
    rw [this]
noncomputable def right_ent : List V → List Blk → Option (Bool × Out)
  | [.agg [.s (.int .i64 n), w0]], [] => (asSl (.int .u64) w0).bind fun ws => some ((okW ws), (.s (.bool (rtS n ws)), []))
  | _, _ => none
theorem right_ok : ∀ args bs out, right_ent args bs = some (true, out) → Fact Tryd.prog gTab 76 args bs out := by
  intro args bs out h
  unfold right_ent at h
  split at h
  · rename_i n w0
    obtain ⟨ws, h_ws, h⟩ := Option.bind_eq_some_iff.1 h
    simp only [Option.some.injEq, Prod.mk.injEq] at h
    obtain ⟨hg, rfl⟩ := h
    exact (right_fact n ws hg).args (fun _ _ _ => fun _ h => RVs_two (fun _ h => RV_agg_two (fun _ h => RVs_two (fun _ h => h) (fun _ h => RVs_two (fun _ h => RV_li h_ws h) (fun _ h => h) h) h) h) (fun _ h => h) h)
  · cases h
noncomputable def T_right : Tbl := Tbl.cons 76 right_ent T_fresh
theorem T_right_ok : CallOk Tryd.prog gTab T_right := cons_ok T_fresh_ok right_ok
/-! downpour/bitrow.Of -/
noncomputable abbrev qa40 : Nat × Option Blk := (0, some ⟨44, .agg [vI 0, vN], true⟩)
noncomputable abbrev qa41 (fuel : Nat) : Ctx Out := (fnX Tryd.prog mode3 T_right fuel 42 0)
noncomputable abbrev qa42 : Code := (sub (bodyOf Tryd.prog 139) [1, 1, 1, 0, 1, 0, 0])
noncomputable abbrev qa43 : Nat × V := (4, .ptr 0 2 0 0)
noncomputable abbrev qa44 : Nat × V := (6, .ptr 1 2 0 0)
noncomputable def rowOfF_s2 {R : Type} (w0 w1 : Int) (l : List Int) (w2 : Nat) (w3 : List Int) (n : Int) (c0 c1 : Nat → List Int → Option R) (c2 : Int → Int → Nat → List Int → Option R) (c3 : Nat → List Int → Option R) : Option R :=
  br (decide (w0 < w1))
    (bnd (ix l w0) fun e0 =>
    br (decide (e0 < 0))
      (c0 w2 w3)
      (br (decide (e0 ≥ n))
        (c1 w2 w3)
        (bnd (divI .quo .i64 e0 64) fun v35 =>
        bnd (below v35 w2) fun j0 =>
        bnd (w3[(0 + j0)]?) fun e1 =>
        bnd (divI .rem .i64 e0 64) fun v38 =>
        bnd (shfI .shl .u64 1 v38) fun v39 =>
        bnd (below v35 w2) fun j1 =>
        bnd (w3[(0 + j1)]?) fun e2 =>
        c2 w1 (IntKind.i64.wrap (w0 + 1)) w2 (w3.set (0 + j1) (orI .u64 e1 v39)))))
    (c3 w2 w3)
theorem rowOfF_s2_eq (fuel k : Nat) (K : Ex → St → Option Out) (w0 w1 : Int) (l : List Int) (w2 : Nat) (w3 : List Int) (n : Int) : lpN qa42 (qa41 fuel) 2199023255664 [0, 4, 5, 6, 15, 16, 17] (k + 1) ⟨[(0, vI n), qa43, (5, vI 0), qa44, (15, vL l), (16, vI w1), (17, vI w0)], [qa40, (1, some ⟨44, .agg [vI n, .sl 2 1 0 w2], true⟩), (2, some ⟨79, vW w3, true⟩)], 3, none⟩ K = rowOfF_s2 w0 w1 l w2 w3 n (fun a0 a1 => K .ret ⟨[qa43, (5, vI 3), qa44], [qa40, (1, some ⟨44, .agg [vI n, .sl 2 1 0 a0], true⟩), (2, some ⟨79, vW a1, true⟩)], 3, none⟩) (fun a2 a3 => K .ret ⟨[qa43, (5, vI 3), qa44], [qa40, (1, some ⟨44, .agg [vI n, .sl 2 1 0 a2], true⟩), (2, some ⟨79, vW a3, true⟩)], 3, none⟩) (fun a4 a5 a6 a7 => lpN qa42 (qa41 fuel) 2199023255664 [0, 4, 5, 6, 15, 16, 17] k ⟨[(0, vI n), qa43, (5, vI 0), qa44, (15, vL l), (16, vI a4), (17, vI a5)], [qa40, (1, some ⟨44, .agg [vI n, .sl 2 1 0 a6], true⟩), (2, some ⟨79, vW a7, true⟩)], 3, none⟩ K) (fun a8 a9 => K (.exit 0) ⟨[qa43, (5, vI 0), qa44], [qa40, (1, some ⟨44, .agg [vI n, .sl 2 1 0 a8], true⟩), (2, some ⟨79, vW a9, true⟩)], 3, none⟩) := by kernel_rfl
noncomputable def rowOfF_l1 {R : Type} (fuel : Nat) (n : Int) (l : List Int) (k0 k1 : Nat → List Int → Option R) : Nat → Int → Int → Nat → List Int → Option R
  | 0, _, _, _, _ => none
  | k + 1, w0, w1, w2, w3 =>
    (rowOfF_s2 w1 w0 l w2 w3 n (fun a0 a1 => k0 a0 a1) (fun a2 a3 => k0 a2 a3) (fun a4 a5 a6 a7 => ( rowOfF_l1 fuel n l k0 k1 k a4 a5 a6 a7 )) (fun a8 a9 => k1 a8 a9))
theorem rowOfF_l1_eq (fuel : Nat) (n : Int) (l : List Int) (K : Ex → St → Option Out) : ∀ (k : Nat) (w0 w1 : Int) (w2 : Nat) (w3 : List Int), lpN qa42 (qa41 fuel) 2199023255664 [0, 4, 5, 6, 15, 16, 17] k ⟨[(0, vI n), qa43, (5, vI 0), qa44, (15, vL l), (16, vI w0), (17, vI w1)], [qa40, (1, some ⟨44, .agg [vI n, .sl 2 1 0 w2], true⟩), (2, some ⟨79, vW w3, true⟩)], 3, none⟩ K = rowOfF_l1 fuel n l (fun y0 y1 => K .ret ⟨[qa43, (5, vI 3), qa44], [qa40, (1, some ⟨44, .agg [vI n, .sl 2 1 0 y0], true⟩), (2, some ⟨79, vW y1, true⟩)], 3, none⟩) (fun y2 y3 => K (.exit 0) ⟨[qa43, (5, vI 0), qa44], [qa40, (1, some ⟨44, .agg [vI n, .sl 2 1 0 y2], true⟩), (2, some ⟨79, vW y3, true⟩)], 3, none⟩) k w0 w1 w2 w3
  | 0, _, _, _, _ => rfl
  | k + 1, w0, w1, w2, w3 => by
    unfold rowOfF_l1
    exact (rowOfF_s2_eq fuel k K w1 w0 l w2 w3 n).trans (congr (congr (congr (congr (Eq.refl (rowOfF_s2 (R := Out) w1 w0 l w2 w3 n)) (rfl)) (rfl)) (funext fun a0 => funext fun a1 => funext fun a2 => funext fun a3 => rowOfF_l1_eq fuel n l K k a0 a1 a2 a3)) (rfl))
noncomputable def rowOfF_s3 {R : Type} (n : Int) (x0 : Nat) (x1 : List Int) (c0 : Int → Int → Option R) : Option R :=
  c0 0 3
theorem rowOfF_s3_eq (fuel : Nat)  (n : Int) (x0 : Nat) (x1 : List Int) : (kont (qa41 fuel) (bodyOf Tryd.prog 139) [1, 1, 1, 0, 1, 0] 48 (endK Tryd.prog 0 0 139)) .ret ⟨[qa43, (5, vI 3), qa44], [qa40, (1, some ⟨44, .agg [vI n, .sl 2 1 0 x0], true⟩), (2, some ⟨79, vW x1, true⟩)], 3, none⟩ = rowOfF_s3 n x0 x1 (fun a0 a1 => some (.tup [.agg [vI a0, vN], vI a1], [])) := by kernel_rfl
noncomputable def rowOfF_s4 {R : Type} (n : Int) (x0 : List Int) (x1 : Nat) (c0 : Int → List Int → Int → Option R) : Option R :=
  c0 n ((x0.drop 0).take x1) 0
theorem rowOfF_s4_eq (fuel : Nat)  (n : Int) (x0 : List Int) (x1 : Nat) : (kont (qa41 fuel) (bodyOf Tryd.prog 139) [1, 1, 1, 0, 1, 0] 48 (endK Tryd.prog 0 0 139)) (.exit 0) ⟨[qa43, (5, vI 0), qa44], [qa40, (1, some ⟨44, .agg [vI n, .sl 2 1 0 x1], true⟩), (2, some ⟨79, vW x0, true⟩)], 3, none⟩ = rowOfF_s4 n x0 x1 (fun a0 a1 a2 => some (.tup [.agg [vI a0, vW a1], vI a2], [])) := by kernel_rfl
noncomputable def rowOfF_s1 {R : Type} (n : Int) (l : List Int) (c0 : Int → Int → Option R) (c1 : Int → Int → Nat → List Int → Option R) : Option R :=
  br (!(szB n))
    (c0 0 2)
    (grd (szB n) <|
    c1 ((l.length : Nat) : Int) 0 (nw n) (zerosS (nw n)))
theorem rowOfF_s1_eq (fuel : Nat)  (n : Int) (l : List Int) : callN Tryd.prog mode3 T_right fuel 139 [vI n, vL l] [] = rowOfF_s1 n l (fun a1 a2 => some (.tup [.agg [vI a1, vN], vI a2], [])) (fun a0 a3 a4 a5 => lpN qa42 (qa41 fuel) 2199023255664 [0, 4, 5, 6, 15, 16, 17] fuel ⟨[(0, vI n), qa43, (5, vI 0), qa44, (15, vL l), (16, vI a0), (17, vI a3)], [qa40, (1, some ⟨44, .agg [vI n, .sl 2 1 0 a4], true⟩), (2, some ⟨79, vW a5, true⟩)], 3, none⟩ (kont (qa41 fuel) (bodyOf Tryd.prog 139) [1, 1, 1, 0, 1, 0] 48 (endK Tryd.prog 0 0 139))) := by kernel_rfl
noncomputable def rowOfF {R : Type} (fuel : Nat) (n : Int) (l : List Int) (r0 : Int → Int → Option R) (r1 : Int → List Int → Int → Option R) : Option R :=
  (rowOfF_s1 n l (fun a1 a2 => r0 a1 a2) (fun a0 a3 a4 a5 => (rowOfF_l1 fuel n l (fun x0 x1 => (rowOfF_s3 n x0 x1 (fun a6 a7 => r0 a6 a7))) (fun x2 x3 => (rowOfF_s4 n x3 x2 (fun a8 a9 a60 => r1 a8 a9 a60))) fuel a0 a3 a4 a5)))
theorem rowOfF_eq (fuel : Nat) (n : Int) (l : List Int) : callN Tryd.prog mode3 T_right fuel 139 [.s (.int .i64 n), .li .i64 l] [] = rowOfF fuel n l (fun z0 z1 => some (.tup [.agg [.s (.int .i64 z0), .s (.slice none 0 0)], .s (.int .i64 z1)], [])) (fun z0 z1 z2 => some (.tup [.agg [.s (.int .i64 z0), .li .u64 z1], .s (.int .i64 z2)], [])) := by
  unfold rowOfF
  exact (rowOfF_s1_eq fuel  n l).trans (congr (congr (Eq.refl (rowOfF_s1 (R := Out) n l)) (rfl)) (funext fun a0 => funext fun a1 => funext fun a2 => funext fun a3 => (rowOfF_l1_eq fuel n l (kont (qa41 fuel) (bodyOf Tryd.prog 139) [1, 1, 1, 0, 1, 0] 48 (endK Tryd.prog 0 0 139)) fuel a0 a1 a2 a3).trans (congrFun (congrFun (congrFun (congrFun (congrFun (congr (congr (Eq.refl (rowOfF_l1 (R := Out) fuel n l)) (funext fun x0 => funext fun x1 => (rowOfF_s3_eq fuel  n x0 x1))) (funext fun x2 => funext fun x3 => (rowOfF_s4_eq fuel  n x3 x2))) fuel) a0) a1) a2) a3)))
theorem rowOf_loop {R : Type} (fuel : Nat) (n : Int) (l : List Int) (h0 : 0 ≤ n) (h1 : n ≤ 512) (hl : l.length ≤ 1000000) (k0 k1 : Nat → List Int → Option R) (r : Option R) (hr0 : (¬ ∀ z ∈ l, 0 ≤ z ∧ z < n) → ∀ a b, k0 a b = r)
    (hr1 : (∀ z ∈ l, 0 ≤ z ∧ z < n) → k1 (nw n) (ofS n l) = r) : ∀ (k i : Nat) (ws : List Int), i ≤ l.length → l.length < i + k → Ok ws → ws.length = nw n →
    (∀ z ∈ l.take i, 0 ≤ z ∧ z < n) → (∀ j, (val ws).testBit j = decide ((j : Int) ∈ l.take i)) → rowOfF_l1 fuel n l k0 k1 k (l.length : Int) (i : Int) (nw n) ws = r
  | 0, i, ws, hi, hk, _, _, _, _ => by omega
  | k + 1, i, ws, hi, hk, hok, hlen, hr, hb => by
    have hw := nw_cast h0
    unfold rowOfF_l1 rowOfF_s2
    rw [br_if]
    by_cases hc : i < l.length
    · have hm := List.getElem_mem hc
      have htk : ∀ z, z ∈ l.take (i + 1) ↔ z ∈ l.take i ∨ z = l[i] := fun z => by
        rw [List.take_succ_eq_append_getElem hc, List.mem_append, List.mem_singleton]
      rw [if_pos (by simpa using hc), bnd_of ((ix_nat l i).trans (List.getElem?_eq_getElem hc)), br_if]
      by_cases hz : 0 ≤ l[i] ∧ l[i] < n
      · rw [if_neg (by simp; omega), br_if, if_neg (by simp; omega)]
        obtain ⟨b, hbz⟩ : ∃ b : Nat, l[i] = (b : Int) := ⟨l[i].toNat, by omega⟩
        rw [hbz] at hz htk ⊢
        have hj : b / 64 < ws.length := by omega
        have e1 : divI .quo .i64 (b : Int) 64 = some ((b / 64 : Nat) : Int) := by rw [quo_i64 (by omega) (by omega) (by decide)]; norm_cast
        have e2 : divI .rem .i64 (b : Int) 64 = some ((b % 64 : Nat) : Int) := by rw [rem_pos (by omega) (by decide)]; norm_cast
        have e3 : below ((b / 64 : Nat) : Int) (nw n) = some (b / 64) := by rw [below_of (by omega) (by omega)]; rfl
        have e4 : ws[b / 64]? = some (ws.getD (b / 64) 0) := by rw [List.getD_eq_getElem?_getD, List.getElem?_eq_getElem hj]; rfl
        have hg := hok.getD (b / 64)
        have hb64 : b % 64 < 64 := Nat.mod_lt _ (by decide)
        have hp : 2 ^ (b % 64) < 2 ^ 64 := Nat.pow_lt_pow_right (by omega) hb64
        have hor : orI .u64 (ws.getD (b / 64) 0) ((2 ^ (b % 64) : Nat) : Int) = (((ws.getD (b / 64) 0).toNat ||| 2 ^ (b % 64) : Nat) : Int) := by
          rw [orI_nat hg.1 hg.2 (Int.natCast_nonneg _) (by generalize 2 ^ (b % 64) = p at hp ⊢; omega), Int.toNat_natCast]
        have hset := val_set_or hok (b / 64) (b % 64) hj hb64
        have hoks := ok_set_or hok (b / 64) (b % 64) hj hb64
        rw [show 64 * (b / 64) + b % 64 = b from Nat.div_add_mod b 64] at hset
        simp only [e1, bnd_some, e3, Nat.zero_add, e4, e2, shl_one hb64, hor]
        rw [wrap_i64 (by omega) (by omega), show (i : Int) + 1 = ((i + 1 : Nat) : Int) by omega]
        refine rowOf_loop fuel n l h0 h1 hl k0 k1 r hr0 hr1 k (i + 1) _ (by omega) (by omega) hoks (by rw [List.length_set]; exact hlen) ?_ ?_
        · intro z hzm
          rcases (htk z).1 hzm with hzm | rfl
          · exact hr z hzm
          · exact hz
        · intro j
          rw [hset, Nat.testBit_or, hb j, Nat.testBit_two_pow, ← Bool.decide_or, decide_eq_decide, htk]
          constructor
          · rintro (h | h)
            · exact .inl h
            · exact .inr (by omega)
          · rintro (h | h)
            · exact .inl h
            · exact .inr (by omega)
      · have hbad : ¬ ∀ z ∈ l, 0 ≤ z ∧ z < n := fun g => hz (g _ hm)
        by_cases hn : l[i] < 0
        · rw [if_pos (by simpa using hn)]; exact hr0 hbad _ _
        · rw [if_neg (by simpa using hn), br_if, if_pos (by simp; omega)]; exact hr0 hbad _ _
    · rw [if_neg (by simpa using hc)]
      have e : l.take i = l := List.take_of_length_le (by omega)
      rw [e] at hr hb
      rw [words_of (n := n) (l := l) hok hlen (fun j => by rw [hb j, decide_eq_decide]; exact ⟨fun h => ⟨h, (hr _ h).2⟩, fun h => h.1⟩)]
      exact hr1 hr
theorem rowOf_fact (n : Int) (l : List Int) (hg : (decide (l.length ≤ 1000000)) = true) : Fact Tryd.prog gTab 139 [.s (.int .i64 n), .li .i64 l] [] (.tup [.agg [.s (.int .i64 (if ofOk n l = true then n else 0)), .li .u64 (if ofOk n l = true then ofS n l else [])], .s (.int .i64 (ofErr n l))], []) := by
  have hl := of_decide_eq_true hg
  have hnil : ∀ e : Int, ofOk n l = false → ofErr n l = e → Fact Tryd.prog gTab 139 [.s (.int .i64 n), .li .i64 l] [] (.tup [.agg [.s (.int .i64 0), .s (.slice none 0 0)], .s (.int .i64 e)], []) → Fact Tryd.prog gTab 139 [.s (.int .i64 n), .li .i64 l] [] (.tup [.agg [.s (.int .i64 (if ofOk n l = true then n else 0)), .li .u64 (if ofOk n l = true then ofS n l else [])], .s (.int .i64 (ofErr n l))], []) := by
    intro e h1 h2 h
    rw [h1, h2]
    exact h.out fun _ _ _ x h => RV_tup_two (fun _ h => RVs_two (fun _ h => RV_agg_two (fun _ h => RVs_two (fun _ h => h) (fun _ h => RVs_two (fun _ h => RV_nil_li h) (fun _ h => h) h) h) h) (fun _ h => h) h) h
  by_cases hs : szB n = true
  · obtain ⟨h0, h1⟩ := szB_iff.1 hs
    have hlen := nw_le h1
    have hloop := fun (k0 k1 : Nat → List Int → Option Out) r hr0 hr1 => rowOf_loop (l.length + 1) n l h0 h1 hl k0 k1 r hr0 hr1 (l.length + 1) 0 (zerosS (nw n)) (by omega) (by omega) (by rw [zerosS_eq]; exact ok_replicate _) (by rw [zerosS_eq]; exact List.length_replicate) (fun z hz => by simp at hz) (fun j => by rw [zerosS_eq]; unfold zerosI; rw [val_replicate]; simp)
    by_cases hall : ∀ z ∈ l, 0 ≤ z ∧ z < n
    · have hok : ofOk n l = true := ofOk_iff.2 ⟨⟨h0, h1⟩, hall⟩
      have he : ofErr n l = 0 := by rw [ofErr_eq]; unfold ofErrI; rw [if_pos hok]
      rw [hok, he]
      refine callN_fact hN hM T_right_ok (n := l.length + 1) (mode := mode3) ?_
      rw [rowOfF_eq]
      unfold rowOfF rowOfF_s1
      rw [hs, br_if, if_neg (by decide), grd_tt]
      refine hloop _ _ _ (fun h => absurd hall h) fun _ => ?_
      unfold rowOfF_s4
      rw [List.drop_zero, ← of_len n l, List.take_length]
      rfl
    · have hok : ofOk n l = false := by rw [Bool.eq_false_iff]; intro h; exact hall (ofOk_iff.1 h).2
      refine hnil 3 hok (by rw [ofErr_eq]; unfold ofErrI; rw [hok, hs]; rfl) ?_
      refine callN_fact hN hM T_right_ok (n := l.length + 1) (mode := mode3) ?_
      rw [rowOfF_eq]
      unfold rowOfF rowOfF_s1
      rw [hs, br_if, if_neg (by decide), grd_tt]
      exact hloop _ _ _ (fun _ _ _ => rfl) fun h => absurd h hall
  · have hok : ofOk n l = false := by rw [Bool.eq_false_iff]; intro h; exact hs (szB_iff.2 (ofOk_iff.1 h).1)
    have hs' : szB n = false := by rw [Bool.eq_false_iff]; exact hs
    refine hnil 2 hok (by rw [ofErr_eq]; unfold ofErrI; rw [hok, hs']; rfl) ?_
    refine callN_fact hN hM T_right_ok (n := 0) (mode := mode3) ?_
    rw [rowOfF_eq]
    unfold rowOfF rowOfF_s1
    rw [hs', br_if, if_pos (by decide)]
noncomputable def rowOf_ent : List V → List Blk → Option (Bool × Out)
  | [.s (.int .i64 n), w0], [] => (asSl (.int .i64) w0).bind fun l => some ((decide (l.length ≤ 1000000)), (.tup [.agg [.s (.int .i64 (if ofOk n l = true then n else 0)), .li .u64 (if ofOk n l = true then ofS n l else [])], .s (.int .i64 (ofErr n l))], []))
  | _, _ => none
theorem rowOf_ok : ∀ args bs out, rowOf_ent args bs = some (true, out) → Fact Tryd.prog gTab 139 args bs out := by
  intro args bs out h
  unfold rowOf_ent at h
  split at h
  · rename_i n w0
    obtain ⟨l, h_l, h⟩ := Option.bind_eq_some_iff.1 h
    simp only [Option.some.injEq, Prod.mk.injEq] at h
    obtain ⟨hg, rfl⟩ := h
    exact (rowOf_fact n l hg).args (fun _ _ _ => fun _ h => RVs_two (fun _ h => h) (fun _ h => RVs_two (fun _ h => RV_li h_l h) (fun _ h => h) h) h)
  · cases h
noncomputable def T_rowOf : Tbl := Tbl.cons 139 rowOf_ent T_right
theorem T_rowOf_ok : CallOk Tryd.prog gTab T_rowOf := cons_ok T_right_ok rowOf_ok
def mode4 : FuncId → Nat := fun f => 0
/-! downpour/downpourref01.words -/
noncomputable def refWordsF_s1 {R : Type} (n : Int) (c0 : Int → Option R) : Option R :=
  bnd (divI .quo .i64 (IntKind.i64.wrap (n + 63)) 64) fun v1 =>
  c0 v1
theorem refWordsF_s1_eq (fuel : Nat)  (n : Int) : callN Tryd.prog mode4 T_rowOf fuel 113 [vI n] [] = refWordsF_s1 n (fun a2 => some (vI a2, [])) := by kernel_rfl
noncomputable def refWordsF {R : Type} (fuel : Nat) (n : Int) (r0 : Int → Option R) : Option R :=
  (refWordsF_s1 n (fun a2 => r0 a2))
theorem refWordsF_eq (fuel : Nat) (n : Int) : callN Tryd.prog mode4 T_rowOf fuel 113 [.s (.int .i64 n)] [] = refWordsF fuel n (fun z0 => some (.s (.int .i64 z0), [])) := by
  unfold refWordsF
  exact (refWordsF_s1_eq fuel  n)
theorem refWords_fact (n : Int) (hg : (decide (0 ≤ n) && decide (n ≤ 1000000)) = true) : Fact Tryd.prog gTab 113 [.s (.int .i64 n)] [] (.s (.int .i64 (((nw n : Nat) : Int))), []) := by
  simp only [Bool.and_eq_true, decide_eq_true_eq] at hg
  refine callN_fact hN hM T_rowOf_ok (n := 0) (mode := mode4) ?_
  rw [refWordsF_eq]
  unfold refWordsF refWordsF_s1
  rw [wrap_i64 (by omega) (by omega), bnd_of (quo_i64 (by omega) (by omega) (by decide)), nw_cast hg.1]
noncomputable def refWords_ent : List V → List Blk → Option (Bool × Out)
  | [.s (.int .i64 n)], [] => some ((decide (0 ≤ n) && decide (n ≤ 1000000)), (.s (.int .i64 (((nw n : Nat) : Int))), []))
  | _, _ => none
theorem refWords_ok : ∀ args bs out, refWords_ent args bs = some (true, out) → Fact Tryd.prog gTab 113 args bs out := by
  intro args bs out h
  unfold refWords_ent at h
  split at h
  · rename_i n
    simp only [Option.some.injEq, Prod.mk.injEq] at h
    obtain ⟨hg, rfl⟩ := h
    exact refWords_fact n hg
  · cases h
noncomputable def T_refWords : Tbl := Tbl.cons 113 refWords_ent T_rowOf
theorem T_refWords_ok : CallOk Tryd.prog gTab T_refWords := cons_ok T_rowOf_ok refWords_ok
/-! downpour/downpourref01.In -/
noncomputable def refIn1F_s2 {R : Type} (w4 w3 : Int) (l : List Int) (n : Int) (c0 : Option R) (c1 : Int → Int → Option R) (c2 : Option R) : Option R :=
  br (decide (w4 < w3))
    (bnd (ix l w4) fun e6 =>
    br (e6 == n)
      (c0)
      (c1 w3 (IntKind.i64.wrap (w4 + 1))))
    (c2)
theorem refIn1F_s2_eq (fuel k : Nat) (K : Ex → St → Option Out) (w4 w3 : Int) (l : List Int) (n : Int) : lpN (sub (bodyOf Tryd.prog 64) [1, 0, 1, 0, 0]) (fnX Tryd.prog mode4 T_refWords fuel 17 0) 16 [1, 4, 7, 8, 9] (k + 1) ⟨[(1, vI n), (4, vB false), (7, vL l), (8, vI w3), (9, vI w4)], [], 0, none⟩ K = refIn1F_s2 w4 w3 l n (K .ret ⟨[(4, vB true)], [], 0, none⟩) (fun a7 a8 => lpN (sub (bodyOf Tryd.prog 64) [1, 0, 1, 0, 0]) (fnX Tryd.prog mode4 T_refWords fuel 17 0) 16 [1, 4, 7, 8, 9] k ⟨[(1, vI n), (4, vB false), (7, vL l), (8, vI a7), (9, vI a8)], [], 0, none⟩ K) (K (.exit 0) ⟨[(4, vB false)], [], 0, none⟩) := by kernel_rfl
noncomputable def refIn1F_l1 {R : Type} (fuel : Nat) (n : Int) (l : List Int) (k0 k1 : Option R) : Nat → Int → Int → Option R
  | 0, _, _ => none
  | k + 1, w3, w4 =>
    (refIn1F_s2 w4 w3 l n (k0) (fun a7 a8 => ( refIn1F_l1 fuel n l k0 k1 k a7 a8 )) (k1))
theorem refIn1F_l1_eq (fuel : Nat) (n : Int) (l : List Int) (K : Ex → St → Option Out) : ∀ (k : Nat) (w3 w4 : Int), lpN (sub (bodyOf Tryd.prog 64) [1, 0, 1, 0, 0]) (fnX Tryd.prog mode4 T_refWords fuel 17 0) 16 [1, 4, 7, 8, 9] k ⟨[(1, vI n), (4, vB false), (7, vL l), (8, vI w3), (9, vI w4)], [], 0, none⟩ K = refIn1F_l1 fuel n l (K .ret ⟨[(4, vB true)], [], 0, none⟩) (K (.exit 0) ⟨[(4, vB false)], [], 0, none⟩) k w3 w4
  | 0, _, _ => rfl
  | k + 1, w3, w4 => by
    unfold refIn1F_l1
    exact (refIn1F_s2_eq fuel k K w4 w3 l n).trans (congr (congr (congr (Eq.refl (refIn1F_s2 (R := Out) w4 w3 l n)) (rfl)) (funext fun a7 => funext fun a8 => refIn1F_l1_eq fuel n l K k a7 a8)) (rfl))
noncomputable def refIn1F_s3 {R : Type}  (c0 : Bool → Option R) : Option R :=
  c0 true
theorem refIn1F_s3_eq (fuel : Nat)   : (kont (fnX Tryd.prog mode4 T_refWords fuel 17 0) (bodyOf Tryd.prog 64) [1, 0, 1, 0] 16 (endK Tryd.prog 0 0 64)) .ret ⟨[(4, vB true)], [], 0, none⟩ = refIn1F_s3  (fun a0 => some (vB a0, [])) := by kernel_rfl
noncomputable def refIn1F_s4 {R : Type}  (c0 : Bool → Option R) : Option R :=
  c0 false
theorem refIn1F_s4_eq (fuel : Nat)   : (kont (fnX Tryd.prog mode4 T_refWords fuel 17 0) (bodyOf Tryd.prog 64) [1, 0, 1, 0] 16 (endK Tryd.prog 0 0 64)) (.exit 0) ⟨[(4, vB false)], [], 0, none⟩ = refIn1F_s4  (fun a0 => some (vB a0, [])) := by kernel_rfl
noncomputable def refIn1F_s1 {R : Type} (l : List Int) (n : Int) (c0 : Int → Int → Option R) : Option R :=
  c0 ((l.length : Nat) : Int) 0
theorem refIn1F_s1_eq (fuel : Nat)  (l : List Int) (n : Int) : callN Tryd.prog mode4 T_refWords fuel 64 [vL l, vI n] [] = refIn1F_s1 l n (fun a9 a0 => lpN (sub (bodyOf Tryd.prog 64) [1, 0, 1, 0, 0]) (fnX Tryd.prog mode4 T_refWords fuel 17 0) 16 [1, 4, 7, 8, 9] fuel ⟨[(1, vI n), (4, vB false), (7, vL l), (8, vI a9), (9, vI a0)], [], 0, none⟩ (kont (fnX Tryd.prog mode4 T_refWords fuel 17 0) (bodyOf Tryd.prog 64) [1, 0, 1, 0] 16 (endK Tryd.prog 0 0 64))) := by kernel_rfl
noncomputable def refIn1F {R : Type} (fuel : Nat) (l : List Int) (n : Int) (r0 : Bool → Option R) : Option R :=
  (refIn1F_s1 l n (fun a9 a0 => (refIn1F_l1 fuel n l ((refIn1F_s3 (fun a1 => r0 a1))) ((refIn1F_s4 (fun a2 => r0 a2))) fuel a9 a0)))
theorem refIn1F_eq (fuel : Nat) (l : List Int) (n : Int) : callN Tryd.prog mode4 T_refWords fuel 64 [.li .i64 l, .s (.int .i64 n)] [] = refIn1F fuel l n (fun z0 => some (.s (.bool z0), [])) := by
  unfold refIn1F
  exact (refIn1F_s1_eq fuel  l n).trans (congr (Eq.refl (refIn1F_s1 (R := Out) l n)) (funext fun a9 => funext fun a0 => (refIn1F_l1_eq fuel n l (kont (fnX Tryd.prog mode4 T_refWords fuel 17 0) (bodyOf Tryd.prog 64) [1, 0, 1, 0] 16 (endK Tryd.prog 0 0 64)) fuel a9 a0).trans (congrFun (congrFun (congrFun (congr (congr (Eq.refl (refIn1F_l1 (R := Out) fuel n l)) ((refIn1F_s3_eq fuel  ))) ((refIn1F_s4_eq fuel  ))) fuel) a9) a0)))
theorem refIn1_loop {R : Type} (fuel : Nat) (n : Int) (xs : List Int) (hx : xs.length ≤ 1000000) (k0 k1 : Option R) : ∀ (k j : Nat), j ≤ xs.length → xs.length < j + k → refIn1F_l1 fuel n xs k0 k1 k (xs.length : Int) (j : Int) = if (xs.drop j).contains n = true then k0 else k1
  | 0, j, h1, h2 => by omega
  | k + 1, j, h1, h2 => by
    unfold refIn1F_l1 refIn1F_s2
    rw [br_if]
    by_cases hc : j < xs.length
    · rw [if_pos (by simpa using hc), bnd_of ((ix_nat xs j).trans (List.getElem?_eq_getElem hc)), br_if, List.drop_eq_getElem_cons hc, wrap_i64 (by omega) (by omega), show (j : Int) + 1 = ((j + 1 : Nat) : Int) by omega]
      dsimp only
      rw [refIn1_loop fuel n xs hx k0 k1 k (j + 1) (by omega) (by omega)]
      generalize xs[j] = x
      generalize xs.drop (j + 1) = t
      rw [List.contains_cons]
      by_cases he : x = n
      · simp [he]
      · have he' : ¬ n = x := fun h => he h.symm
        simp [he, he']
    · rw [if_neg (by simpa using hc), List.drop_eq_nil_of_le (by omega)]
      simp
theorem refIn1_fact (l : List Int) (n : Int) (hg : (decide (List.length (α := Int) l ≤ 1000000)) = true) : Fact Tryd.prog gTab 64 [.li .i64 l, .s (.int .i64 n)] [] (.s (.bool (inL l n)), []) := by
  have hl := of_decide_eq_true hg
  refine callN_fact hN hM T_refWords_ok (n := l.length + 1) (mode := mode4) ?_
  rw [refIn1F_eq]
  unfold refIn1F refIn1F_s1
  have := refIn1_loop (R := Out) (l.length + 1) n l hl
  dsimp only
  rw [show (0 : Int) = ((0 : Nat) : Int) from rfl, this _ _ _ _ (by omega) (by omega), List.drop_zero, inL_eq]
  unfold inLI refIn1F_s3 refIn1F_s4
  cases l.contains n <;> rfl
noncomputable def refIn1_ent : List V → List Blk → Option (Bool × Out)
  | [w0, .s (.int .i64 n)], [] => (asSl (.int .i64) w0).bind fun l => some ((decide (List.length (α := Int) l ≤ 1000000)), (.s (.bool (inL l n)), []))
  | _, _ => none
theorem refIn1_ok : ∀ args bs out, refIn1_ent args bs = some (true, out) → Fact Tryd.prog gTab 64 args bs out := by
  intro args bs out h
  unfold refIn1_ent at h
  split at h
  · rename_i w0 n
    obtain ⟨l, h_l, h⟩ := Option.bind_eq_some_iff.1 h
    simp only [Option.some.injEq, Prod.mk.injEq] at h
    obtain ⟨hg, rfl⟩ := h
    exact (refIn1_fact l n hg).args (fun _ _ _ => fun _ h => RVs_two (fun _ h => RV_li h_l h) (fun _ h => h) h)
  · cases h
noncomputable def T_refIn1 : Tbl := Tbl.cons 64 refIn1_ent T_refWords
theorem T_refIn1_ok : CallOk Tryd.prog gTab T_refIn1 := cons_ok T_refWords_ok refIn1_ok
/-! downpour/downpourref01.From -/
noncomputable abbrev qa45 : Code := (sub (bodyOf Tryd.prog 132) [1, 1, 0, 1, 0, 0])
noncomputable abbrev qa46 : Nat × Option Blk := (0, some ⟨44, .agg [vI 0, vN], true⟩)
noncomputable abbrev qa47 (fuel : Nat) : Ctx Out := (fnX Tryd.prog mode4 T_refIn1 fuel 49 0)
noncomputable abbrev qa48 : Nat × V := (2, .ptr 0 2 0 0)
noncomputable abbrev qa49 : Nat × V := (3, .ptr 1 2 0 0)
noncomputable abbrev qa50 : List Nat := [0, 2, 3, 4, 5, 6, 10, 11, 12, 13, 14]
noncomputable abbrev qa51 : Code := (sub qa45 [1, 0, 0, 1, 0, 1, 0, 0])
noncomputable abbrev qa52 : Nat := 562949953420413
noncomputable abbrev qa53 : Nat := 281474976710668
noncomputable def refFromF_s3 {R : Type} (w0 : Int) (l : List Int) (w2 w3 w4 : Int) (w5 : Bool) (w1 : Int) (c0 c1 c2 : Int → Int → Int → Int → Bool → Option R) (c3 : Int → Int → Int → Int → Bool → Bool → Option R) : Option R :=
  br (decide (w0 ≥ 0))
    (br (decide ((IntKind.i64.wrap (0 + w0)) < ((l.length : Nat) : Int)))
      (bnd (ix l (IntKind.i64.wrap (0 + w0))) fun e0 =>
      br (e0 == 1)
        (c0 (IntKind.u64.wrap ((IntKind.u64.wrap (2 * w2)) + 1)) (IntKind.i64.wrap (w0 - 1)) w3 w4 w5)
        (c1 (IntKind.u64.wrap (2 * w2)) (IntKind.i64.wrap (w0 - 1)) w3 w4 w5))
      (c2 (IntKind.u64.wrap (2 * w2)) (IntKind.i64.wrap (w0 - 1)) w3 w4 w5))
    (c3 w2 w0 w3 w4 w5 (decide (w0 ≥ 0)))
theorem refFromF_s3_eq (fuel k : Nat) (K : Ex → St → Option Out) (w0 : Int) (l : List Int) (w2 w3 w4 : Int) (w5 : Bool) (w1 : Int) : lpN qa51 (qa47 fuel) qa52 qa50 (k + 1) ⟨[(0, vL l), qa48, qa49, (4, vI 0), (5, vU w2), (6, vI w0), (10, vI 0), (11, vL l), (12, vI w3), (13, vI w4), (14, vB w5)], [qa46, (1, some ⟨44, .agg [vI w1, vN], true⟩)], 2, none⟩ K = refFromF_s3 w0 l w2 w3 w4 w5 w1 (fun a0 a1 a2 a3 a4 => lpN qa51 (qa47 fuel) qa52 qa50 k ⟨[(0, vL l), qa48, qa49, (4, vI 0), (5, vU a0), (6, vI a1), (10, vI 0), (11, vL l), (12, vI a2), (13, vI a3), (14, vB a4)], [qa46, (1, some ⟨44, .agg [vI w1, vN], true⟩)], 2, none⟩ K) (fun a5 a6 a7 a8 a9 => lpN qa51 (qa47 fuel) qa52 qa50 k ⟨[(0, vL l), qa48, qa49, (4, vI 0), (5, vU a5), (6, vI a6), (10, vI 0), (11, vL l), (12, vI a7), (13, vI a8), (14, vB a9)], [qa46, (1, some ⟨44, .agg [vI w1, vN], true⟩)], 2, none⟩ K) (fun a10 a11 a12 a13 a14 => lpN qa51 (qa47 fuel) qa52 qa50 k ⟨[(0, vL l), qa48, qa49, (4, vI 0), (5, vU a10), (6, vI a11), (10, vI 0), (11, vL l), (12, vI a12), (13, vI a13), (14, vB a14)], [qa46, (1, some ⟨44, .agg [vI w1, vN], true⟩)], 2, none⟩ K) (fun a15 a16 a17 a18 a19 a20 => K (.exit 2) ⟨[(0, vL l), qa48, qa49, (4, vI 0), (5, vU a15), (6, vI a16), (10, vI 0), (11, vL l), (12, vI a17), (13, vI a18), (14, vB a19), (17, vI a16), (18, vB a20)], [qa46, (1, some ⟨44, .agg [vI w1, vN], true⟩)], 2, none⟩) := by kernel_rfl
noncomputable def refFromF_l2 {R : Type} (fuel : Nat) (l : List Int) (w1 : Int) (k0 : Int → Int → Int → Int → Bool → Bool → Option R) : Nat → Int → Int → Int → Int → Bool → Option R
  | 0, _, _, _, _, _ => none
  | k + 1, w0, w2, w3, w4, w5 =>
    (refFromF_s3 w2 l w0 w3 w4 w5 w1 (fun a0 a1 a2 a3 a4 => ( refFromF_l2 fuel l w1 k0 k a0 a1 a2 a3 a4 )) (fun a5 a6 a7 a8 a9 => ( refFromF_l2 fuel l w1 k0 k a5 a6 a7 a8 a9 )) (fun a10 a11 a12 a13 a14 => ( refFromF_l2 fuel l w1 k0 k a10 a11 a12 a13 a14 )) (fun a15 a16 a17 a18 a19 a20 => k0 a15 a16 a17 a18 a19 a20))
theorem refFromF_l2_eq (fuel : Nat) (l : List Int) (w1 : Int) (K : Ex → St → Option Out) : ∀ (k : Nat) (w0 w2 w3 w4 : Int) (w5 : Bool), lpN qa51 (qa47 fuel) qa52 qa50 k ⟨[(0, vL l), qa48, qa49, (4, vI 0), (5, vU w0), (6, vI w2), (10, vI 0), (11, vL l), (12, vI w3), (13, vI w4), (14, vB w5)], [qa46, (1, some ⟨44, .agg [vI w1, vN], true⟩)], 2, none⟩ K = refFromF_l2 fuel l w1 (fun y0 y1 y2 y3 y4 y5 => K (.exit 2) ⟨[(0, vL l), qa48, qa49, (4, vI 0), (5, vU y0), (6, vI y1), (10, vI 0), (11, vL l), (12, vI y2), (13, vI y3), (14, vB y4), (17, vI y1), (18, vB y5)], [qa46, (1, some ⟨44, .agg [vI w1, vN], true⟩)], 2, none⟩) k w0 w2 w3 w4 w5
  | 0, _, _, _, _, _ => rfl
  | k + 1, w0, w2, w3, w4, w5 => by
    unfold refFromF_l2
    exact (refFromF_s3_eq fuel k K w2 l w0 w3 w4 w5 w1).trans (congr (congr (congr (congr (Eq.refl (refFromF_s3 (R := Out) w2 l w0 w3 w4 w5 w1)) (funext fun a0 => funext fun a1 => funext fun a2 => funext fun a3 => funext fun a4 => refFromF_l2_eq fuel l w1 K k a0 a1 a2 a3 a4)) (funext fun a5 => funext fun a6 => funext fun a7 => funext fun a8 => funext fun a9 => refFromF_l2_eq fuel l w1 K k a5 a6 a7 a8 a9)) (funext fun a10 => funext fun a11 => funext fun a12 => funext fun a13 => funext fun a14 => refFromF_l2_eq fuel l w1 K k a10 a11 a12 a13 a14)) (rfl))
noncomputable def refFromF_s6 {R : Type} (w0 w2 : Int) (l : List Int) (w3 w4 w5 : Int) (w6 : Bool) (w1 : Int) (w7 : Nat) (w8 : List Int) (c0 c1 c2 : Int → Int → Int → Int → Bool → Option R) (c3 : Int → Int → Int → Int → Bool → Bool → Option R) : Option R :=
  br (decide (w0 ≥ 0))
    (br (decide ((IntKind.i64.wrap ((IntKind.i64.wrap (64 * w2)) + w0)) < ((l.length : Nat) : Int)))
      (bnd (ix l (IntKind.i64.wrap ((IntKind.i64.wrap (64 * w2)) + w0))) fun e0 =>
      br (e0 == 1)
        (c0 (IntKind.u64.wrap ((IntKind.u64.wrap (2 * w3)) + 1)) (IntKind.i64.wrap (w0 - 1)) w4 w5 w6)
        (c1 (IntKind.u64.wrap (2 * w3)) (IntKind.i64.wrap (w0 - 1)) w4 w5 w6))
      (c2 (IntKind.u64.wrap (2 * w3)) (IntKind.i64.wrap (w0 - 1)) w4 w5 w6))
    (c3 w3 w0 w4 w5 w6 (decide (w0 ≥ 0)))
theorem refFromF_s6_eq (fuel k : Nat) (K : Ex → St → Option Out) (w0 w2 : Int) (l : List Int) (w3 w4 w5 : Int) (w6 : Bool) (w1 : Int) (w7 : Nat) (w8 : List Int) : lpN qa51 (qa47 fuel) qa52 qa50 (k + 1) ⟨[(0, vL l), qa48, qa49, (4, vI w2), (5, vU w3), (6, vI w0), (10, vI w2), (11, vL l), (12, vI w4), (13, vI w5), (14, vB w6)], [qa46, (1, some ⟨44, .agg [vI w1, .sl 2 1 0 w7], true⟩), (2, some ⟨79, vW w8, true⟩)], 3, none⟩ K = refFromF_s6 w0 w2 l w3 w4 w5 w6 w1 w7 w8 (fun a0 a1 a2 a3 a4 => lpN qa51 (qa47 fuel) qa52 qa50 k ⟨[(0, vL l), qa48, qa49, (4, vI w2), (5, vU a0), (6, vI a1), (10, vI w2), (11, vL l), (12, vI a2), (13, vI a3), (14, vB a4)], [qa46, (1, some ⟨44, .agg [vI w1, .sl 2 1 0 w7], true⟩), (2, some ⟨79, vW w8, true⟩)], 3, none⟩ K) (fun a5 a6 a7 a8 a9 => lpN qa51 (qa47 fuel) qa52 qa50 k ⟨[(0, vL l), qa48, qa49, (4, vI w2), (5, vU a5), (6, vI a6), (10, vI w2), (11, vL l), (12, vI a7), (13, vI a8), (14, vB a9)], [qa46, (1, some ⟨44, .agg [vI w1, .sl 2 1 0 w7], true⟩), (2, some ⟨79, vW w8, true⟩)], 3, none⟩ K) (fun a10 a11 a12 a13 a14 => lpN qa51 (qa47 fuel) qa52 qa50 k ⟨[(0, vL l), qa48, qa49, (4, vI w2), (5, vU a10), (6, vI a11), (10, vI w2), (11, vL l), (12, vI a12), (13, vI a13), (14, vB a14)], [qa46, (1, some ⟨44, .agg [vI w1, .sl 2 1 0 w7], true⟩), (2, some ⟨79, vW w8, true⟩)], 3, none⟩ K) (fun a15 a16 a17 a18 a19 a20 => K (.exit 2) ⟨[(0, vL l), qa48, qa49, (4, vI w2), (5, vU a15), (6, vI a16), (10, vI w2), (11, vL l), (12, vI a17), (13, vI a18), (14, vB a19), (17, vI a16), (18, vB a20)], [qa46, (1, some ⟨44, .agg [vI w1, .sl 2 1 0 w7], true⟩), (2, some ⟨79, vW w8, true⟩)], 3, none⟩) := by kernel_rfl
noncomputable def refFromF_l4 {R : Type} (fuel : Nat) (l : List Int) (w0 w1 : Int) (w2 : Nat) (w3 : List Int) (k0 : Int → Int → Int → Int → Bool → Bool → Option R) : Nat → Int → Int → Int → Int → Bool → Option R
  | 0, _, _, _, _, _ => none
  | k + 1, w4, w5, w6, w7, w8 =>
    (refFromF_s6 w5 w0 l w4 w6 w7 w8 w1 w2 w3 (fun a0 a1 a2 a3 a4 => ( refFromF_l4 fuel l w0 w1 w2 w3 k0 k a0 a1 a2 a3 a4 )) (fun a5 a6 a7 a8 a9 => ( refFromF_l4 fuel l w0 w1 w2 w3 k0 k a5 a6 a7 a8 a9 )) (fun a10 a11 a12 a13 a14 => ( refFromF_l4 fuel l w0 w1 w2 w3 k0 k a10 a11 a12 a13 a14 )) (fun a15 a16 a17 a18 a19 a20 => k0 a15 a16 a17 a18 a19 a20))
theorem refFromF_l4_eq (fuel : Nat) (l : List Int) (w0 w1 : Int) (w2 : Nat) (w3 : List Int) (K : Ex → St → Option Out) : ∀ (k : Nat) (w4 w5 w6 w7 : Int) (w8 : Bool), lpN qa51 (qa47 fuel) qa52 qa50 k ⟨[(0, vL l), qa48, qa49, (4, vI w0), (5, vU w4), (6, vI w5), (10, vI w0), (11, vL l), (12, vI w6), (13, vI w7), (14, vB w8)], [qa46, (1, some ⟨44, .agg [vI w1, .sl 2 1 0 w2], true⟩), (2, some ⟨79, vW w3, true⟩)], 3, none⟩ K = refFromF_l4 fuel l w0 w1 w2 w3 (fun y0 y1 y2 y3 y4 y5 => K (.exit 2) ⟨[(0, vL l), qa48, qa49, (4, vI w0), (5, vU y0), (6, vI y1), (10, vI w0), (11, vL l), (12, vI y2), (13, vI y3), (14, vB y4), (17, vI y1), (18, vB y5)], [qa46, (1, some ⟨44, .agg [vI w1, .sl 2 1 0 w2], true⟩), (2, some ⟨79, vW w3, true⟩)], 3, none⟩) k w4 w5 w6 w7 w8
  | 0, _, _, _, _, _ => rfl
  | k + 1, w4, w5, w6, w7, w8 => by
    unfold refFromF_l4
    exact (refFromF_s6_eq fuel k K w5 w0 l w4 w6 w7 w8 w1 w2 w3).trans (congr (congr (congr (congr (Eq.refl (refFromF_s6 (R := Out) w5 w0 l w4 w6 w7 w8 w1 w2 w3)) (funext fun a0 => funext fun a1 => funext fun a2 => funext fun a3 => funext fun a4 => refFromF_l4_eq fuel l w0 w1 w2 w3 K k a0 a1 a2 a3 a4)) (funext fun a5 => funext fun a6 => funext fun a7 => funext fun a8 => funext fun a9 => refFromF_l4_eq fuel l w0 w1 w2 w3 K k a5 a6 a7 a8 a9)) (funext fun a10 => funext fun a11 => funext fun a12 => funext fun a13 => funext fun a14 => refFromF_l4_eq fuel l w0 w1 w2 w3 K k a10 a11 a12 a13 a14)) (rfl))
noncomputable def refFromF_s7 {R : Type} (w0 : List Int) (w2 : Nat) (w3 x0 : Int) (l : List Int) (x1 x2 x3 : Int) (x4 x5 : Bool) (w1 : Int) (c0 : Int → Nat → List Int → Option R) : Option R :=
  grd (Nat.beq w0.length w2) <|
  grd (okN (w2 + 1) 8) <|
  c0 (IntKind.i64.wrap (w3 + 1)) ((w0 ++ [x0]).length) (w0 ++ [x0])
theorem refFromF_s7_eq (fuel k : Nat) (K : Ex → St → Option Out) (w0 : List Int) (w2 : Nat) (w3 x0 : Int) (l : List Int) (x1 x2 x3 : Int) (x4 x5 : Bool) (w1 : Int) : (kont (qa47 fuel) qa45 [1, 0, 0, 1, 0, 1, 0] qa52 (rdK qa45 (qa47 fuel) qa53 [0, 2, 3, 4] k K)) (.exit 2) ⟨[(0, vL l), qa48, qa49, (4, vI w3), (5, vU x0), (6, vI x1), (10, vI w3), (11, vL l), (12, vI x2), (13, vI x3), (14, vB x4), (17, vI x1), (18, vB x5)], [qa46, (1, some ⟨44, .agg [vI w1, .sl 2 1 0 w2], true⟩), (2, some ⟨79, vW w0, true⟩)], 3, none⟩ = refFromF_s7 w0 w2 w3 x0 l x1 x2 x3 x4 x5 w1 (fun a0 a1 a2 => lpN qa45 (qa47 fuel) qa53 [0, 2, 3, 4] k ⟨[(0, vL l), qa48, qa49, (4, vI a0)], [qa46, (1, some ⟨44, .agg [vI w1, .sl 2 1 0 a1], true⟩), (2, some ⟨79, vW a2, true⟩)], 3, none⟩ K) := by kernel_rfl
noncomputable def refFromF_s5 {R : Type} (l : List Int) (w0 : Int) (w2 : Nat) (w3 : List Int) (w1 : Int) (c0 : Int → Int → Int → Int → Bool → Option R) (c1 : Nat → List Int → Option R) : Option R :=
  grd (decide (0 ≤ ((l.length : Nat) : Int)) && decide (((l.length : Nat) : Int) ≤ 1000000)) <|
  br (decide (w0 < (((nw ((l.length : Nat) : Int) : Nat) : Int))))
    (c0 0 63 ((l.length : Nat) : Int) (((nw ((l.length : Nat) : Int) : Nat) : Int)) (decide (w0 < (((nw ((l.length : Nat) : Int) : Nat) : Int)))))
    (c1 w2 w3)
theorem refFromF_s5_eq (fuel k : Nat) (K : Ex → St → Option Out) (l : List Int) (w0 : Int) (w2 : Nat) (w3 : List Int) (w1 : Int) : lpN qa45 (qa47 fuel) qa53 [0, 2, 3, 4] (k + 1) ⟨[(0, vL l), qa48, qa49, (4, vI w0)], [qa46, (1, some ⟨44, .agg [vI w1, .sl 2 1 0 w2], true⟩), (2, some ⟨79, vW w3, true⟩)], 3, none⟩ K = refFromF_s5 l w0 w2 w3 w1 (fun a0 a1 a2 a3 a4 => lpN qa51 (qa47 fuel) qa52 qa50 fuel ⟨[(0, vL l), qa48, qa49, (4, vI w0), (5, vU a0), (6, vI a1), (10, vI w0), (11, vL l), (12, vI a2), (13, vI a3), (14, vB a4)], [qa46, (1, some ⟨44, .agg [vI w1, .sl 2 1 0 w2], true⟩), (2, some ⟨79, vW w3, true⟩)], 3, none⟩ (kont (qa47 fuel) qa45 [1, 0, 0, 1, 0, 1, 0] qa52 (rdK qa45 (qa47 fuel) qa53 [0, 2, 3, 4] k K))) (fun a5 a6 => K (.exit 0) ⟨[qa48, qa49], [qa46, (1, some ⟨44, .agg [vI w1, .sl 2 1 0 a5], true⟩), (2, some ⟨79, vW a6, true⟩)], 3, none⟩) := by kernel_rfl
noncomputable def refFromF_l3 {R : Type} (fuel : Nat) (l : List Int) (w1 : Int) (k0 : Nat → List Int → Option R) : Nat → Int → Nat → List Int → Option R
  | 0, _, _, _ => none
  | k + 1, w0, w2, w3 =>
    (refFromF_s5 l w0 w2 w3 w1 (fun a0 a1 a2 a3 a4 => (refFromF_l4 fuel l w0 w1 w2 w3 (fun x0 x1 x2 x3 x4 x5 => (refFromF_s7 w3 w2 w0 x0 l x1 x2 x3 x4 x5 w1 (fun a5 a6 a7 => ( refFromF_l3 fuel l w1 k0 k a5 a6 a7 )))) fuel a0 a1 a2 a3 a4)) (fun a8 a9 => k0 a8 a9))
theorem refFromF_l3_eq (fuel : Nat) (l : List Int) (w1 : Int) (K : Ex → St → Option Out) : ∀ (k : Nat) (w0 : Int) (w2 : Nat) (w3 : List Int), lpN qa45 (qa47 fuel) qa53 [0, 2, 3, 4] k ⟨[(0, vL l), qa48, qa49, (4, vI w0)], [qa46, (1, some ⟨44, .agg [vI w1, .sl 2 1 0 w2], true⟩), (2, some ⟨79, vW w3, true⟩)], 3, none⟩ K = refFromF_l3 fuel l w1 (fun y0 y1 => K (.exit 0) ⟨[qa48, qa49], [qa46, (1, some ⟨44, .agg [vI w1, .sl 2 1 0 y0], true⟩), (2, some ⟨79, vW y1, true⟩)], 3, none⟩) k w0 w2 w3
  | 0, _, _, _ => rfl
  | k + 1, w0, w2, w3 => by
    unfold refFromF_l3
    exact (refFromF_s5_eq fuel k K l w0 w2 w3 w1).trans (congr (congr (Eq.refl (refFromF_s5 (R := Out) l w0 w2 w3 w1)) (funext fun a0 => funext fun a1 => funext fun a2 => funext fun a3 => funext fun a4 => (refFromF_l4_eq fuel l w0 w1 w2 w3 (kont (qa47 fuel) qa45 [1, 0, 0, 1, 0, 1, 0] qa52 (rdK qa45 (qa47 fuel) qa53 [0, 2, 3, 4] k K)) fuel a0 a1 a2 a3 a4).trans (congrFun (congrFun (congrFun (congrFun (congrFun (congrFun (congr (Eq.refl (refFromF_l4 (R := Out) fuel l w0 w1 w2 w3)) (funext fun x0 => funext fun x1 => funext fun x2 => funext fun x3 => funext fun x4 => funext fun x5 => (refFromF_s7_eq fuel k K w3 w2 w0 x0 l x1 x2 x3 x4 x5 w1).trans (congr (Eq.refl (refFromF_s7 (R := Out) w3 w2 w0 x0 l x1 x2 x3 x4 x5 w1)) (funext fun a5 => funext fun a6 => funext fun a7 => refFromF_l3_eq fuel l w1 K k a5 a6 a7)))) fuel) a0) a1) a2) a3) a4))) (rfl))
noncomputable def refFromF_s4 {R : Type} (x0 : Int) (l : List Int) (x1 x2 x3 : Int) (x4 x5 : Bool) (w1 : Int) (c0 : Int → Nat → List Int → Option R) : Option R :=
  c0 1 1 ([x0])
theorem refFromF_s4_eq (fuel k : Nat) (K : Ex → St → Option Out) (x0 : Int) (l : List Int) (x1 x2 x3 : Int) (x4 x5 : Bool) (w1 : Int) : (kont (qa47 fuel) qa45 [1, 0, 0, 1, 0, 1, 0] qa52 (rdK qa45 (qa47 fuel) qa53 [0, 2, 3, 4] k K)) (.exit 2) ⟨[(0, vL l), qa48, qa49, (4, vI 0), (5, vU x0), (6, vI x1), (10, vI 0), (11, vL l), (12, vI x2), (13, vI x3), (14, vB x4), (17, vI x1), (18, vB x5)], [qa46, (1, some ⟨44, .agg [vI w1, vN], true⟩)], 2, none⟩ = refFromF_s4 x0 l x1 x2 x3 x4 x5 w1 (fun a0 a1 a2 => lpN qa45 (qa47 fuel) qa53 [0, 2, 3, 4] k ⟨[(0, vL l), qa48, qa49, (4, vI a0)], [qa46, (1, some ⟨44, .agg [vI w1, .sl 2 1 0 a1], true⟩), (2, some ⟨79, vW a2, true⟩)], 3, none⟩ K) := by kernel_rfl
noncomputable def refFromF_s2 {R : Type} (l : List Int) (w1 : Int) (c0 : Int → Int → Int → Int → Bool → Option R) (c1 : Int → Option R) : Option R :=
  grd (decide (0 ≤ ((l.length : Nat) : Int)) && decide (((l.length : Nat) : Int) ≤ 1000000)) <|
  br (decide ((0 : Int) < (((nw ((l.length : Nat) : Int) : Nat) : Int))))
    (c0 0 63 ((l.length : Nat) : Int) (((nw ((l.length : Nat) : Int) : Nat) : Int)) (decide ((0 : Int) < (((nw ((l.length : Nat) : Int) : Nat) : Int)))))
    (c1 w1)
theorem refFromF_s2_eq (fuel k : Nat) (K : Ex → St → Option Out) (l : List Int) (w1 : Int) : lpN qa45 (qa47 fuel) qa53 [0, 2, 3, 4] (k + 1) ⟨[(0, vL l), qa48, qa49, (4, vI 0)], [qa46, (1, some ⟨44, .agg [vI w1, vN], true⟩)], 2, none⟩ K = refFromF_s2 l w1 (fun a0 a1 a2 a3 a4 => lpN qa51 (qa47 fuel) qa52 qa50 fuel ⟨[(0, vL l), qa48, qa49, (4, vI 0), (5, vU a0), (6, vI a1), (10, vI 0), (11, vL l), (12, vI a2), (13, vI a3), (14, vB a4)], [qa46, (1, some ⟨44, .agg [vI w1, vN], true⟩)], 2, none⟩ (kont (qa47 fuel) qa45 [1, 0, 0, 1, 0, 1, 0] qa52 (rdK qa45 (qa47 fuel) qa53 [0, 2, 3, 4] k K))) (fun a5 => K (.exit 0) ⟨[qa48, qa49], [qa46, (1, some ⟨44, .agg [vI a5, vN], true⟩)], 2, none⟩) := by kernel_rfl
noncomputable def refFromF_l1 {R : Type} (fuel : Nat) (l : List Int) (k0 : Int → Nat → List Int → Option R) (k1 : Int → Option R) : Nat → Int → Option R
  | 0, _ => none
  | k + 1, w1 =>
    (refFromF_s2 l w1 (fun a0 a1 a2 a3 a4 => (refFromF_l2 fuel l w1 (fun x0 x1 x2 x3 x4 x5 => (refFromF_s4 x0 l x1 x2 x3 x4 x5 w1 (fun a5 a6 a7 => (refFromF_l3 fuel l w1 (fun x6 x7 => k0 w1 x6 x7) k a5 a6 a7)))) fuel a0 a1 a2 a3 a4)) (fun a8 => k1 a8))
theorem refFromF_l1_eq (fuel : Nat) (l : List Int) (K : Ex → St → Option Out) : ∀ (k : Nat) (w1 : Int), lpN qa45 (qa47 fuel) qa53 [0, 2, 3, 4] k ⟨[(0, vL l), qa48, qa49, (4, vI 0)], [qa46, (1, some ⟨44, .agg [vI w1, vN], true⟩)], 2, none⟩ K = refFromF_l1 fuel l (fun y0 y1 y2 => K (.exit 0) ⟨[qa48, qa49], [qa46, (1, some ⟨44, .agg [vI y0, .sl 2 1 0 y1], true⟩), (2, some ⟨79, vW y2, true⟩)], 3, none⟩) (fun y3 => K (.exit 0) ⟨[qa48, qa49], [qa46, (1, some ⟨44, .agg [vI y3, vN], true⟩)], 2, none⟩) k w1
  | 0, _ => rfl
  | k + 1, w1 => by
    unfold refFromF_l1
    exact (refFromF_s2_eq fuel k K l w1).trans (congr (congr (Eq.refl (refFromF_s2 (R := Out) l w1)) (funext fun a0 => funext fun a1 => funext fun a2 => funext fun a3 => funext fun a4 => (refFromF_l2_eq fuel l w1 (kont (qa47 fuel) qa45 [1, 0, 0, 1, 0, 1, 0] qa52 (rdK qa45 (qa47 fuel) qa53 [0, 2, 3, 4] k K)) fuel a0 a1 a2 a3 a4).trans (congrFun (congrFun (congrFun (congrFun (congrFun (congrFun (congr (Eq.refl (refFromF_l2 (R := Out) fuel l w1)) (funext fun x0 => funext fun x1 => funext fun x2 => funext fun x3 => funext fun x4 => funext fun x5 => (refFromF_s4_eq fuel k K x0 l x1 x2 x3 x4 x5 w1).trans (congr (Eq.refl (refFromF_s4 (R := Out) x0 l x1 x2 x3 x4 x5 w1)) (funext fun a5 => funext fun a6 => funext fun a7 => refFromF_l3_eq fuel l w1 K k a5 a6 a7)))) fuel) a0) a1) a2) a3) a4))) (rfl))
noncomputable def refFromF_s8 {R : Type} (x0 : Int) (x1 : List Int) (x2 : Nat) (c0 : Int → List Int → Option R) : Option R :=
  c0 x0 ((x1.drop 0).take x2)
theorem refFromF_s8_eq (fuel : Nat)  (x0 : Int) (x1 : List Int) (x2 : Nat) : (kont (qa47 fuel) (bodyOf Tryd.prog 132) [1, 1, 0, 1, 0] 4 (endK Tryd.prog 0 0 132)) (.exit 0) ⟨[qa48, qa49], [qa46, (1, some ⟨44, .agg [vI x0, .sl 2 1 0 x2], true⟩), (2, some ⟨79, vW x1, true⟩)], 3, none⟩ = refFromF_s8 x0 x1 x2 (fun a0 a1 => some (.agg [vI a0, vW a1], [])) := by kernel_rfl
noncomputable def refFromF_s9 {R : Type} (x0 : Int) (c0 : Int → Option R) : Option R :=
  c0 x0
theorem refFromF_s9_eq (fuel : Nat)  (x0 : Int) : (kont (qa47 fuel) (bodyOf Tryd.prog 132) [1, 1, 0, 1, 0] 4 (endK Tryd.prog 0 0 132)) (.exit 0) ⟨[qa48, qa49], [qa46, (1, some ⟨44, .agg [vI x0, vN], true⟩)], 2, none⟩ = refFromF_s9 x0 (fun a0 => some (.agg [vI a0, vN], [])) := by kernel_rfl
noncomputable def refFromF_s1 {R : Type} (l : List Int) (c0 : Int → Option R) : Option R :=
  c0 ((l.length : Nat) : Int)
theorem refFromF_s1_eq (fuel : Nat)  (l : List Int) : callN Tryd.prog mode4 T_refIn1 fuel 132 [vL l] [] = refFromF_s1 l (fun a0 => lpN qa45 (qa47 fuel) qa53 [0, 2, 3, 4] fuel ⟨[(0, vL l), qa48, qa49, (4, vI 0)], [qa46, (1, some ⟨44, .agg [vI a0, vN], true⟩)], 2, none⟩ (kont (qa47 fuel) (bodyOf Tryd.prog 132) [1, 1, 0, 1, 0] 4 (endK Tryd.prog 0 0 132))) := by kernel_rfl
noncomputable def refFromF {R : Type} (fuel : Nat) (l : List Int) (r0 : Int → List Int → Option R) (r1 : Int → Option R) : Option R :=
  (refFromF_s1 l (fun a0 => (refFromF_l1 fuel l (fun x0 x1 x2 => (refFromF_s8 x0 x2 x1 (fun a1 a2 => r0 a1 a2))) (fun x3 => (refFromF_s9 x3 (fun a3 => r1 a3))) fuel a0)))
theorem refFromF_eq (fuel : Nat) (l : List Int) : callN Tryd.prog mode4 T_refIn1 fuel 132 [.li .i64 l] [] = refFromF fuel l (fun z0 z1 => some (.agg [.s (.int .i64 z0), .li .u64 z1], [])) (fun z0 => some (.agg [.s (.int .i64 z0), .s (.slice none 0 0)], [])) := by
  unfold refFromF
  exact (refFromF_s1_eq fuel  l).trans (congr (Eq.refl (refFromF_s1 (R := Out) l)) (funext fun a0 => (refFromF_l1_eq fuel l (kont (qa47 fuel) (bodyOf Tryd.prog 132) [1, 1, 0, 1, 0] 4 (endK Tryd.prog 0 0 132)) fuel a0).trans (congrFun (congrFun (congr (congr (Eq.refl (refFromF_l1 (R := Out) fuel l)) (funext fun x0 => funext fun x1 => funext fun x2 => (refFromF_s8_eq fuel  x0 x2 x1))) (funext fun x3 => (refFromF_s9_eq fuel  x3))) fuel) a0)))
theorem refFrom_word0 {R : Type} (fuel : Nat) (l : List Int) (hl : l.length ≤ 512) (w1 : Int) (a b : Int) (c : Bool) (k0 : Int → Int → Int → Int → Bool → Bool → Option R) : ∀ (n k : Nat), n ≤ 64 → n < k → refFromF_l2 fuel l w1 k0 k ((bn l / 2 ^ (64 * 0 + n) % 2 ^ (64 - n) : Nat) : Int) ((n : Int) - 1) a b c = k0 ((bn l / 2 ^ (64 * 0) % 18446744073709551616 : Nat) : Int) (-1) a b c false
  | n, 0, hn, hk => by omega
  | 0, k + 1, hn, hk => by
    unfold refFromF_l2 refFromF_s3
    rw [br_if, if_neg (by decide)]
    rfl
  | n + 1, k + 1, hn, hk => by
    unfold refFromF_l2 refFromF_s3
    obtain ⟨hp, hlt⟩ := bn_step l 0 n (by omega)
    have ih := refFrom_word0 fuel l hl w1 a b c k0 n k (by omega) (by omega)
    have e1 : IntKind.i64.wrap (0 + (((n + 1 : Nat) : Int) - 1)) = ((64 * 0 + n : Nat) : Int) := by rw [wrap_i64 (by omega) (by omega)]; omega
    have e2 : IntKind.i64.wrap (((n + 1 : Nat) : Int) - 1 - 1) = (n : Int) - 1 := by rw [wrap_i64 (by omega) (by omega)]; omega
    generalize bn l / 2 ^ (64 * 0 + (n + 1)) % 2 ^ (64 - (n + 1)) = x at *
    have w1 : IntKind.u64.wrap (2 * (x : Int)) = 2 * (x : Int) := wrap_u64 (by omega) (by omega)
    have w2 : IntKind.u64.wrap (2 * (x : Int) + 1) = 2 * (x : Int) + 1 := wrap_u64 (by omega) (by omega)
    rw [hp] at ih
    rw [br_if, if_pos (by simp), br_if, e1, e2, w1, w2]
    by_cases hin : 64 * 0 + n < l.length
    · rw [if_pos (by simp; omega), bnd_of ((ix_nat l _).trans (show _ = some (l.getD (64 * 0 + n) 0) by rw [List.getD_eq_getElem?_getD, List.getElem?_eq_getElem hin]; rfl)), br_if]
      by_cases h1 : l.getD (64 * 0 + n) 0 = 1
      · rw [if_pos (by simpa using h1)]
        rw [if_pos h1] at ih
        rw [← ih]
        congr 1 <;> omega
      · rw [if_neg (by simpa using h1)]
        rw [if_neg h1] at ih
        rw [← ih]
        congr 1 <;> omega
    · rw [if_neg (by simp; omega)]
      have h1 : ¬ l.getD (64 * 0 + n) 0 = 1 := by
        rw [List.getD_eq_getElem?_getD, List.getElem?_eq_none (by omega)]; simp
      rw [if_neg h1] at ih
      rw [← ih]
      congr 1 <;> omega
theorem refFrom_word {R : Type} (fuel : Nat) (l : List Int) (hl : l.length ≤ 512) (i : Nat) (hi : i ≤ 8) (w1 : Int) (w171 : Nat) (w172 : List Int) (a b : Int) (c : Bool) (k0 : Int → Int → Int → Int → Bool → Bool → Option R) : ∀ (n k : Nat), n ≤ 64 → n < k → refFromF_l4 fuel l (i : Int) w1 w171 w172 k0 k ((bn l / 2 ^ (64 * i + n) % 2 ^ (64 - n) : Nat) : Int) ((n : Int) - 1) a b c = k0 ((bn l / 2 ^ (64 * i) % 18446744073709551616 : Nat) : Int) (-1) a b c false
  | n, 0, hn, hk => by omega
  | 0, k + 1, hn, hk => by
    unfold refFromF_l4 refFromF_s6
    rw [br_if, if_neg (by decide)]
    rfl
  | n + 1, k + 1, hn, hk => by
    unfold refFromF_l4 refFromF_s6
    obtain ⟨hp, hlt⟩ := bn_step l i n (by omega)
    have ih := refFrom_word fuel l hl i hi w1 w171 w172 a b c k0 n k (by omega) (by omega)
    have e1 : IntKind.i64.wrap (IntKind.i64.wrap (64 * (i : Int)) + (((n + 1 : Nat) : Int) - 1)) = ((64 * i + n : Nat) : Int) := by rw [wrap_i64 (x := 64 * (i : Int)) (by omega) (by omega), wrap_i64 (by omega) (by omega)]; omega
    have e2 : IntKind.i64.wrap (((n + 1 : Nat) : Int) - 1 - 1) = (n : Int) - 1 := by rw [wrap_i64 (by omega) (by omega)]; omega
    generalize bn l / 2 ^ (64 * i + (n + 1)) % 2 ^ (64 - (n + 1)) = x at *
    have w1 : IntKind.u64.wrap (2 * (x : Int)) = 2 * (x : Int) := wrap_u64 (by omega) (by omega)
    have w2 : IntKind.u64.wrap (2 * (x : Int) + 1) = 2 * (x : Int) + 1 := wrap_u64 (by omega) (by omega)
    rw [hp] at ih
    rw [br_if, if_pos (by simp), br_if, e1, e2, w1, w2]
    by_cases hin : 64 * i + n < l.length
    · rw [if_pos (by simp; omega), bnd_of ((ix_nat l _).trans (show _ = some (l.getD (64 * i + n) 0) by rw [List.getD_eq_getElem?_getD, List.getElem?_eq_getElem hin]; rfl)), br_if]
      by_cases h1 : l.getD (64 * i + n) 0 = 1
      · rw [if_pos (by simpa using h1)]
        rw [if_pos h1] at ih
        rw [← ih]
        congr 1 <;> omega
      · rw [if_neg (by simpa using h1)]
        rw [if_neg h1] at ih
        rw [← ih]
        congr 1 <;> omega
    · rw [if_neg (by simp; omega)]
      have h1 : ¬ l.getD (64 * i + n) 0 = 1 := by
        rw [List.getD_eq_getElem?_getD, List.getElem?_eq_none (by omega)]; simp
      rw [if_neg h1] at ih
      rw [← ih]
      congr 1 <;> omega
theorem refFrom_rest {R : Type} (F : Nat) (hF : 70 ≤ F) (l : List Int) (hl : l.length ≤ 512) (w1 : Int) (k0 : Nat → List Int → Option R) : ∀ (k i : Nat), i ≤ nw (l.length : Int) → nw (l.length : Int) < i + k → refFromF_l3 F l w1 k0 k (i : Int) i (words i (bn l)) = k0 (nw (l.length : Int)) (words (nw (l.length : Int)) (bn l))
  | 0, i, h1, h2 => by omega
  | k + 1, i, h1, h2 => by
    have hn := nw_le (n := (l.length : Int)) (by omega)
    unfold refFromF_l3 refFromF_s5
    rw [grd_of (by simp; omega), br_if]
    by_cases hc : i < nw (l.length : Int)
    · rw [if_pos (by simpa using hc)]
      have h := refFrom_word (R := R) F l hl i (by omega) w1 i (words i (bn l)) (l.length : Int) ((nw (l.length : Int) : Nat) : Int) (decide ((i : Int) < ((nw (l.length : Int) : Nat) : Int)))
      have h := fun k0 => h k0 64 F (by omega) (by omega)
      rw [show bn l / 2 ^ (64 * i + 64) % 2 ^ (64 - 64) = 0 by rw [Nat.sub_self]; omega, show ((64 : Nat) : Int) - 1 = 63 from rfl, Int.natCast_zero] at h
      dsimp only
      rw [h]
      unfold refFromF_s7
      rw [grd_of (by rw [length_words]; exact beq_self _), grd_of (okN_of (by omega) (by omega)), wrap_i64 (by omega) (by omega), ← words_snoc, length_words, show (i : Int) + 1 = ((i + 1 : Nat) : Int) by omega]
      exact refFrom_rest F hF l hl w1 k0 k (i + 1) (by omega) (by omega)
    · rw [if_neg (by simpa using hc), show i = nw (l.length : Int) by omega]
theorem refFrom_fact (l : List Int) (hg : (decide (l.length ≤ 512)) = true) : Fact Tryd.prog gTab 132 [.li .i64 l] [] (.agg [.s (.int .i64 ((l.length : Nat) : Int)), .li .u64 (fromS l)], []) := by
  have hl := of_decide_eq_true hg
  obtain ⟨F, hF⟩ : ∃ F : Nat, F = 99 := ⟨_, rfl⟩
  have hn := nw_le (n := (l.length : Int)) (by omega)
  have hn2 := nw_cast (n := (l.length : Int)) (by omega)
  rw [fromS_eq]
  unfold fromI
  by_cases h0 : l.length = 0
  · refine Fact.out (v := .agg [.s (.int .i64 ((l.length : Nat) : Int)), .s (.slice none 0 0)]) (bs' := []) ?_ (fun _ _ _ x h => RV_agg_two (fun _ h => RVs_two (fun _ h => h) (fun _ h => RVs_two (fun _ h => (show words (nw (l.length : Int)) (bn l) = [] by rw [show nw (l.length : Int) = 0 by omega]; rfl) ▸ RV_nil_li h) (fun _ h => h) h) h) h)
    refine callN_fact hN hM T_refIn1_ok (n := F + 1) (mode := mode4) ?_
    rw [refFromF_eq]
    unfold refFromF refFromF_s1
    dsimp only
    unfold refFromF_l1 refFromF_s2
    dsimp only
    rw [grd_of (by simp; omega), br_if, if_neg (by simp; omega)]
    rfl
  · refine callN_fact hN hM T_refIn1_ok (n := F + 1) (mode := mode4) ?_
    rw [refFromF_eq]
    unfold refFromF refFromF_s1
    dsimp only
    unfold refFromF_l1 refFromF_s2
    dsimp only
    rw [grd_of (by simp; omega), br_if, if_pos (by simp; omega)]
    have h := refFrom_word0 (R := Out) (F + 1) l hl (l.length : Int) (l.length : Int) ((nw (l.length : Int) : Nat) : Int) (decide ((0 : Int) < ((nw (l.length : Int) : Nat) : Int)))
    have h := fun k0 => h k0 64 (F + 1) (by omega) (by omega)
    rw [show bn l / 2 ^ (64 * 0 + 64) % 2 ^ (64 - 64) = 0 by rw [Nat.sub_self]; omega, show ((64 : Nat) : Int) - 1 = 63 from rfl, Int.natCast_zero] at h
    rw [h]
    unfold refFromF_s4
    have hr := fun k0 => refFrom_rest (R := Out) (F + 1) (by omega) l hl (l.length : Int) k0 F 1 (by omega) (by omega)
    rw [show words 1 (bn l) = [((bn l / 2 ^ (64 * 0) % 18446744073709551616 : Nat) : Int)] by simp [words], show ((1 : Nat) : Int) = 1 from rfl] at hr
    dsimp only
    rw [hr]
    unfold refFromF_s8
    rw [List.drop_zero, List.take_of_length_le (by rw [length_words]; omega)]
noncomputable def refFrom_ent : List V → List Blk → Option (Bool × Out)
  | [w0], [] => (asSl (.int .i64) w0).bind fun l => some ((decide (l.length ≤ 512)), (.agg [.s (.int .i64 ((l.length : Nat) : Int)), .li .u64 (fromS l)], []))
  | _, _ => none
theorem refFrom_ok : ∀ args bs out, refFrom_ent args bs = some (true, out) → Fact Tryd.prog gTab 132 args bs out := by
  intro args bs out h
  unfold refFrom_ent at h
  split at h
  · rename_i w0
    obtain ⟨l, h_l, h⟩ := Option.bind_eq_some_iff.1 h
    simp only [Option.some.injEq, Prod.mk.injEq] at h
    obtain ⟨hg, rfl⟩ := h
    exact (refFrom_fact l hg).args (fun _ _ _ => fun _ h => RVs_two (fun _ h => RV_li h_l h) (fun _ h => h) h)
  · cases h
noncomputable def T_refFrom : Tbl := Tbl.cons 132 refFrom_ent T_refIn1
theorem T_refFrom_ok : CallOk Tryd.prog gTab T_refFrom := cons_ok T_refIn1_ok refFrom_ok
/-! downpour/downpourref01.Of -/
noncomputable abbrev qa54 : Nat × Option Blk := (0, some ⟨44, .agg [vI 0, vN], true⟩)
noncomputable abbrev qa55 (fuel : Nat) : Ctx Out := (fnX Tryd.prog mode4 T_refFrom fuel 23 0)
noncomputable abbrev qa56 : Code := (sub (bodyOf Tryd.prog 135) [1, 1, 0, 1, 0, 0])
noncomputable def refOfF_s2 {R : Type} (w2 n : Int) (l w3 : List Int) (w1 : Nat) (c0 c1 : Nat → Int → List Int → Option R) (c2 : Nat → List Int → Option R) : Option R :=
  br (decide (w2 < n))
    (grd (decide (List.length (α := Int) l ≤ 1000000)) <|
    br (inL l w2)
      (grd (Nat.beq w3.length w1) <|
      grd (okN (w1 + 1) 8) <|
      c0 ((w3 ++ [1]).length) (IntKind.i64.wrap (w2 + 1)) (w3 ++ [1]))
      (grd (Nat.beq w3.length w1) <|
      grd (okN (w1 + 1) 8) <|
      c1 ((w3 ++ [0]).length) (IntKind.i64.wrap (w2 + 1)) (w3 ++ [0])))
    (c2 w1 w3)
theorem refOfF_s2_eq (fuel k : Nat) (K : Ex → St → Option Out) (w2 n : Int) (l w3 : List Int) (w1 : Nat) : lpN qa56 (qa55 fuel) 6291504 [0, 1, 4, 5, 6] (k + 1) ⟨[(0, vI n), (1, vL l), (4, .ptr 0 2 0 0), (5, .sl 1 1 0 w1), (6, vI w2)], [qa54, (1, bL 3 w3)], 2, none⟩ K = refOfF_s2 w2 n l w3 w1 (fun a6 a7 a8 => lpN qa56 (qa55 fuel) 6291504 [0, 1, 4, 5, 6] k ⟨[(0, vI n), (1, vL l), (4, .ptr 0 2 0 0), (5, .sl 1 1 0 a6), (6, vI a7)], [qa54, (1, bL 3 a8)], 2, none⟩ K) (fun a9 a0 a1 => lpN qa56 (qa55 fuel) 6291504 [0, 1, 4, 5, 6] k ⟨[(0, vI n), (1, vL l), (4, .ptr 0 2 0 0), (5, .sl 1 1 0 a9), (6, vI a0)], [qa54, (1, bL 3 a1)], 2, none⟩ K) (fun a2 a3 => K (.exit 0) ⟨[(4, .ptr 0 2 0 0), (5, .sl 1 1 0 a2)], [qa54, (1, bL 3 a3)], 2, none⟩) := by kernel_rfl
noncomputable def refOfF_l1 {R : Type} (fuel : Nat) (n : Int) (l : List Int) (k0 : Nat → List Int → Option R) : Nat → Nat → Int → List Int → Option R
  | 0, _, _, _ => none
  | k + 1, w1, w2, w3 =>
    (refOfF_s2 w2 n l w3 w1 (fun a6 a7 a8 => ( refOfF_l1 fuel n l k0 k a6 a7 a8 )) (fun a9 a0 a1 => ( refOfF_l1 fuel n l k0 k a9 a0 a1 )) (fun a2 a3 => k0 a2 a3))
theorem refOfF_l1_eq (fuel : Nat) (n : Int) (l : List Int) (K : Ex → St → Option Out) : ∀ (k w1 : Nat) (w2 : Int) (w3 : List Int), lpN qa56 (qa55 fuel) 6291504 [0, 1, 4, 5, 6] k ⟨[(0, vI n), (1, vL l), (4, .ptr 0 2 0 0), (5, .sl 1 1 0 w1), (6, vI w2)], [qa54, (1, bL 3 w3)], 2, none⟩ K = refOfF_l1 fuel n l (fun y4 y5 => K (.exit 0) ⟨[(4, .ptr 0 2 0 0), (5, .sl 1 1 0 y4)], [qa54, (1, bL 3 y5)], 2, none⟩) k w1 w2 w3
  | 0, _, _, _ => rfl
  | k + 1, w1, w2, w3 => by
    unfold refOfF_l1
    exact (refOfF_s2_eq fuel k K w2 n l w3 w1).trans (congr (congr (congr (Eq.refl (refOfF_s2 (R := Out) w2 n l w3 w1)) (funext fun a6 => funext fun a7 => funext fun a8 => refOfF_l1_eq fuel n l K k a6 a7 a8)) (funext fun a9 => funext fun a0 => funext fun a1 => refOfF_l1_eq fuel n l K k a9 a0 a1)) (rfl))
noncomputable def refOfF_s3 {R : Type} (x0 : List Int) (x1 : Nat) (c0 : Int → List Int → Option R) : Option R :=
  grd (decide (((x0.drop 0).take x1).length ≤ 512)) <|
  c0 ((((x0.drop 0).take x1).length : Nat) : Int) (fromS ((x0.drop 0).take x1))
theorem refOfF_s3_eq (fuel : Nat)  (x0 : List Int) (x1 : Nat) : (kont (qa55 fuel) (bodyOf Tryd.prog 135) [1, 1, 0, 1, 0] 16 (endK Tryd.prog 0 0 135)) (.exit 0) ⟨[(4, .ptr 0 2 0 0), (5, .sl 1 1 0 x1)], [qa54, (1, bL 3 x0)], 2, none⟩ = refOfF_s3 x0 x1 (fun a0 a1 => some (.agg [vI a0, vW a1], [])) := by kernel_rfl
noncomputable def refOfF_s1 {R : Type} (n : Int) (l : List Int) (c0 : Nat → Int → List Int → Option R) : Option R :=
  c0 0 0 ([])
theorem refOfF_s1_eq (fuel : Nat)  (n : Int) (l : List Int) : callN Tryd.prog mode4 T_refFrom fuel 135 [vI n, vL l] [] = refOfF_s1 n l (fun a0 a1 a2 => lpN qa56 (qa55 fuel) 6291504 [0, 1, 4, 5, 6] fuel ⟨[(0, vI n), (1, vL l), (4, .ptr 0 2 0 0), (5, .sl 1 1 0 a0), (6, vI a1)], [qa54, (1, bL 3 a2)], 2, none⟩ (kont (qa55 fuel) (bodyOf Tryd.prog 135) [1, 1, 0, 1, 0] 16 (endK Tryd.prog 0 0 135))) := by kernel_rfl
noncomputable def refOfF {R : Type} (fuel : Nat) (n : Int) (l : List Int) (r0 : Int → List Int → Option R) : Option R :=
  (refOfF_s1 n l (fun a0 a1 a2 => (refOfF_l1 fuel n l (fun x0 x1 => (refOfF_s3 x1 x0 (fun a3 a4 => r0 a3 a4))) fuel a0 a1 a2)))
theorem refOfF_eq (fuel : Nat) (n : Int) (l : List Int) : callN Tryd.prog mode4 T_refFrom fuel 135 [.s (.int .i64 n), .li .i64 l] [] = refOfF fuel n l (fun z0 z1 => some (.agg [.s (.int .i64 z0), .li .u64 z1], [])) := by
  unfold refOfF
  exact (refOfF_s1_eq fuel  n l).trans (congr (Eq.refl (refOfF_s1 (R := Out) n l)) (funext fun a0 => funext fun a1 => funext fun a2 => (refOfF_l1_eq fuel n l (kont (qa55 fuel) (bodyOf Tryd.prog 135) [1, 1, 0, 1, 0] 16 (endK Tryd.prog 0 0 135)) fuel a0 a1 a2).trans (congrFun (congrFun (congrFun (congrFun (congr (Eq.refl (refOfF_l1 (R := Out) fuel n l)) (funext fun x0 => funext fun x1 => (refOfF_s3_eq fuel  x1 x0))) fuel) a0) a1) a2)))
theorem refOf_loop {R : Type} (fuel : Nat) (n : Nat) (l : List Int) (hn : n ≤ 512) (hl : l.length ≤ 1000000) (k0 : Nat → List Int → Option R) : ∀ (k j : Nat), j ≤ n → n < j + k → refOfF_l1 fuel (n : Int) l k0 k j (j : Int) (bitsL j l) = k0 n (bitsL n l)
  | 0, j, h1, h2 => by omega
  | k + 1, j, h1, h2 => by
    unfold refOfF_l1 refOfF_s2
    rw [br_if]
    by_cases hc : j < n
    · have ih := refOf_loop fuel n l hn hl k0 k (j + 1) (by omega) (by omega)
      rw [bitsL_succ] at ih
      rw [if_pos (by simpa using hc), grd_of (decide_eq_true hl), br_if, wrap_i64 (by omega) (by omega), show (j : Int) + 1 = ((j + 1 : Nat) : Int) by omega]
      by_cases hm : inL l (j : Int) = true
      · rw [if_pos hm] at ih
        rw [if_pos hm, grd_of (by rw [bitsL_len]; exact beq_self _), grd_of (okN_of (by omega) (by omega)), List.length_append, bitsL_len]
        exact ih
      · rw [if_neg hm] at ih
        rw [if_neg hm, grd_of (by rw [bitsL_len]; exact beq_self _), grd_of (okN_of (by omega) (by omega)), List.length_append, bitsL_len]
        exact ih
    · rw [if_neg (by simpa using hc), show j = n by omega]
theorem refOf_fact (n : Int) (l : List Int) (hg : (decide (0 ≤ n) && decide (n ≤ 512) && decide (l.length ≤ 1000000)) = true) : Fact Tryd.prog gTab 135 [.s (.int .i64 n), .li .i64 l] [] (.agg [.s (.int .i64 n), .li .u64 (ofS n l)], []) := by
  simp only [Bool.and_eq_true, decide_eq_true_eq] at hg
  obtain ⟨⟨h0, h1⟩, h2⟩ := hg
  obtain ⟨j, rfl⟩ : ∃ j : Nat, n = (j : Int) := ⟨n.toNat, by omega⟩
  refine callN_fact hN hM T_refFrom_ok (n := j + 1) (mode := mode4) ?_
  rw [refOfF_eq]
  unfold refOfF refOfF_s1
  have h := fun k0 => refOf_loop (R := Out) (j + 1) j l (by omega) h2 k0 (j + 1) 0 (by omega) (by omega)
  rw [show bitsL 0 l = [] from rfl, Int.natCast_zero] at h
  dsimp only
  rw [h]
  unfold refOfF_s3
  rw [List.drop_zero, List.take_of_length_le (by rw [bitsL_len]; omega), bitsL_len, grd_of (by simp; omega), from_bits]
noncomputable def refOf_ent : List V → List Blk → Option (Bool × Out)
  | [.s (.int .i64 n), w0], [] => (asSl (.int .i64) w0).bind fun l => some ((decide (0 ≤ n) && decide (n ≤ 512) && decide (l.length ≤ 1000000)), (.agg [.s (.int .i64 n), .li .u64 (ofS n l)], []))
  | _, _ => none
theorem refOf_ok : ∀ args bs out, refOf_ent args bs = some (true, out) → Fact Tryd.prog gTab 135 args bs out := by
  intro args bs out h
  unfold refOf_ent at h
  split at h
  · rename_i n w0
    obtain ⟨l, h_l, h⟩ := Option.bind_eq_some_iff.1 h
    simp only [Option.some.injEq, Prod.mk.injEq] at h
    obtain ⟨hg, rfl⟩ := h
    exact (refOf_fact n l hg).args (fun _ _ _ => fun _ h => RVs_two (fun _ h => h) (fun _ h => RVs_two (fun _ h => RV_li h_l h) (fun _ h => h) h) h)
  · cases h
noncomputable def T_refOf : Tbl := Tbl.cons 135 refOf_ent T_refFrom
theorem T_refOf_ok : CallOk Tryd.prog gTab T_refOf := cons_ok T_refFrom_ok refOf_ok
/-! downpour/downpourref01.Bit -/
noncomputable def refBitF_s1 {R : Type} (i : Int) (ws : List Int) (n : Int) (c0 : Int → Option R) : Option R :=
  bnd (divI .quo .i64 i 64) fun v1 =>
  bnd (ix ws v1) fun e2 =>
  bnd (divI .rem .i64 i 64) fun v3 =>
  bnd (shfI .shr .u64 e2 v3) fun v4 =>
  bnd (divI .rem .u64 v4 2) fun v5 =>
  c0 (IntKind.i64.wrap v5)
theorem refBitF_s1_eq (fuel : Nat)  (i : Int) (ws : List Int) (n : Int) : callN Tryd.prog mode4 T_refOf fuel 114 [.agg [vI n, vW ws], vI i] [] = refBitF_s1 i ws n (fun a6 => some (vI a6, [])) := by kernel_rfl
noncomputable def refBitF {R : Type} (fuel : Nat) (n : Int) (ws : List Int) (i : Int) (r0 : Int → Option R) : Option R :=
  (refBitF_s1 i ws n (fun a6 => r0 a6))
theorem refBitF_eq (fuel : Nat) (n : Int) (ws : List Int) (i : Int) : callN Tryd.prog mode4 T_refOf fuel 114 [.agg [.s (.int .i64 n), .li .u64 ws], .s (.int .i64 i)] [] = refBitF fuel n ws i (fun z0 => some (.s (.int .i64 z0), [])) := by
  unfold refBitF
  exact (refBitF_s1_eq fuel  i ws n)
theorem refBit_fact (n : Int) (ws : List Int) (i : Int) (hg : (okW ws && decide (0 ≤ i) && decide (i < 64 * (ws.length : Int)) && decide (ws.length ≤ 1000000)) = true) : Fact Tryd.prog gTab 114 [.agg [.s (.int .i64 n), .li .u64 ws], .s (.int .i64 i)] [] (.s (.int .i64 (bitS ws i)), []) := by
  simp only [Bool.and_eq_true, decide_eq_true_eq] at hg
  obtain ⟨⟨⟨h1, h2⟩, h3⟩, h4⟩ := hg
  have hok := okW_iff.1 h1
  refine callN_fact hN hM T_refOf_ok (n := 0) (mode := mode4) ?_
  rw [refBitF_eq]
  unfold refBitF refBitF_s1
  obtain ⟨j, rfl⟩ : ∃ j : Nat, i = (j : Int) := ⟨i.toNat, by omega⟩
  have hj : j / 64 < ws.length := by omega
  have e1 : divI .quo .i64 (j : Int) 64 = some ((j / 64 : Nat) : Int) := by rw [quo_i64 (by omega) (by omega) (by decide)]; norm_cast
  have e2 : divI .rem .i64 (j : Int) 64 = some ((j % 64 : Nat) : Int) := by rw [rem_pos (by omega) (by decide)]; norm_cast
  have e4 : ix ws ((j / 64 : Nat) : Int) = some (ws.getD (j / 64) 0) := by rw [ix_nat, List.getD_eq_getElem?_getD, List.getElem?_eq_getElem hj]; rfl
  have hg := hok.getD (j / 64)
  have hb64 : j % 64 < 64 := Nat.mod_lt _ (by decide)
  have e5 : divI .rem .u64 (((ws.getD (j / 64) 0).toNat / 2 ^ (j % 64) : Nat) : Int) 2 = some (((ws.getD (j / 64) 0).toNat / 2 ^ (j % 64) % 2 : Nat) : Int) := by rw [rem_pos (Int.natCast_nonneg _) (by decide)]; norm_cast
  simp only [e1, bnd_some, e4, e2, shr_nat hg.1 hb64, e5]
  have hw : IntKind.i64.wrap (((ws.getD (j / 64) 0).toNat / 2 ^ (j % 64) % 2 : Nat) : Int) = bitS ws (j : Int) := by
    rw [wrap_i64 (by omega) (by omega), bitS_eq]
    unfold bitI
    rw [Int.toNat_natCast, testBit_val hok, Nat.testBit_eq_decide_div_mod_eq]
    generalize (ws.getD (j / 64) 0).toNat / 2 ^ (j % 64) = q
    by_cases h : q % 2 = 1
    · simp [h]
    · simp [h]; omega
  rw [hw]
noncomputable def refBit_ent : List V → List Blk → Option (Bool × Out)
  | [.agg [.s (.int .i64 n), w0], .s (.int .i64 i)], [] => (asSl (.int .u64) w0).bind fun ws => some ((okW ws && decide (0 ≤ i) && decide (i < 64 * (ws.length : Int)) && decide (ws.length ≤ 1000000)), (.s (.int .i64 (bitS ws i)), []))
  | _, _ => none
theorem refBit_ok : ∀ args bs out, refBit_ent args bs = some (true, out) → Fact Tryd.prog gTab 114 args bs out := by
  intro args bs out h
  unfold refBit_ent at h
  split at h
  · rename_i n w0 i
    obtain ⟨ws, h_ws, h⟩ := Option.bind_eq_some_iff.1 h
    simp only [Option.some.injEq, Prod.mk.injEq] at h
    obtain ⟨hg, rfl⟩ := h
    exact (refBit_fact n ws i hg).args (fun _ _ _ => fun _ h => RVs_two (fun _ h => RV_agg_two (fun _ h => RVs_two (fun _ h => h) (fun _ h => RVs_two (fun _ h => RV_li h_ws h) (fun _ h => h) h) h) h) (fun _ h => h) h)
  · cases h
noncomputable def T_refBit : Tbl := Tbl.cons 114 refBit_ent T_refOf
theorem T_refBit_ok : CallOk Tryd.prog gTab T_refBit := cons_ok T_refOf_ok refBit_ok
/-! downpour/downpourref01.Right -/
noncomputable abbrev qa57 (fuel : Nat) : Ctx Out := (fnX Tryd.prog mode4 T_refBit fuel 35 0)
noncomputable def refRightF_s2 {R : Type} (w4 : Int) (ws : List Int) (n : Int) (c0 : Option R) (c1 : Int → Option R) (c2 : Option R) : Option R :=
  br (decide (w4 < (IntKind.i64.wrap (64 * ((ws.length : Nat) : Int)))))
    (grd (okW ws && decide (0 ≤ w4) && decide (w4 < 64 * (ws.length : Int)) && decide (ws.length ≤ 1000000)) <|
    br (((bitS ws w4) : Int) == 1)
      (c0)
      (c1 (IntKind.i64.wrap (w4 + 1))))
    (c2)
theorem refRightF_s2_eq (fuel k : Nat) (K : Ex → St → Option Out) (w4 : Int) (ws : List Int) (n : Int) : lpN (sub (bodyOf Tryd.prog 59) [1, 1, 0, 1, 0, 0]) (qa57 fuel) 4 [1, 2, 3] (k + 1) ⟨[(1, .ptr 0 2 0 0), (2, vB false), (3, vI w4)], [(0, some ⟨44, .agg [vI n, vW ws], true⟩)], 1, none⟩ K = refRightF_s2 w4 ws n (K .ret ⟨[(2, vB false)], [], 0, none⟩) (fun a5 => lpN (sub (bodyOf Tryd.prog 59) [1, 1, 0, 1, 0, 0]) (qa57 fuel) 4 [1, 2, 3] k ⟨[(1, .ptr 0 2 0 0), (2, vB false), (3, vI a5)], [(0, some ⟨44, .agg [vI n, vW ws], true⟩)], 1, none⟩ K) (K (.exit 0) ⟨[(2, vB false)], [], 0, none⟩) := by kernel_rfl
noncomputable def refRightF_l1 {R : Type} (fuel : Nat) (n : Int) (ws : List Int) (k0 k1 : Option R) : Nat → Int → Option R
  | 0, _ => none
  | k + 1, w4 =>
    (refRightF_s2 w4 ws n (k0) (fun a5 => ( refRightF_l1 fuel n ws k0 k1 k a5 )) (k1))
theorem refRightF_l1_eq (fuel : Nat) (n : Int) (ws : List Int) (K : Ex → St → Option Out) : ∀ (k : Nat) (w4 : Int), lpN (sub (bodyOf Tryd.prog 59) [1, 1, 0, 1, 0, 0]) (qa57 fuel) 4 [1, 2, 3] k ⟨[(1, .ptr 0 2 0 0), (2, vB false), (3, vI w4)], [(0, some ⟨44, .agg [vI n, vW ws], true⟩)], 1, none⟩ K = refRightF_l1 fuel n ws (K .ret ⟨[(2, vB false)], [], 0, none⟩) (K (.exit 0) ⟨[(2, vB false)], [], 0, none⟩) k w4
  | 0, _ => rfl
  | k + 1, w4 => by
    unfold refRightF_l1
    exact (refRightF_s2_eq fuel k K w4 ws n).trans (congr (congr (congr (Eq.refl (refRightF_s2 (R := Out) w4 ws n)) (rfl)) (funext fun a5 => refRightF_l1_eq fuel n ws K k a5)) (rfl))
noncomputable def refRightF_s3 {R : Type}  (c0 : Bool → Option R) : Option R :=
  c0 false
theorem refRightF_s3_eq (fuel : Nat)   : (kont (qa57 fuel) (bodyOf Tryd.prog 59) [1, 1, 0, 1, 0] 4 (endK Tryd.prog 0 0 59)) .ret ⟨[(2, vB false)], [], 0, none⟩ = refRightF_s3  (fun a7 => some (vB a7, [])) := by kernel_rfl
noncomputable def refRightF_s4 {R : Type}  (c0 : Bool → Option R) : Option R :=
  c0 true
theorem refRightF_s4_eq (fuel : Nat)   : (kont (qa57 fuel) (bodyOf Tryd.prog 59) [1, 1, 0, 1, 0] 4 (endK Tryd.prog 0 0 59)) (.exit 0) ⟨[(2, vB false)], [], 0, none⟩ = refRightF_s4  (fun a8 => some (vB a8, [])) := by kernel_rfl
noncomputable def refRightF_s1 {R : Type} (n : Int) (ws : List Int) (c0 : Bool → Option R) (c1 : Int → Option R) : Option R :=
  br (decide (n < 0))
    (c0 false)
    (br (decide (n > 512))
      (c0 false)
      (grd (decide (0 ≤ n) && decide (n ≤ 1000000)) <|
      br ((((ws.length : Nat) : Int) : Int) != (((nw n : Nat) : Int)))
        (c0 false)
        (c1 n)))
theorem refRightF_s1_eq (fuel : Nat)  (n : Int) (ws : List Int) : callN Tryd.prog mode4 T_refBit fuel 59 [.agg [vI n, vW ws]] [] = refRightF_s1 n ws (fun a1 => some (vB a1, [])) (fun a6 => lpN (sub (bodyOf Tryd.prog 59) [1, 1, 0, 1, 0, 0]) (qa57 fuel) 4 [1, 2, 3] fuel ⟨[(1, .ptr 0 2 0 0), (2, vB false), (3, vI a6)], [(0, some ⟨44, .agg [vI n, vW ws], true⟩)], 1, none⟩ (kont (qa57 fuel) (bodyOf Tryd.prog 59) [1, 1, 0, 1, 0] 4 (endK Tryd.prog 0 0 59))) := by kernel_rfl
noncomputable def refRightF {R : Type} (fuel : Nat) (n : Int) (ws : List Int) (r0 : Bool → Option R) : Option R :=
  (refRightF_s1 n ws (fun a1 => r0 a1) (fun a6 => (refRightF_l1 fuel n ws ((refRightF_s3 (fun a7 => r0 a7))) ((refRightF_s4 (fun a8 => r0 a8))) fuel a6)))
theorem refRightF_eq (fuel : Nat) (n : Int) (ws : List Int) : callN Tryd.prog mode4 T_refBit fuel 59 [.agg [.s (.int .i64 n), .li .u64 ws]] [] = refRightF fuel n ws (fun z0 => some (.s (.bool z0), [])) := by
  unfold refRightF
  exact (refRightF_s1_eq fuel  n ws).trans (congr (congr (Eq.refl (refRightF_s1 (R := Out) n ws)) (rfl)) (funext fun a6 => (refRightF_l1_eq fuel n ws (kont (qa57 fuel) (bodyOf Tryd.prog 59) [1, 1, 0, 1, 0] 4 (endK Tryd.prog 0 0 59)) fuel a6).trans (congrFun (congrFun (congr (congr (Eq.refl (refRightF_l1 (R := Out) fuel n ws)) ((refRightF_s3_eq fuel  ))) ((refRightF_s4_eq fuel  ))) fuel) a6)))
open Classical in
theorem refRight_loop {R : Type} (fuel : Nat) (n : Int) (ws : List Int) (hok : okW ws = true) (hx : ws.length ≤ 8) (k0 k1 : Option R) : ∀ (k j : Nat), j ≤ 64 * ws.length → 64 * ws.length < j + k → refRightF_l1 fuel n ws k0 k1 k (j : Int) = if ∃ i, j ≤ i ∧ i < 64 * ws.length ∧ (val ws).testBit i = true then k0 else k1
  | 0, j, h1, h2 => by omega
  | k + 1, j, h1, h2 => by
    unfold refRightF_l1 refRightF_s2
    rw [wrap_i64 (x := 64 * ((ws.length : Nat) : Int)) (by omega) (by omega), br_if]
    by_cases hc : j < 64 * ws.length
    · rw [if_pos (by simp; omega), grd_of (by simp [hok]; omega), br_if, wrap_i64 (by omega) (by omega), show (j : Int) + 1 = ((j + 1 : Nat) : Int) by omega, bitS_eq]
      unfold bitI
      rw [Int.toNat_natCast]
      dsimp only
      by_cases hb : (val ws).testBit j = true
      · rw [if_pos (by simp [hb]), if_pos ⟨j, by omega, hc, hb⟩]
      · rw [if_neg (by simp [hb]), refRight_loop fuel n ws hok hx k0 k1 k (j + 1) (by omega) (by omega)]
        have : (∃ i, j + 1 ≤ i ∧ i < 64 * ws.length ∧ (val ws).testBit i = true) ↔ (∃ i, j ≤ i ∧ i < 64 * ws.length ∧ (val ws).testBit i = true) := by
          constructor
          · rintro ⟨i, a, b, c⟩; exact ⟨i, by omega, b, c⟩
          · rintro ⟨i, a, b, c⟩
            have : i ≠ j := by rintro rfl; exact hb c
            exact ⟨i, by omega, b, c⟩
        simp only [this]
    · rw [if_neg (by simp; omega), if_neg (by rintro ⟨i, a, b, _⟩; omega)]
theorem no_bits {v n m : Nat} (hv : v < 2 ^ m) : (¬ ∃ i, n ≤ i ∧ i < m ∧ v.testBit i = true) ↔ v < 2 ^ n := by
  constructor
  · intro h
    refine Nat.lt_pow_two_of_testBit _ fun i hi => ?_
    by_cases him : i < m
    · rw [Bool.eq_false_iff]; exact fun e => h ⟨i, hi, him, e⟩
    · exact Nat.testBit_lt_two_pow (Nat.lt_of_lt_of_le hv (Nat.pow_le_pow_right (by omega) (by omega)))
  · rintro h ⟨i, a, b, c⟩
    rw [Nat.testBit_lt_two_pow (Nat.lt_of_lt_of_le h (Nat.pow_le_pow_right (by omega) a))] at c
    cases c
theorem refRight_fact (n : Int) (ws : List Int) (hg : (okW ws) = true) : Fact Tryd.prog gTab 59 [.agg [.s (.int .i64 n), .li .u64 ws]] [] (.s (.bool (rtS n ws)), []) := by
  have hok := okW_iff.1 hg
  refine callN_fact hN hM T_refBit_ok (n := 600) (mode := mode4) ?_
  rw [refRightF_eq]
  unfold refRightF refRightF_s1
  have hno : ∀ h : ¬ rtS n ws = true, rtS n ws = false := fun h => by rw [Bool.eq_false_iff]; exact h
  rw [br_if, br_if]
  by_cases h0 : n < 0
  · rw [if_pos (by simpa using h0), hno fun h => by have := (rtS_iff.1 h).1.1; omega]
  · rw [if_neg (by simpa using h0)]
    by_cases h1 : n > 512
    · rw [if_pos (by simpa using h1), hno fun h => by have := (rtS_iff.1 h).1.2; omega]
    · rw [if_neg (by simpa using h1), grd_of (by simp; omega), br_if]
      by_cases hl : ws.length = nw n
      · rw [if_neg (by simp [hl])]
        dsimp only
        obtain ⟨j, rfl⟩ : ∃ j : Nat, n = (j : Int) := ⟨n.toNat, by omega⟩
        have hw := nw_cast (n := (j : Int)) (by omega)
        have hloop := refRight_loop (R := Out) 600 (j : Int) ws hg (by omega)
        rw [hloop _ _ 600 j (by omega) (by omega)]
        have hb := no_bits (n := j) (val_lt hok)
        by_cases hc : ∃ i, j ≤ i ∧ i < 64 * ws.length ∧ (val ws).testBit i = true
        · rw [if_pos hc, hno fun h => hb.2 (by have := (rtS_iff.1 h).2.2; rwa [Int.toNat_natCast] at this) hc]
          rfl
        · rw [if_neg hc, rtS_iff.2 ⟨⟨by omega, by omega⟩, hl, by rw [Int.toNat_natCast]; exact hb.1 hc⟩]
          rfl
      · rw [if_pos (by simp; omega), hno fun h => hl (rtS_iff.1 h).2.1]
noncomputable def refRight_ent : List V → List Blk → Option (Bool × Out)
  | [.agg [.s (.int .i64 n), w0]], [] => (asSl (.int .u64) w0).bind fun ws => some ((okW ws), (.s (.bool (rtS n ws)), []))
  | _, _ => none
theorem refRight_ok : ∀ args bs out, refRight_ent args bs = some (true, out) → Fact Tryd.prog gTab 59 args bs out := by
  intro args bs out h
  unfold refRight_ent at h
  split at h
  · rename_i n w0
    obtain ⟨ws, h_ws, h⟩ := Option.bind_eq_some_iff.1 h
    simp only [Option.some.injEq, Prod.mk.injEq] at h
    obtain ⟨hg, rfl⟩ := h
    exact (refRight_fact n ws hg).args (fun _ _ _ => fun _ h => RVs_two (fun _ h => RV_agg_two (fun _ h => RVs_two (fun _ h => h) (fun _ h => RVs_two (fun _ h => RV_li h_ws h) (fun _ h => h) h) h) h) (fun _ h => h) h)
  · cases h
noncomputable def T_refRight : Tbl := Tbl.cons 59 refRight_ent T_refBit
theorem T_refRight_ok : CallOk Tryd.prog gTab T_refRight := cons_ok T_refBit_ok refRight_ok
end Go.Proofs.YtfpdcfgjhkiklaaDoor
