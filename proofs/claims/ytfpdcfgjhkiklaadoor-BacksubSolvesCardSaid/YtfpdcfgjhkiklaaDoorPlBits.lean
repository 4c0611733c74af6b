/- The bits of a word, upward: its lowest one, and what is left when that is taken out. -/
import Derived.Lib.TrailingZeros
set_option linter.unusedSimpArgs false
set_option linter.unusedVariables false
set_option autoImplicit false
namespace Go.Proofs
end Go.Proofs
namespace Go.PM.Bits
open Go Go.Proofs

def bitsOf (v : Nat) : List Nat := (List.range 64).filter fun i => v.testBit i

theorem parts {v : Nat} (h0 : v ≠ 0) (h : v < 2 ^ 64) : ∃ m, v = 2 ^ Lib.ctz 64 v * (2 * m + 1) ∧ Lib.ctz 64 v < 64 := by
  unfold Lib.ctz
  rw [if_neg h0]
  exact Lib.ctzFrom_spec 64 v (Nat.pos_of_ne_zero h0) h

theorem bits_odd (c m i : Nat) : (2 ^ c * (2 * m + 1)).testBit i = if i < c then false else if i = c then true else m.testBit (i - c - 1) := by
  rw [Nat.testBit_two_pow_mul]
  by_cases h : i < c
  · rw [if_pos h]; simp; omega
  · rw [if_neg h]
    have : decide (i ≥ c) = true := decide_eq_true (by omega)
    rw [this, Bool.true_and]
    by_cases e : i = c
    · subst e; simp
    · rw [if_neg e]
      obtain ⟨j, hj⟩ : ∃ j, i - c = j + 1 := ⟨i - c - 1, by omega⟩
      rw [hj, Nat.testBit_succ]
      have : (2 * m + 1) / 2 = m := by omega
      rw [this, Nat.add_sub_cancel]

theorem bits_even (c m i : Nat) : (2 ^ (c + 1) * m).testBit i = if i ≤ c then false else m.testBit (i - c - 1) := by
  rw [Nat.testBit_two_pow_mul]
  by_cases h : i ≤ c
  · rw [if_pos h]; simp; omega
  · rw [if_neg h]
    have : decide (i ≥ c + 1) = true := decide_eq_true (by omega)
    rw [this, Bool.true_and]
    congr 1

theorem and_pred (c m : Nat) : (2 ^ c * (2 * m + 1)) &&& (2 ^ c * (2 * m + 1) - 1) = 2 ^ (c + 1) * m := by
  have e : 2 ^ c * (2 * m + 1) - 1 = 2 ^ (c + 1) * m + (2 ^ c - 1) := by
    have : 0 < 2 ^ c := Nat.two_pow_pos c
    rw [Nat.pow_succ, Nat.mul_add, Nat.mul_one, ← Nat.mul_assoc]; omega
  apply Nat.eq_of_testBit_eq
  intro i
  rw [Nat.testBit_and, bits_odd, bits_even, e]
  have hlt : 2 ^ c - 1 < 2 ^ (c + 1) := by have : 2 ^ c < 2 ^ (c + 1) := Nat.pow_lt_pow_right (by omega) (by omega); omega
  rw [Nat.testBit_two_pow_mul_add m hlt i]
  by_cases h1 : i < c
  · rw [if_pos h1, Bool.false_and, if_pos (show i ≤ c by omega)]
  · rw [if_neg h1]
    by_cases h2 : i = c
    · subst h2
      rw [if_pos rfl, if_pos (Nat.le_refl _), if_pos (by omega), Nat.testBit_two_pow_sub_one]; simp
    · rw [if_neg h2, if_neg (by omega), if_neg (by omega), Nat.sub_sub, Bool.and_self]

theorem bitsOf_step {v : Nat} (h0 : v ≠ 0) (h : v < 2 ^ 64) : bitsOf v = Lib.ctz 64 v :: bitsOf (v &&& (v - 1)) := by
  obtain ⟨m, e, hc⟩ := parts h0 h
  generalize Lib.ctz 64 v = c at e hc
  subst e
  rw [and_pred]
  unfold bitsOf
  have hr : List.range 64 = List.range c ++ c :: (List.range (63 - c)).map fun i => c + 1 + i := by
    have e1 : 64 = c + 1 + (63 - c) := by omega
    conv => lhs; rw [e1, List.range_add, List.range_succ]
    simp
  rw [hr, List.filter_append, List.filter_append, List.filter_cons, List.filter_cons]
  have a1 : (List.range c).filter (fun i => (2 ^ c * (2 * m + 1)).testBit i) = [] := by
    rw [List.filter_eq_nil_iff]; intro i hi; rw [bits_odd, if_pos (List.mem_range.1 hi)]; simp
  have a2 : (List.range c).filter (fun i => (2 ^ (c + 1) * m).testBit i) = [] := by
    rw [List.filter_eq_nil_iff]; intro i hi; rw [bits_even, if_pos (Nat.le_of_lt (List.mem_range.1 hi))]; simp
  have a3 : ((List.range (63 - c)).map fun i => c + 1 + i).filter (fun i => (2 ^ c * (2 * m + 1)).testBit i) = ((List.range (63 - c)).map fun i => c + 1 + i).filter (fun i => (2 ^ (c + 1) * m).testBit i) := by
    apply List.filter_congr
    intro i hi
    obtain ⟨j, _, rfl⟩ := List.mem_map.1 hi
    rw [bits_odd, bits_even, if_neg (by omega), if_neg (by omega), if_neg (by omega)]
  rw [a1, a2, a3, bits_odd, bits_even]
  simp

theorem bitsOf_zero : bitsOf 0 = [] := by unfold bitsOf; simp
end Go.PM.Bits
