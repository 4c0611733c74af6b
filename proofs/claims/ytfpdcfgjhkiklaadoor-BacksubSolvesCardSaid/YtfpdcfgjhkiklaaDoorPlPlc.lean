/- The places of a row's bits, rising: from its words, and from its number. -/
import Derived.Test.YtfpdcfgjhkiklaaDoorPlBits
import Derived.Test.YtfpdcfgjhkiklaaDoorPlRow
set_option linter.unusedSimpArgs false
set_option linter.unusedVariables false
set_option autoImplicit false
namespace Go.PM.Bits
open Go Go.RowKit Go.PM.Row

/-- The places of word k, whose bits are v's. -/
def bitsAt (k v : Nat) : List Int := (bitsOf v).map fun (i : Nat) => ((64 * k + i : Nat) : Int)
/-- The places of so many words, from word k on. -/
def wordsFrom (ws : List Int) : Nat → Nat → List Int
  | 0, _ => []
  | d + 1, k => bitsAt k (ws.getD k 0).toNat ++ wordsFrom ws d (k + 1)
/-- The places below n of a number's bits. -/
def plc (v n : Nat) : List Int := ((List.range n).filter fun i => v.testBit i).map fun (i : Nat) => (i : Int)

theorem wordsFrom_eq {ws : List Int} (h : Ok ws) (d : Nat) : ∀ k, k + d = ws.length → wordsFrom ws d k = ((List.range (64 * d)).filter fun i => (val ws).testBit (64 * k + i)).map fun (i : Nat) => ((64 * k + i : Nat) : Int) := by
  induction d with
  | zero => intro k _; rfl
  | succ d ih =>
    intro k hk
    rw [wordsFrom, ih (k + 1) (by omega)]
    have e : 64 * (d + 1) = 64 + 64 * d := by omega
    rw [e, List.range_add, List.filter_append, List.map_append]
    congr 1
    · unfold bitsAt bitsOf
      congr 1
      apply List.filter_congr
      intro i hi
      have hi' := List.mem_range.1 hi
      rw [testBit_val h]
      have a : (64 * k + i) / 64 = k := by omega
      have b : (64 * k + i) % 64 = i := by omega
      rw [a, b]
    · rw [List.filter_map, List.map_map]
      have e2 : (fun i => (val ws).testBit (64 * k + i)) ∘ (fun x => 64 + x) = fun i => (val ws).testBit (64 * (k + 1) + i) := by
        funext i
        show (val ws).testBit (64 * k + (64 + i)) = _
        congr 1; omega
      rw [e2]
      apply List.map_congr_left
      intro i _
      show _ = ((64 * k + (64 + i) : Nat) : Int)
      congr 1; omega

theorem wordsFrom_plc {ws : List Int} (h : Ok ws) {n : Nat} (hv : val ws < 2 ^ n) (hn : n ≤ 64 * ws.length) : wordsFrom ws ws.length 0 = plc (val ws) n := by
  rw [wordsFrom_eq h ws.length 0 (by omega)]
  unfold plc
  have e : 64 * ws.length = n + (64 * ws.length - n) := by omega
  rw [e, List.range_add, List.filter_append]
  have e2 : ((List.range (64 * ws.length - n)).map (fun x => n + x)).filter (fun i => (val ws).testBit (64 * 0 + i)) = [] := by
    rw [List.filter_eq_nil_iff]
    intro i hi
    obtain ⟨j, _, rfl⟩ := List.mem_map.1 hi
    rw [Nat.mul_zero, Nat.zero_add, Nat.testBit_lt_two_pow (Nat.lt_of_lt_of_le hv (Nat.pow_le_pow_right (by omega) (by omega)))]
    simp
  rw [e2, List.append_nil]
  simp only [Nat.mul_zero, Nat.zero_add]

theorem mem_plc (v n : Nat) (z : Int) : z ∈ plc v n ↔ ∃ i : Nat, i < n ∧ v.testBit i = true ∧ z = (i : Int) := by
  unfold plc
  simp only [List.mem_map, List.mem_filter, List.mem_range]
  exact ⟨fun ⟨i, ⟨h1, h2⟩, h3⟩ => ⟨i, h1, h2, h3.symm⟩, fun ⟨i, h1, h2, h3⟩ => ⟨i, ⟨h1, h2⟩, h3.symm⟩⟩

theorem nat_mem_plc (v n i : Nat) : (i : Int) ∈ plc v n ↔ i < n ∧ v.testBit i = true := by
  rw [mem_plc]
  exact ⟨fun ⟨j, h1, h2, h3⟩ => by have : i = j := by omega
                                   subst this; exact ⟨h1, h2⟩, fun h => ⟨i, h.1, h.2, rfl⟩⟩

theorem plc_succ (v n : Nat) : plc v (n + 1) = plc v n ++ if v.testBit n = true then [(n : Int)] else [] := by
  unfold plc
  rw [List.range_succ, List.filter_append, List.map_append]
  congr 1
  by_cases h : v.testBit n = true
  · rw [if_pos h]; simp [h]
  · rw [if_neg h]; simp [h]
end Go.PM.Bits
