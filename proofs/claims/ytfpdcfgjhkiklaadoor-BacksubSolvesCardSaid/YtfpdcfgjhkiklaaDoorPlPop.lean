/- How many bits of a number are 1: bit by bit, and as math/bits reckons it, in steps over a word. No program in sight. -/
import Derived.Lib.TrailingZeros
set_option linter.unusedSimpArgs false
set_option linter.unusedVariables false
set_option autoImplicit false
namespace Go.Proofs
end Go.Proofs
namespace Go.PM.Pop
open Go Go.Proofs

/-- How many of a number's lowest bits are 1. -/
def cnt : Nat → Nat → Nat
  | 0, _ => 0
  | k + 1, x => x % 2 + cnt k (x / 2)

theorem cnt_add (m n x : Nat) : cnt (m + n) x = cnt m x + cnt n (x / 2 ^ m) := by
  induction m generalizing x with
  | zero => simp [cnt]
  | succ m ih =>
    have e : m + 1 + n = (m + n) + 1 := by omega
    rw [e, cnt, ih, cnt, Nat.pow_succ', Nat.div_div_eq_div_mul, Nat.add_assoc]

theorem cnt_mod (m x : Nat) : cnt m (x % 2 ^ m) = cnt m x := by
  induction m generalizing x with
  | zero => rfl
  | succ m ih =>
    rw [cnt, cnt]
    have a : x % 2 ^ (m + 1) % 2 = x % 2 := by rw [Nat.pow_succ', Nat.mod_mul_right_mod]
    have b : x % 2 ^ (m + 1) / 2 = x / 2 % 2 ^ m := by rw [Nat.pow_succ', Nat.mod_mul_right_div_self]
    rw [a, b, ih]

theorem cnt_le (m x : Nat) : cnt m x ≤ m := by
  induction m generalizing x with
  | zero => simp [cnt]
  | succ m ih => rw [cnt]; have := ih (x / 2); omega

theorem cnt_snoc (m x : Nat) : cnt (m + 1) x = cnt m x + if x.testBit m = true then 1 else 0 := by
  rw [cnt_add]
  congr 1
  rw [cnt, cnt, Nat.testBit_eq_decide_div_mod_eq]
  by_cases h : x / 2 ^ m % 2 = 1
  · simp [h]
  · rw [if_neg (by simpa using h)]; omega

/-- Where a's and b's bits are counted: those of just one, and twice those of both. -/
theorem cnt_two (m a b : Nat) : cnt m a + cnt m b = cnt m (a ^^^ b) + 2 * cnt m (a &&& b) := by
  induction m with
  | zero => rfl
  | succ m ih =>
    rw [cnt_snoc, cnt_snoc, cnt_snoc, cnt_snoc, Nat.testBit_xor, Nat.testBit_and]
    cases a.testBit m <;> cases b.testBit m <;> simp <;> omega

theorem and_byte (q m b c : Nat) (hb : b < 256) (hc : c < 256) : (256 * q + b) &&& (256 * m + c) = 256 * (q &&& m) + (b &&& c) := by
  have hbc : b &&& c < 2 ^ 8 := Nat.and_lt_two_pow _ hc
  apply Nat.eq_of_testBit_eq
  intro i
  have e : (256 : Nat) = 2 ^ 8 := rfl
  rw [Nat.testBit_and, e, Nat.testBit_two_pow_mul_add _ hb, Nat.testBit_two_pow_mul_add _ hc, Nat.testBit_two_pow_mul_add _ hbc]
  by_cases h : i < 8
  · rw [if_pos h, if_pos h, if_pos h, Nat.testBit_and]
  · rw [if_neg h, if_neg h, if_neg h, Nat.testBit_and]

/-- A byte, so many times. -/
def mk (c : Nat) : Nat → Nat
  | 0 => 0
  | k + 1 => 256 * mk c k + c

def s1 (k x : Nat) : Nat := (x / 2 &&& mk 85 k) + (x &&& mk 85 k)
def s2 (k x : Nat) : Nat := (x / 4 &&& mk 51 k) + (x &&& mk 51 k)
def s3 (k x : Nat) : Nat := (x / 16 + x) &&& mk 15 k
def g1 (b : Nat) : Nat := (b / 2 &&& 85) + (b &&& 85)
def g2 (b : Nat) : Nat := (b / 4 &&& 51) + (b &&& 51)

theorem d1 : ∀ b : Fin 256, ((128 + b.val / 2) &&& 85) = (b.val / 2 &&& 85) ∧ g1 b.val < 256 := by decide +kernel
theorem d2 : ∀ b : Fin 256, ∀ t : Fin 4, ((64 * t.val + b.val / 4) &&& 51) = (b.val / 4 &&& 51) ∧ g2 b.val < 256 := by decide +kernel
theorem d3 : ∀ b : Fin 256, g2 (g1 b.val) % 16 ≤ 4 ∧ g2 (g1 b.val) ≤ 68 ∧ (g2 (g1 b.val) / 16 + g2 (g1 b.val)) % 16 = cnt 8 b.val := by decide +kernel

theorem s1_step (k q b : Nat) (hb : b < 256) : s1 (k + 1) (256 * q + b) = 256 * s1 k q + g1 b := by
  have h := (d1 ⟨b, hb⟩).1
  unfold s1 g1
  rw [mk, and_byte _ _ _ _ hb (by omega)]
  have e : (256 * q + b) / 2 = 256 * (q / 2) + (128 * (q % 2) + b / 2) := by omega
  rw [e, and_byte _ _ _ _ (by omega) (by omega)]
  have e2 : (128 * (q % 2) + b / 2 &&& 85) = (b / 2 &&& 85) := by
    rcases (show q % 2 = 0 ∨ q % 2 = 1 by omega) with h0 | h0
    · rw [h0]; simp
    · rw [h0]; exact h
  rw [e2]
  omega

theorem s2_step (k q b : Nat) (hb : b < 256) : s2 (k + 1) (256 * q + b) = 256 * s2 k q + g2 b := by
  have h := (d2 ⟨b, hb⟩ ⟨q % 4, by omega⟩).1
  unfold s2 g2
  rw [mk, and_byte _ _ _ _ hb (by omega)]
  have e : (256 * q + b) / 4 = 256 * (q / 4) + (64 * (q % 4) + b / 4) := by omega
  rw [e, and_byte _ _ _ _ (by omega) (by omega)]
  have e2 : (64 * (q % 4) + b / 4 &&& 51) = (b / 4 &&& 51) := h
  rw [e2]
  omega

theorem s2_low (k x : Nat) : s2 k (s1 k x) % 16 ≤ 4 := by
  cases k with
  | zero => simp [s2, s1, mk]
  | succ k =>
    have e : x = 256 * (x / 256) + x % 256 := by omega
    have hb : x % 256 < 256 := by omega
    have h1 : g1 (x % 256) < 256 := (d1 ⟨_, hb⟩).2
    have h3 : g2 (g1 (x % 256)) % 16 ≤ 4 := (d3 ⟨_, hb⟩).1
    rw [e, s1_step _ _ _ hb, s2_step _ _ _ h1]
    generalize g2 (g1 (x % 256)) = u at *
    generalize s2 k (s1 k (x / 256)) = v at *
    omega

def full (k x : Nat) : Nat := s3 k (s2 k (s1 k x))

theorem full_step (k q b : Nat) (hb : b < 256) : full (k + 1) (256 * q + b) = 256 * full k q + cnt 8 b := by
  have hl := s2_low k q
  have h3 := d3 ⟨b, hb⟩
  dsimp only at h3
  unfold full
  rw [s1_step _ _ _ hb, s2_step _ _ _ (d1 ⟨_, hb⟩).2]
  generalize s2 k (s1 k q) = u at *
  generalize g2 (g1 b) = c at *
  unfold s3
  have e : (256 * u + c) / 16 + (256 * u + c) = 256 * (u / 16 + u) + (16 * (u % 16) + (c / 16 + c)) := by omega
  rw [e, mk, and_byte _ _ _ _ (by omega) (by omega)]
  have e2 : (16 * (u % 16) + (c / 16 + c)) &&& 15 = cnt 8 b := by
    rw [← h3.2.2]
    have := Nat.and_two_pow_sub_one_eq_mod (16 * (u % 16) + (c / 16 + c)) 4
    rw [show (2 ^ 4 - 1 : Nat) = 15 from rfl, show (2 ^ 4 : Nat) = 16 from rfl] at this
    rw [this]; omega
  rw [e2]

theorem cnt_byte (k q b : Nat) (hb : b < 256) : cnt (8 + k) (256 * q + b) = cnt 8 b + cnt k q := by
  rw [cnt_add]
  have a : (256 * q + b) / 2 ^ 8 = q := by omega
  have c : cnt 8 (256 * q + b) = cnt 8 b := by
    rw [← cnt_mod 8 (256 * q + b)]
    congr 1; omega
  rw [a, c]

/-- The last steps: the bytes' sum. -/
theorem bytes_sum {p0 p1 p2 p3 p4 p5 p6 p7 : Nat} (h0 : p0 ≤ 8) (h1 : p1 ≤ 8) (h2 : p2 ≤ 8) (h3 : p3 ≤ 8) (h4 : p4 ≤ 8) (h5 : p5 ≤ 8) (h6 : p6 ≤ 8) (h7 : p7 ≤ 8) {y : Nat}
    (hy : y = p0 + 256 * (p1 + 256 * (p2 + 256 * (p3 + 256 * (p4 + 256 * (p5 + 256 * (p6 + 256 * p7))))))) :
    ∃ a b c, a = y + y / 256 ∧ b = a + a / 65536 ∧ c = b + b / 4294967296 ∧ c < 1152921504606846976 ∧ c % 128 = p0 + p1 + p2 + p3 + p4 + p5 + p6 + p7 := by
  have a1 : y / 256 = p1 + 256 * (p2 + 256 * (p3 + 256 * (p4 + 256 * (p5 + 256 * (p6 + 256 * p7))))) := by omega
  obtain ⟨a, ha⟩ : ∃ a, a = y + y / 256 := ⟨_, rfl⟩
  have a2 : a = (p0 + p1) + 256 * ((p1 + p2) + 256 * ((p2 + p3) + 256 * ((p3 + p4) + 256 * ((p4 + p5) + 256 * ((p5 + p6) + 256 * ((p6 + p7) + 256 * p7)))))) := by omega
  obtain ⟨b, hb⟩ : ∃ b, b = a + a / 65536 := ⟨_, rfl⟩
  have a3 : a / 65536 = (p2 + p3) + 256 * ((p3 + p4) + 256 * ((p4 + p5) + 256 * ((p5 + p6) + 256 * ((p6 + p7) + 256 * p7)))) := by omega
  have a4 : b = (p0 + p1 + p2 + p3) + 256 * ((p1 + p2 + p3 + p4) + 256 * ((p2 + p3 + p4 + p5) + 256 * ((p3 + p4 + p5 + p6) + 256 * ((p4 + p5 + p6 + p7) + 256 * ((p5 + p6 + p7) + 256 * ((p6 + p7) + 256 * p7)))))) := by omega
  obtain ⟨c, hc⟩ : ∃ c, c = b + b / 4294967296 := ⟨_, rfl⟩
  have a5 : b / 4294967296 = (p4 + p5 + p6 + p7) + 256 * ((p5 + p6 + p7) + 256 * ((p6 + p7) + 256 * p7)) := by omega
  have a6 : c = (p0 + p1 + p2 + p3 + p4 + p5 + p6 + p7) + 256 * ((p1 + p2 + p3 + p4) + (p5 + p6 + p7) + 256 * ((p2 + p3 + p4 + p5) + (p6 + p7) + 256 * ((p3 + p4 + p5 + p6) + p7 + 256 * ((p4 + p5 + p6 + p7) + 256 * ((p5 + p6 + p7) + 256 * ((p6 + p7) + 256 * p7)))))) := by
    rw [hc, a5, a4]; clear a1 a2 a3 a4 a5 hy ha hb hc; omega
  refine ⟨a, b, c, ha, hb, hc, ?_, ?_⟩
  · clear a1 a2 a3 a4 a5 hy ha hb hc; omega
  · have hs : p0 + p1 + p2 + p3 + p4 + p5 + p6 + p7 ≤ 64 := by clear a1 a2 a3 a4 a5 a6 hy ha hb hc; omega
    generalize p0 + p1 + p2 + p3 + p4 + p5 + p6 + p7 = S at *
    rw [a6]
    clear a1 a2 a3 a4 a5 a6 hy ha hb hc
    generalize (p1 + p2 + p3 + p4) + (p5 + p6 + p7) + 256 * ((p2 + p3 + p4 + p5) + (p6 + p7) + 256 * ((p3 + p4 + p5 + p6) + p7 + 256 * ((p4 + p5 + p6 + p7) + 256 * ((p5 + p6 + p7) + 256 * ((p6 + p7) + 256 * p7))))) = T
    omega

theorem full_sum (x : Nat) (hx : x < 18446744073709551616) : ∃ a b c, a = full 8 x + full 8 x / 256 ∧ b = a + a / 65536 ∧ c = b + b / 4294967296 ∧ c < 1152921504606846976 ∧ c % 128 = cnt 64 x := by
  have st : ∀ k y, full (k + 1) y = cnt 8 (y % 256) + 256 * full k (y / 256) := fun k y => by
    have e : y = 256 * (y / 256) + y % 256 := by omega
    conv => lhs; rw [e]
    rw [full_step _ _ _ (by omega)]; omega
  have z : ∀ y, full 0 y = 0 := fun y => by simp [full, s3, mk]
  have ct : ∀ k y, cnt (8 + k) y = cnt 8 (y % 256) + cnt k (y / 256) := fun k y => by
    have e : y = 256 * (y / 256) + y % 256 := by omega
    conv => lhs; rw [e]
    exact cnt_byte _ _ _ (by omega)
  have hc : cnt 64 x = cnt 8 (x % 256) + (cnt 8 (x / 256 % 256) + (cnt 8 (x / 256 / 256 % 256) + (cnt 8 (x / 256 / 256 / 256 % 256) + (cnt 8 (x / 256 / 256 / 256 / 256 % 256) + (cnt 8 (x / 256 / 256 / 256 / 256 / 256 % 256) + (cnt 8 (x / 256 / 256 / 256 / 256 / 256 / 256 % 256) + (cnt 8 (x / 256 / 256 / 256 / 256 / 256 / 256 / 256 % 256)))))))) := by
    rw [show 64 = 8 + 56 from rfl, ct, show 56 = 8 + 48 from rfl, ct, show 48 = 8 + 40 from rfl, ct, show 40 = 8 + 32 from rfl, ct, show 32 = 8 + 24 from rfl, ct, show 24 = 8 + 16 from rfl, ct, show 16 = 8 + 8 from rfl, ct]
    have : x / 256 / 256 / 256 / 256 / 256 / 256 / 256 % 256 = x / 256 / 256 / 256 / 256 / 256 / 256 / 256 := by omega
    rw [this]
  rw [hc]
  obtain ⟨a, b, c, h1, h2, h3, h4, h5⟩ := bytes_sum (cnt_le 8 (x % 256)) (cnt_le 8 (x / 256 % 256)) (cnt_le 8 (x / 256 / 256 % 256)) (cnt_le 8 (x / 256 / 256 / 256 % 256)) (cnt_le 8 (x / 256 / 256 / 256 / 256 % 256)) (cnt_le 8 (x / 256 / 256 / 256 / 256 / 256 % 256)) (cnt_le 8 (x / 256 / 256 / 256 / 256 / 256 / 256 % 256)) (cnt_le 8 (x / 256 / 256 / 256 / 256 / 256 / 256 / 256 % 256))
    (y := full 8 x) (by rw [st, st, st, st, st, st, st, st, z]; simp only [Nat.mul_zero, Nat.add_zero])
  exact ⟨a, b, c, h1, h2, h3, h4, by rw [h5]; omega⟩

theorem cnt_zero (m : Nat) : cnt m 0 = 0 := by
  induction m with
  | zero => rfl
  | succ m ih => rw [cnt]; simpa using ih

theorem cnt_above {v n m : Nat} (hv : v < 2 ^ n) (hm : n ≤ m) : cnt m v = cnt n v := by
  have e : m = n + (m - n) := by omega
  rw [e, cnt_add, Nat.div_eq_of_lt hv, cnt_zero, Nat.add_zero]
end Go.PM.Pop
