/- Words of 64 bits as one number. No program in sight. -/
import Derived.Laws.BitsLemmas
import Derived.RowKit
set_option linter.unusedSimpArgs false
set_option linter.unusedVariables false
set_option autoImplicit false
namespace Go.PM.Row
open Go Go.RowKit

/-- The number of words, the lowest first. -/
def val : List Int → Nat
  | [] => 0
  | w :: t => w.toNat + 18446744073709551616 * val t

/-- So many words of a number. -/
def words : Nat → Nat → List Int
  | 0, _ => []
  | k + 1, v => ((v % 18446744073709551616 : Nat) : Int) :: words k (v / 18446744073709551616)

def Ok (ws : List Int) : Prop := ∀ w, w ∈ ws → 0 ≤ w ∧ w < 18446744073709551616

theorem Ok.cons {w : Int} {t : List Int} (h : Ok (w :: t)) : (0 ≤ w ∧ w < 18446744073709551616) ∧ Ok t := ⟨h w (by simp), fun u hu => h u (by simp [hu])⟩
theorem length_words (k v : Nat) : (words k v).length = k := by
  induction k generalizing v with
  | zero => rfl
  | succ k ih => simp [words, ih]
theorem words_ok (k v : Nat) : Ok (words k v) := by
  induction k generalizing v with
  | zero => intro w hw; cases hw
  | succ k ih =>
    intro w hw
    rcases List.mem_cons.1 hw with rfl | hw
    · omega
    · exact ih _ w hw
theorem words_val {ws : List Int} (h : Ok ws) : words ws.length (val ws) = ws := by
  induction ws with
  | nil => rfl
  | cons w t ih =>
    obtain ⟨h1, h2⟩ := h.cons
    have a : (w.toNat + 18446744073709551616 * val t) % 18446744073709551616 = w.toNat := by omega
    have b : (w.toNat + 18446744073709551616 * val t) / 18446744073709551616 = val t := by omega
    simp only [List.length_cons, val, words, a, b, ih h2]
    congr 1
    omega
theorem val_words (k v : Nat) : val (words k v) = v % 2 ^ (64 * k) := by
  induction k generalizing v with
  | zero => simp [words, val, Nat.mod_one]
  | succ k ih =>
    simp only [words, val, ih, Int.toNat_natCast]
    have e : 2 ^ (64 * (k + 1)) = 18446744073709551616 * 2 ^ (64 * k) := by rw [Nat.mul_add, Nat.pow_add, Nat.mul_comm]
    rw [e, Nat.mod_mul]
theorem val_lt {ws : List Int} (h : Ok ws) : val ws < 2 ^ (64 * ws.length) := by
  have := val_words ws.length (val ws)
  rw [words_val h] at this
  rw [this]; exact Nat.mod_lt _ (Nat.two_pow_pos _)
theorem words_mod (k v : Nat) : words k (v % 2 ^ (64 * k)) = words k v := by
  rw [← val_words]
  have := words_val (words_ok k v)
  rwa [length_words] at this
/-- Rows of words that tell the same number are the same. -/
theorem val_inj {a b : List Int} (ha : Ok a) (hb : Ok b) (hl : a.length = b.length) (hv : val a = val b) : a = b := by
  rw [← words_val ha, ← words_val hb, hl, hv]

theorem testBit_val {ws : List Int} (h : Ok ws) (i : Nat) : (val ws).testBit i = (ws.getD (i / 64) 0).toNat.testBit (i % 64) := by
  induction ws generalizing i with
  | nil => simp [val]
  | cons w t ih =>
    obtain ⟨h1, h2⟩ := h.cons
    have hw : w.toNat < 2 ^ 64 := by omega
    have e : val (w :: t) = 2 ^ 64 * val t + w.toNat := by simp only [val]; omega
    rw [e, Nat.testBit_two_pow_mul_add _ hw]
    by_cases hi : i < 64
    · rw [if_pos hi]
      have a : i / 64 = 0 := by omega
      have b : i % 64 = i := by omega
      rw [a, b]; rfl
    · rw [if_neg hi, ih h2]
      have a : i / 64 = (i - 64) / 64 + 1 := by omega
      have b : i % 64 = (i - 64) % 64 := by omega
      rw [a, b]; rfl

theorem getD_words (k v j : Nat) (hj : j < k) : (words k v).getD j 0 = ((v / 2 ^ (64 * j) % 18446744073709551616 : Nat) : Int) := by
  induction k generalizing v j with
  | zero => omega
  | succ k ih =>
    cases j with
    | zero => simp [words]
    | succ j =>
      show (words k (v / 18446744073709551616)).getD j 0 = _
      rw [ih _ _ (by omega), Nat.div_div_eq_div_mul]
      have e : 18446744073709551616 * 2 ^ (64 * j) = 2 ^ (64 * (j + 1)) := by rw [Nat.mul_add, Nat.pow_add, Nat.mul_comm]
      rw [e]

/-- A bit set in a word is set in the number. -/
theorem val_set_or {ws : List Int} (h : Ok ws) (j b : Nat) (hj : j < ws.length) (hb : b < 64) :
    val (ws.set j (((ws.getD j 0).toNat ||| 2 ^ b : Nat) : Int)) = val ws ||| 2 ^ (64 * j + b) := by
  have hok : Ok (ws.set j (((ws.getD j 0).toNat ||| 2 ^ b : Nat) : Int)) := by
    intro u hu
    rcases List.mem_or_eq_of_mem_set hu with hu | rfl
    · exact h u hu
    · have h1 : (ws.getD j 0).toNat < 2 ^ 64 := by
        have := h (ws.getD j 0) (by rw [List.getD_eq_getElem?_getD, List.getElem?_eq_getElem hj]; exact List.getElem_mem hj)
        omega
      have h2 : 2 ^ b < 2 ^ 64 := Nat.pow_lt_pow_right (by omega) hb
      have := Nat.or_lt_two_pow h1 h2
      omega
  apply Nat.eq_of_testBit_eq
  intro i
  rw [testBit_val hok, Nat.testBit_or, testBit_val h, Nat.testBit_two_pow]
  by_cases e : i / 64 = j
  · have : (ws.set j (((ws.getD j 0).toNat ||| 2 ^ b : Nat) : Int)).getD (i / 64) 0 = (((ws.getD j 0).toNat ||| 2 ^ b : Nat) : Int) := by
      rw [e, List.getD_eq_getElem?_getD, List.getElem?_set_self hj]; rfl
    rw [this, Int.toNat_natCast, Nat.testBit_or, Nat.testBit_two_pow, e]
    congr 1
    exact decide_eq_decide.2 (by omega)
  · have : (ws.set j (((ws.getD j 0).toNat ||| 2 ^ b : Nat) : Int)).getD (i / 64) 0 = ws.getD (i / 64) 0 := by
      rw [List.getD_eq_getElem?_getD, List.getElem?_set_ne (by omega), ← List.getD_eq_getElem?_getD]
    rw [this]
    have : decide (64 * j + b = i) = false := decide_eq_false (by omega)
    rw [this, Bool.or_false]

/-- Word by word. -/
theorem val_zip {f : Nat → Nat → Nat} {g : Bool → Bool → Bool} (hf : ∀ x y i, (f x y).testBit i = g (x.testBit i) (y.testBit i)) (hb : ∀ x y, x < 2 ^ 64 → y < 2 ^ 64 → f x y < 2 ^ 64) (hg : g false false = false)
    {a b : List Int} (ha : Ok a) (hb' : Ok b) (hl : a.length = b.length) (c : List Int) (hc : c.length = a.length) (hcv : ∀ j, j < a.length → c.getD j 0 = ((f (a.getD j 0).toNat (b.getD j 0).toNat : Nat) : Int)) :
    Ok c ∧ val c = f (val a) (val b) := by
  have lt : ∀ {l : List Int}, Ok l → ∀ j, (l.getD j 0).toNat < 2 ^ 64 := by
    intro l hl j
    rw [List.getD_eq_getElem?_getD]
    by_cases hj : j < l.length
    · rw [List.getElem?_eq_getElem hj]
      have := hl _ (List.getElem_mem hj)
      simp only [Option.getD_some]; omega
    · rw [List.getElem?_eq_none (by omega)]; simp
  have hok : Ok c := by
    intro u hu
    obtain ⟨j, hj⟩ := List.getElem?_of_mem hu
    have hjl := (List.getElem?_eq_some_iff.1 hj).1
    have := hcv j (by omega)
    rw [List.getD_eq_getElem?_getD, hj] at this
    simp only [Option.getD_some] at this
    have h2 := hb _ _ (lt ha j) (lt hb' j)
    omega
  refine ⟨hok, ?_⟩
  apply Nat.eq_of_testBit_eq
  intro i
  rw [testBit_val hok, hf, testBit_val ha, testBit_val hb']
  by_cases hj : i / 64 < a.length
  · rw [hcv _ hj, Int.toNat_natCast, hf]
  · have z : ∀ l : List Int, ¬ i / 64 < l.length → l.getD (i / 64) 0 = 0 := fun l hl => by rw [List.getD_eq_getElem?_getD, List.getElem?_eq_none (by omega)]; rfl
    rw [z c (by omega), z a hj, z b (by omega)]
    simp [hg]

/-- 64 bits: Go's xor, and, or. -/
theorem wraps_u64 (n : Int) (h₀ : 0 ≤ n) (h₁ : n < 2 ^ 64) : IntKind.u64.wrap n = n := by
  simp only [IntKind.wrap, IntKind.bits, IntKind.signed]
  simp
  omega
theorem bits_xor (a b : Nat) (ha : a < 2 ^ 64) (hb : b < 2 ^ 64) : Go.bits .xor .u64 a b = ((a ^^^ b : Nat) : Int) := by
  have ha' : a % 2 ^ IntKind.u64.bits = a := Nat.mod_eq_of_lt ha
  have hb' : b % 2 ^ IntKind.u64.bits = b := Nat.mod_eq_of_lt hb
  simp only [bits, BitVec.ofInt_natCast, BitVec.toNat_xor, BitVec.toNat_ofNat, ha', hb']
  exact wraps_u64 _ (Int.natCast_nonneg _) (by exact_mod_cast Nat.xor_lt_two_pow ha hb)
theorem bits_and (a b : Nat) (ha : a < 2 ^ 64) (hb : b < 2 ^ 64) : Go.bits .and .u64 a b = ((a &&& b : Nat) : Int) := (bits_nat .u64 64 (by decide) wraps_u64 a b ha hb).1
theorem bits_or (a b : Nat) (ha : a < 2 ^ 64) (hb : b < 2 ^ 64) : Go.bits .or .u64 a b = ((a ||| b : Nat) : Int) := (bits_nat .u64 64 (by decide) wraps_u64 a b ha hb).2
theorem nonneg_toNat {x : Int} (h : 0 ≤ x) : ((x.toNat : Nat) : Int) = x := Int.toNat_of_nonneg h
theorem bits_xor' {x y : Int} (hx : 0 ≤ x ∧ x < 18446744073709551616) (hy : 0 ≤ y ∧ y < 18446744073709551616) : Go.bits .xor .u64 x y = ((x.toNat ^^^ y.toNat : Nat) : Int) := by
  conv => lhs; rw [← nonneg_toNat hx.1, ← nonneg_toNat hy.1]
  exact bits_xor _ _ (by omega) (by omega)
theorem bits_and' {x y : Int} (hx : 0 ≤ x ∧ x < 18446744073709551616) (hy : 0 ≤ y ∧ y < 18446744073709551616) : Go.bits .and .u64 x y = ((x.toNat &&& y.toNat : Nat) : Int) := by
  conv => lhs; rw [← nonneg_toNat hx.1, ← nonneg_toNat hy.1]
  exact bits_and _ _ (by omega) (by omega)
theorem bits_or' {x y : Int} (hx : 0 ≤ x ∧ x < 18446744073709551616) (hy : 0 ≤ y ∧ y < 18446744073709551616) : Go.bits .or .u64 x y = ((x.toNat ||| y.toNat : Nat) : Int) := by
  conv => lhs; rw [← nonneg_toNat hx.1, ← nonneg_toNat hy.1]
  exact bits_or _ _ (by omega) (by omega)
theorem Ok.getD {ws : List Int} (h : Ok ws) (j : Nat) : 0 ≤ ws.getD j 0 ∧ ws.getD j 0 < 18446744073709551616 := by
  rw [List.getD_eq_getElem?_getD]
  by_cases hj : j < ws.length
  · rw [List.getElem?_eq_getElem hj]
    exact h _ (List.getElem_mem hj)
  · rw [List.getElem?_eq_none (by omega)]; simp
end Go.PM.Row
