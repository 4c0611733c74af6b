/- What the printed reference of layer 1 tells, of rows as numbers. -/

import Derived.Test.YtfcedhejbnoinaaDoorPureQPEBit
namespace Go.Proofs.YtfcedhejbnoinaaDoor.PureBit
open Go Go.RowKit Go.Proofs.YtfcedhejbnoinaaDoor.PE Go.Proofs.YtfcedhejbnoinaaDoorW.PrintWords Go.Proofs.YtfcedhejbnoinaaDoorW.PrintLast Go.Proofs.YtfcedhejbnoinaaDoorW.PrintMore Go.Proofs.YtfcedhejbnoinaaDoor.Row

theorem wrap_in {i : Int} (h0 : -9223372036854775808 ≤ i) (h1 : i < 9223372036854775808) : wrap64 i = i := by unfold wrap64; omega

/-- The bit at a place, as a whole number. -/
def bitI (v i : Nat) : Int := if v.testBit i = true then 1 else 0

/-- A row of bits as a number. -/
def bn : List Int → Nat
  | [] => 0
  | b :: t => (if b = 1 then 1 else 0) + 2 * bn t

theorem testBit_bn (l : List Int) (i : Nat) : (bn l).testBit i = decide (l.getD i 0 = 1) := by
  induction l generalizing i with
  | nil => simp [bn]
  | cons b t ih =>
    cases i with
    | zero =>
      unfold bn
      rw [Nat.testBit_zero]
      by_cases h : b = 1
      · simp [h] <;> omega
      · simp [h]
    | succ i =>
      unfold bn
      rw [Nat.testBit_succ]
      have e : ((if b = 1 then 1 else 0) + 2 * bn t) / 2 = bn t := by split <;> omega
      rw [e, ih]; rfl

theorem bn_lt (l : List Int) : bn l < 2 ^ l.length := by
  induction l with
  | nil => simp [bn]
  | cons b t ih =>
    unfold bn
    rw [List.length_cons, Nat.pow_succ]
    split <;> omega

theorem ext_getD {a b : List Int} (hl : a.length = b.length) (h : ∀ j, j < a.length → a.getD j 0 = b.getD j 0) : a = b := by
  apply List.ext_getElem hl
  intro j h1 h2
  have := h j h1
  rw [List.getD_eq_getElem?_getD, List.getD_eq_getElem?_getD, List.getElem?_eq_getElem h1, List.getElem?_eq_getElem h2] at this
  simpa using this

theorem lt_iff_testBit (v n : Nat) (m : Nat) (hv : v < 2 ^ m) : v < 2 ^ n ↔ ∀ j, n ≤ j → j < m → v.testBit j = false := by
  constructor
  · intro h j hj _
    exact Nat.testBit_lt_two_pow (Nat.lt_of_lt_of_le h (Nat.pow_le_pow_right (by omega) hj))
  · intro h
    exact Nat.lt_pow_two_of_testBit v fun j hj => by
      by_cases hm : j < m
      · exact h j hj hm
      · exact Nat.testBit_lt_two_pow (Nat.lt_of_lt_of_le hv (Nat.pow_le_pow_right (by omega) (by omega)))

theorem bind_of {α β : Type} {x : Option α} {a : α} (h : x = some a) {f : α → Option β} : x.bind f = f a := by rw [h]; rfl

theorem two_xor (x y : Bool) : Int.tmod (wrap64 ((if x = true then 1 else 0) + (if y = true then 1 else 0))) 2 = if (x ^^ y) = true then 1 else 0 := by
  cases x <;> cases y <;> simp [wrap64]

theorem two_and (x y : Bool) : wrap64 ((if x = true then 1 else 0) * (if y = true then 1 else 0)) = if (x && y) = true then 1 else 0 := by
  cases x <;> cases y <;> simp [wrap64]


theorem up {α : Type} {g : Nat → Option α} {r : α} (h : Ev (fun k => g (k + 1)) r) : Ev g r := Ev.step (fun _ => rfl) h

theorem ev_unique {α : Type} {g : Nat → Option α} {a b : α} (h : Ev g a) (k : Ev g b) : a = b := by
  obtain ⟨K, h⟩ := h
  obtain ⟨M, k⟩ := k
  have e := (h (K + M) (by omega)).symm.trans (k (K + M) (by omega))
  injection e

theorem ok_of {l : List Int} (h : ∀ z, z ∈ l → (Lit.int .u64 z).wf = true) : Ok l := fun w hw => by
  have := h w hw
  simp only [Lit.wf, decide_eq_true_eq, Bool.and_eq_true] at this
  have a : IntKind.u64.min = 0 := by decide
  have b : IntKind.u64.max = 18446744073709551615 := by decide
  omega

theorem rt_len {n : Int} {ws : List Int} (h : Rt n ws) : ws.length ≤ 8 := by have := h.1; have := h.2.1; have := h.2.2.1; omega
theorem rt_words {n : Int} {L v : Nat} (h0 : 0 ≤ n) (h1 : n ≤ 512) (hL : (L : Int) = (n + 63) / 64) (hv : v < 2 ^ n.toNat) : Ok (words L v) ∧ Rt n (words L v) ∧ val (words L v) = v := by
  have e : val (words L v) = v := by
    rw [val_words]
    exact Nat.mod_eq_of_lt (Nat.lt_of_lt_of_le hv (Nat.pow_le_pow_right (by omega) (by omega)))
  exact ⟨words_ok L v, ⟨h0, h1, by rw [length_words]; exact hL, by rw [e]; exact hv⟩, e⟩

theorem xor_w {n : Int} {L u v : Nat} (h0 : 0 ≤ n) (h1 : n ≤ 512) (hL : (L : Int) = (n + 63) / 64) (hu : u < 2 ^ n.toNat) (hv : v < 2 ^ n.toNat) : Ev (fun k => bitrow_Xor.f k n (words L u) n (words L v)) (n, words L (u ^^^ v), 0) := by
  obtain ⟨a1, a2, a3⟩ := rt_words h0 h1 hL hu
  obtain ⟨b1, b2, b3⟩ := rt_words h0 h1 hL hv
  have := xor_ok a1 b1 a2 b2
  rwa [a3, b3, length_words] at this

theorem xor_any {a b : List Int} (ha : Ok a) (hb : Ok b) (la : a.length ≤ 9223372036854775807) (lb : b.length ≤ 9223372036854775807) (n m : Int) : ∃ r, Ev (fun k => bitrow_Xor.f k n a m b) r := by
  by_cases h : Rt n a ∧ Rt m b
  · by_cases hne : n = m
    · subst hne; exact ⟨_, xor_ok ha hb h.1 h.2⟩
    · exact ⟨_, xor_size ha hb h.1 h.2 hne⟩
  · exact ⟨_, xor_arg ha hb la lb h⟩

end Go.Proofs.YtfcedhejbnoinaaDoor.PureBit
