/- What Of, New, Like and their printed references of layer 1 tell, of rows as numbers. -/

import Derived.Test.YtfcedhejbnoinaaPureQPBRef
namespace Go.Proofs.Ytfcedhejbnoinaa.PureBit
open Go Go.RowKit Go.Proofs.Ytfcedhejbnoinaa.PB Go.Proofs.YtfcedhejbnoinaaW.PrintWords Go.Proofs.YtfcedhejbnoinaaW.PrintLast Go.Proofs.YtfcedhejbnoinaaW.PrintMore Go.Proofs.Ytfcedhejbnoinaa.Row

theorem ok_replicate (k : Nat) : Ok (List.replicate k 0) := fun w hw => by rw [List.eq_of_mem_replicate hw]; omega

theorem val_replicate (k : Nat) : val (List.replicate k 0) = 0 := by
  induction k with
  | zero => rfl
  | succ k ih => rw [List.replicate_succ]; unfold val; rw [ih]; rfl

theorem ok_set_or {ws : List Int} (h : Ok ws) (j b : Nat) (_hj : j < ws.length) (hb : b < 64) : Ok (ws.set j (((ws.getD j 0).toNat ||| 2 ^ b : Nat) : Int)) := by
  intro u hu
  rcases List.mem_or_eq_of_mem_set hu with hu | rfl
  · exact h u hu
  · have h1 : (ws.getD j 0).toNat < 2 ^ 64 := by have := h.getD j; omega
    have h2 : 2 ^ b < 2 ^ 64 := Nat.pow_lt_pow_right (by omega) hb
    have := Nat.or_lt_two_pow h1 h2
    omega

theorem shl_one {b : Nat} (hb : b < 64) : shl .u64 1 (b : Int) = ((2 ^ b : Nat) : Int) := by
  unfold shl
  have e : min ((b : Nat) : Int).toNat IntKind.u64.bits = b := by
    have : IntKind.u64.bits = 64 := rfl
    rw [this, Int.toNat_natCast]; omega
  have h2 : 2 ^ b < 2 ^ 64 := Nat.pow_lt_pow_right (by omega) hb
  rw [e, Int.one_mul]
  have e2 : (2 : Int) ^ b = ((2 ^ b : Nat) : Int) := by norm_cast
  rw [e2]
  exact wraps_u64 _ (Int.natCast_nonneg _) (by exact_mod_cast h2)

theorem or_bit {x : Int} (hx : 0 ≤ x ∧ x < 18446744073709551616) {b : Nat} (hb : b < 64) : Go.bits .or .u64 x (shl .u64 1 (b : Int)) = ((x.toNat ||| 2 ^ b : Nat) : Int) := by
  have h2 : 2 ^ b < 2 ^ 64 := Nat.pow_lt_pow_right (by omega) hb
  have h3 : ∀ q : Nat, q < 2 ^ 64 → (q : Int) < 18446744073709551616 := fun q hq => by omega
  rw [shl_one hb, bits_or' hx ⟨Int.natCast_nonneg _, h3 _ h2⟩, Int.toNat_natCast]

theorem getD_mem {l : List Int} {i : Nat} (hi : i < l.length) : l.getD i 0 ∈ l := by
  rw [List.getD_eq_getElem?_getD, List.getElem?_eq_getElem hi]; exact List.getElem_mem hi

theorem take_succ_mem {l : List Int} {i : Nat} (hi : i < l.length) (z : Int) : z ∈ l.take (i + 1) ↔ z ∈ l.take i ∨ z = l.getD i 0 := by
  rw [List.take_succ_eq_append_getElem hi, List.getD_eq_getElem?_getD, List.getElem?_eq_getElem hi, List.mem_append, List.mem_singleton]
  rfl

end Go.Proofs.Ytfcedhejbnoinaa.PureBit
