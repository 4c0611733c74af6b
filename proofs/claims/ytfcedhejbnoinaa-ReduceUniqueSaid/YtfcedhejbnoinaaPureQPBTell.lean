/- What Places, First, Count, Get and their printed references of layer 1 tell, of rows as numbers. -/
import Derived.Test.YtfcedhejbnoinaaPBx3
import Derived.Test.YtfcedhejbnoinaaPureQPBRef
import Derived.Test.YtfcedhejbnoinaaVPlc
import Derived.Test.YtfcedhejbnoinaaVPop
namespace Go.Proofs.Ytfcedhejbnoinaa.PureBit
open Go Go.RowKit Go.Proofs.Ytfcedhejbnoinaa.PB Go.Proofs.YtfcedhejbnoinaaW.PrintWords Go.Proofs.YtfcedhejbnoinaaW.PrintLast Go.Proofs.YtfcedhejbnoinaaW.PrintMore Go.Proofs.Ytfcedhejbnoinaa.Row Go.Proofs.Ytfcedhejbnoinaa.Bits Go.Proofs.Ytfcedhejbnoinaa.Pop

theorem length_plc (v n : Nat) : (plc v n).length = cnt n v := by
  induction n with
  | zero => rfl
  | succ n ih =>
    rw [plc_succ, cnt_snoc, List.length_append, ih]
    congr 1
    split <;> rfl

theorem get_ok {n : Int} {ws : List Int} (hok : Ok ws) (h : Rt n ws) {i : Nat} (hi : (i : Int) < n) : bitrow_Get.f n ws (i : Int) = some (bitI (val ws) i, 0) := by
  have hl := rt_len h
  obtain ⟨b, hb, hb'⟩ := right_spec (n := n) hok (by omega)
  obtain rfl : b = true := hb'.2 h
  have h1 := h.2.2.1
  have h2 := h.2.1
  have ed : wrap64 (Int.tdiv (i : Int) 64) = ((i / 64 : Nat) : Int) := by rw [Int.tdiv_eq_ediv_of_nonneg (by omega), wrap_in (by omega) (by omega)]; norm_cast
  have em : Int.tmod (i : Int) 64 = ((i % 64 : Nat) : Int) := by rw [Int.tmod_eq_emod_of_nonneg (by omega)]; norm_cast
  have c1 : ¬ ((i : Int) < 0) := by omega
  have c2 : ¬ ((i : Int) ≥ n) := by omega
  have c3 : (0 : Int) ≤ ((i / 64 : Nat) : Int) := Int.natCast_nonneg _
  have c4 : ((i / 64 : Nat) : Int) < (ws.length : Int) := by omega
  have c5 : (0 : Int) ≤ ((i % 64 : Nat) : Int) := Int.natCast_nonneg _
  have hg := hok.getD (i / 64)
  have hsh : shr .u64 (ws.getD (i / 64) 0) ((i % 64 : Nat) : Int) = (((ws.getD (i / 64) 0).toNat / 2 ^ (i % 64) : Nat) : Int) := by
    unfold shr
    have e : min ((i % 64 : Nat) : Int).toNat IntKind.u64.bits = i % 64 := by
      have : IntKind.u64.bits = 64 := rfl
      rw [this, Int.toNat_natCast]; omega
    rw [e]
    conv => lhs; rw [← nonneg_toNat hg.1]
    rw [Int.natCast_ediv]; norm_cast
  have hval : wrap64 (Go.bits .and .u64 (shr .u64 (ws.getD (i / 64) 0) ((i % 64 : Nat) : Int)) 1) = bitI (val ws) i := by
    rw [hsh]
    have hq : (ws.getD (i / 64) 0).toNat / 2 ^ (i % 64) < 18446744073709551616 := Nat.lt_of_le_of_lt (Nat.div_le_self _ _) (by omega)
    unfold bitI
    rw [testBit_val hok, Nat.testBit_eq_decide_div_mod_eq]
    generalize (ws.getD (i / 64) 0).toNat / 2 ^ (i % 64) = q at hq
    rw [bits_and' ⟨Int.natCast_nonneg _, by omega⟩ ⟨by decide, by decide⟩, Int.toNat_natCast]
    have e1 : (1 : Int).toNat = 1 := rfl
    rw [e1, Nat.and_one_is_mod, wrap_in (by omega) (by omega)]
    by_cases hm : q % 2 = 1
    · simp [hm]
    · simp [hm]; omega
  unfold bitrow_Get.f
  rw [hb]
  simp only [Option.bind_some]
  rw [ed, em, rd_eq, Int.toNat_natCast, hval]
  exact (if_pos (by first | rfl | trivial)).trans ((if_neg c1).trans ((if_neg c2).trans ((if_pos c3).trans ((if_pos c4).trans (if_pos c5)))))

theorem get_range {n : Int} {ws : List Int} (hok : Ok ws) (h : Rt n ws) {i : Int} (hi : ¬ (0 ≤ i ∧ i < n)) : bitrow_Get.f n ws i = some (0, 3) := by
  have hl := rt_len h
  obtain ⟨b, hb, hb'⟩ := right_spec (n := n) hok (by omega)
  obtain rfl : b = true := hb'.2 h
  unfold bitrow_Get.f
  rw [hb, Option.bind_some, if_pos rfl]
  by_cases h0 : i < 0
  · rw [if_pos h0]
  · rw [if_neg h0, if_pos (by omega)]

theorem get_arg {n : Int} {ws : List Int} (hok : Ok ws) (hl : ws.length ≤ 9223372036854775807) (h : ¬ Rt n ws) (i : Int) : bitrow_Get.f n ws i = some (0, 1) := by
  obtain ⟨b, hb, hb'⟩ := right_spec (n := n) hok hl
  have : b = false := by cases b with | false => rfl | true => exact absurd (hb'.1 rfl) h
  subst this
  unfold bitrow_Get.f
  rw [hb]; rfl

end Go.Proofs.Ytfcedhejbnoinaa.PureBit
