/- What the printed functions of layer 1 tell, of rows as numbers. -/
import Derived.Test.YtfcedhejbnoinaaDoorPKx5
import Derived.Test.YtfcedhejbnoinaaDoorPKx1
import Derived.Test.YtfcedhejbnoinaaDoorPKx3
import Derived.Test.YtfcedhejbnoinaaDoorVRow
namespace Go.Proofs.YtfcedhejbnoinaaDoor.PureBit
open Go Go.RowKit Go.Proofs.YtfcedhejbnoinaaDoor.PK Go.Proofs.YtfcedhejbnoinaaDoorW.PrintWords Go.Proofs.YtfcedhejbnoinaaDoorW.PrintLast Go.Proofs.YtfcedhejbnoinaaDoorW.PrintMore Go.Proofs.YtfcedhejbnoinaaDoor.Row

/-- A row that may be. -/
def Rt (n : Int) (ws : List Int) : Prop := 0 ≤ n ∧ n ≤ 512 ∧ (ws.length : Int) = (n + 63) / 64 ∧ val ws < 2 ^ n.toNat

theorem count_words {n : Int} (h0 : 0 ≤ n) (h1 : n ≤ 512) : wrap64 (Int.tdiv (wrap64 (wrap64 (n + 64) - 1)) 64) = (n + 63) / 64 := by
  have a : wrap64 (n + 64) = n + 64 := by unfold wrap64; omega
  have b : wrap64 (n + 64 - 1) = n + 63 := by unfold wrap64; omega
  rw [a, b, Int.tdiv_eq_ediv_of_nonneg (by omega)]
  unfold wrap64; omega

theorem sized_spec (n : Int) : bitrow_sized.f n = some (decide (0 ≤ n ∧ n ≤ 512)) := by
  unfold bitrow_sized.f
  by_cases h : 0 ≤ n
  · rw [if_pos h]; simp [h]
  · rw [if_neg h]; simp [h]

theorem rd_eq (ws : List Int) (i : Int) : rd ws i = ws.getD i.toNat 0 := rfl

theorem val_take_last {ws : List Int} (h : Ok ws) (hl : 0 < ws.length) : val ws = val (ws.take (ws.length - 1)) + 2 ^ (64 * (ws.length - 1)) * (ws.getD (ws.length - 1) 0).toNat := by
  induction ws with
  | nil => simp at hl
  | cons w t ih =>
    obtain ⟨_, h2⟩ := h.cons
    cases t with
    | nil => simp [val]
    | cons u t =>
      have := ih h2 (by simp)
      simp only [List.length_cons, Nat.add_sub_cancel] at this ⊢
      have e : (w :: u :: t).take (t.length + 1) = w :: (u :: t).take t.length := rfl
      rw [e]
      show w.toNat + 18446744073709551616 * val (u :: t) = w.toNat + 18446744073709551616 * val ((u :: t).take t.length) + _
      rw [this, Nat.mul_add, ← Nat.mul_assoc]
      have e2 : 18446744073709551616 * 2 ^ (64 * t.length) = 2 ^ (64 * (t.length + 1)) := by rw [Nat.mul_add, Nat.pow_add, Nat.mul_comm]
      rw [e2]
      show _ = _ + _ * ((u :: t).getD t.length 0).toNat
      omega

theorem ok_take {ws : List Int} (h : Ok ws) (k : Nat) : Ok (ws.take k) := fun w hw => h w (List.mem_of_mem_take hw)

/-- The last word's upper bits are 0 just if the number is below 2 ^ n. -/
theorem last_iff {n : Nat} {ws : List Int} (h : Ok ws) (hl : 0 < ws.length) (hn : 64 * (ws.length - 1) ≤ n) : (ws.getD (ws.length - 1) 0).toNat / 2 ^ (n - 64 * (ws.length - 1)) = 0 ↔ val ws < 2 ^ n := by
  have hv := val_take_last h hl
  have hlt : val (ws.take (ws.length - 1)) < 2 ^ (64 * (ws.length - 1)) := by
    have := val_lt (ok_take h (ws.length - 1))
    rwa [List.length_take, Nat.min_eq_left (by omega)] at this
  generalize val (ws.take (ws.length - 1)) = lo at hv hlt
  generalize (ws.getD (ws.length - 1) 0).toNat = hi at hv ⊢
  have e : 2 ^ n = 2 ^ (64 * (ws.length - 1)) * 2 ^ (n - 64 * (ws.length - 1)) := by rw [← Nat.pow_add]; congr 1; omega
  rw [hv, e]
  generalize 2 ^ (64 * (ws.length - 1)) = p at *
  have hp : 0 < 2 ^ (n - 64 * (ws.length - 1)) := Nat.two_pow_pos _
  generalize 2 ^ (n - 64 * (ws.length - 1)) = q at *
  rw [Nat.div_eq_zero_iff]
  constructor
  · rintro (h0 | h0)
    · omega
    · calc lo + p * hi < p + p * hi := by omega
        _ = p * (hi + 1) := by rw [Nat.mul_add, Nat.mul_one, Nat.add_comm]
        _ ≤ p * q := Nat.mul_le_mul_left _ h0
  · intro h0
    refine .inr (Nat.lt_of_not_le fun hle => ?_)
    have : p * q ≤ p * hi := Nat.mul_le_mul_left _ hle
    omega

theorem right_spec {n : Int} {ws : List Int} (hok : Ok ws) (hlen : ws.length ≤ 9223372036854775807) : ∃ b, bitrow_Right.f n ws = some b ∧ (b = true ↔ Rt n ws) := by
  unfold bitrow_Right.f
  rw [sized_spec]
  simp only [Option.bind_some, decide_eq_true_eq]
  by_cases hs : 0 ≤ n ∧ n ≤ 512
  · rw [if_pos hs, count_words hs.1 hs.2]
    by_cases hl : (ws.length : Int) = (n + 63) / 64
    · rw [if_pos hl]
      have hm : Int.tmod n 64 = n % 64 := Int.tmod_eq_emod_of_nonneg hs.1
      rw [hm]
      by_cases h64 : n % 64 = 0
      · rw [if_pos h64]
        refine ⟨true, rfl, ⟨fun _ => ⟨hs.1, hs.2, hl, ?_⟩, fun _ => rfl⟩⟩
        have := val_lt hok
        have e : 64 * ws.length = n.toNat := by omega
        rwa [e] at this
      · rw [if_neg h64]
        have hp : 0 < ws.length := by omega
        have hw : wrap64 ((ws.length : Int) - 1) = ((ws.length - 1 : Nat) : Int) := by unfold wrap64; omega
        rw [hw, if_pos (by omega), if_pos (by omega), if_pos (by omega)]
        refine ⟨_, rfl, ?_⟩
        rw [beq_iff_eq, rd_eq, Int.toNat_natCast]
        have hg := hok.getD (ws.length - 1)
        have hsh : shr .u64 (ws.getD (ws.length - 1) 0) (n % 64) = (((ws.getD (ws.length - 1) 0).toNat / 2 ^ (n.toNat - 64 * (ws.length - 1)) : Nat) : Int) := by
          unfold shr
          have e : min (n % 64).toNat IntKind.u64.bits = n.toNat - 64 * (ws.length - 1) := by
            have : IntKind.u64.bits = 64 := rfl
            rw [this]; omega
          rw [e]
          conv => lhs; rw [← nonneg_toNat hg.1]
          rw [Int.natCast_ediv]; norm_cast
        rw [hsh]
        have hi := last_iff hok hp (n := n.toNat) (by omega)
        constructor
        · intro h0
          exact ⟨hs.1, hs.2, hl, hi.1 (by exact_mod_cast h0)⟩
        · rintro ⟨_, _, _, hv⟩
          exact_mod_cast hi.2 hv
    · rw [if_neg hl]
      exact ⟨false, rfl, ⟨fun h => (by cases h), fun h => absurd h.2.2.1 hl⟩⟩
  · rw [if_neg hs]
    exact ⟨false, rfl, ⟨fun h => (by cases h), fun h => absurd ⟨h.1, h.2.1⟩ hs⟩⟩

theorem wrap_lt {i : Int} (h0 : 0 ≤ i) (h1 : i < 9223372036854775807) : wrap64 (i + 1) = i + 1 := by unfold wrap64; omega

theorem fresh_spec {n : Int} (h0 : 0 ≤ n) (h1 : n ≤ 512) : bitrow_fresh.f n = some (n, List.replicate ((n + 63) / 64).toNat 0) := by
  unfold bitrow_fresh.f
  rw [count_words h0 h1, if_pos (by omega), if_pos (by omega)]

theorem getD_set_self {l : List Int} {i : Nat} (h : i < l.length) (v : Int) : (l.set i v).getD i 0 = v := by
  rw [List.getD_eq_getElem?_getD, List.getElem?_set_self h]; rfl
theorem getD_set_ne {l : List Int} {i j : Nat} (h : i ≠ j) (v : Int) : (l.set i v).getD j 0 = l.getD j 0 := by
  rw [List.getD_eq_getElem?_getD, List.getElem?_set_ne h, ← List.getD_eq_getElem?_getD]

theorem joined69_loop {a b : List Int} (ha : Ok a) (hb : Ok b) (len : Nat) (hla : len ≤ a.length) (hlb : len ≤ b.length) (hlen : len < 9223372036854775807) (n m r : Int) (d : Nat) :
    ∀ (k : Nat) (i : Int) (c : List Int), 0 ≤ i → i + d = len → d < k → c.length = len →
      ∃ c', bitrow_joined_69.l0 k len i n a m b r c = some (r, c', 0) ∧ c'.length = len ∧ (∀ j, j < len → c'.getD j 0 = if (j : Int) < i then c.getD j 0 else (((a.getD j 0).toNat ^^^ (b.getD j 0).toNat : Nat) : Int)) := by
  induction d with
  | zero =>
    intro k i c h0 hd hk hc
    obtain ⟨k, rfl⟩ : ∃ q, k = q + 1 := ⟨k - 1, by omega⟩
    refine ⟨c, ?_, hc, fun j hj => by rw [if_pos (by omega)]⟩
    simp only [bitrow_joined_69.l0]; rw [if_neg (by omega)]
  | succ d ih =>
    intro k i c h0 hd hk hc
    obtain ⟨k, rfl⟩ : ∃ q, k = q + 1 := ⟨k - 1, by omega⟩
    obtain ⟨c', h1, h2, h3⟩ := ih k (i + 1) (c.set i.toNat (((a.getD i.toNat 0).toNat ^^^ (b.getD i.toNat 0).toNat : Nat) : Int)) (by omega) (by omega) (by omega) (by rw [List.length_set]; exact hc)
    refine ⟨c', ?_, h2, fun j hj => ?_⟩
    · simp only [bitrow_joined_69.l0]
      rw [if_pos (by omega), if_pos h0, if_pos (by omega), if_pos (by omega)]
      unfold bitrow_Xor_1.f
      rw [rd_eq, rd_eq, bits_xor' (ha.getD _) (hb.getD _)]
      simp only [Option.bind_some]
      rw [if_pos (by omega), wrap_lt h0 (by omega)]
      exact h1
    · rw [h3 j hj]
      by_cases hji : (j : Int) < i
      · rw [if_pos (by omega), if_pos hji, getD_set_ne (by omega)]
      · rw [if_neg hji]
        by_cases e : (j : Int) = i
        · have e2 : i.toNat = j := by omega
          rw [if_pos (by omega), e2, getD_set_self (by omega)]
        · rw [if_neg (by omega)]

theorem xor_ok {n : Int} {a b : List Int} (ha : Ok a) (hb : Ok b) (hra : Rt n a) (hrb : Rt n b) : Ev (fun k => bitrow_Xor.f k n a n b) (n, words a.length (val a ^^^ val b), 0) := by
  have hl : a.length = b.length := by have := hra.2.2.1; have := hrb.2.2.1; omega
  have hle : a.length ≤ 512 := by have := hra.2.2.1; have := hra.2.1; omega
  refine Ev.of (fun k => bitrow_Xor.mono n a n b k) (k := a.length + 5) ?_
  obtain ⟨c, h1, h2, h3⟩ := joined69_loop ha hb a.length (Nat.le_refl _) (by omega) (by omega) n n n a.length (a.length + 4) 0 (List.replicate a.length 0) (by omega) (by omega) (by omega) (by simp)
  have hz := val_zip (f := fun x y => x ^^^ y) (g := Bool.xor) (fun x y i => Nat.testBit_xor x y i) (fun x y hx hy => by first | exact Nat.xor_lt_two_pow hx hy | exact Nat.and_lt_two_pow _ hy) rfl ha hb hl c h2 (fun j hj => by rw [h3 j hj, if_neg (by omega)])
  have hc : c = words a.length (val a ^^^ val b) := by rw [← hz.2, ← h2]; exact (words_val hz.1).symm
  obtain ⟨x, hx, hx2⟩ := right_spec (n := n) ha (by omega)
  obtain ⟨y, hy, hy2⟩ := right_spec (n := n) hb (by omega)
  obtain rfl : x = true := hx2.2 hra
  obtain rfl : y = true := hy2.2 hrb
  unfold bitrow_Xor.f bitrow_joined_69.f
  rw [hx]
  simp only [Option.bind_some, if_true]
  rw [hy]
  simp only [Option.bind_some, Bool.not_true]
  simp only [bitrow_joined_69.j0]
  rw [fresh_spec hra.1 hra.2.1]
  have e : ((n + 63) / 64).toNat = a.length := by have := hra.2.2.1; omega
  simp only [Bool.false_eq_true, if_false, if_true, Option.bind_some, e, List.length_replicate]
  rw [h1, hc]
  rfl

theorem xor_arg {n m : Int} {a b : List Int} (ha : Ok a) (hb : Ok b) (hla : a.length ≤ 9223372036854775807) (hlb : b.length ≤ 9223372036854775807) (h : ¬ (Rt n a ∧ Rt m b)) : Ev (fun k => bitrow_Xor.f k n a m b) (0, [], 1) := by
  refine Ev.of (fun k => bitrow_Xor.mono n a m b k) (k := 1) ?_
  obtain ⟨x, hx, hx2⟩ := right_spec (n := n) ha hla
  obtain ⟨y, hy, hy2⟩ := right_spec (n := m) hb hlb
  unfold bitrow_Xor.f bitrow_joined_69.f
  rw [hx]
  simp only [Option.bind_some]
  cases x with
  | false => simp [bitrow_joined_69.j0]
  | true =>
    cases y with
    | false => simp [hy, bitrow_joined_69.j0]
    | true => exact absurd ⟨hx2.1 rfl, hy2.1 rfl⟩ h

theorem xor_size {n m : Int} {a b : List Int} (ha : Ok a) (hb : Ok b) (hra : Rt n a) (hrb : Rt m b) (hne : n ≠ m) : Ev (fun k => bitrow_Xor.f k n a m b) (0, [], 2) := by
  refine Ev.of (fun k => bitrow_Xor.mono n a m b k) (k := 1) ?_
  obtain ⟨x, hx, hx2⟩ := right_spec (n := n) ha (by have := hra.2.2.1; have := hra.2.1; omega)
  obtain ⟨y, hy, hy2⟩ := right_spec (n := m) hb (by have := hrb.2.2.1; have := hrb.2.1; omega)
  obtain rfl : x = true := hx2.2 hra
  obtain rfl : y = true := hy2.2 hrb
  unfold bitrow_Xor.f bitrow_joined_69.f
  rw [hx]
  simp only [Option.bind_some, if_true]
  rw [hy]
  simp [bitrow_joined_69.j0, hne]

end Go.Proofs.YtfcedhejbnoinaaDoor.PureBit
