/- What Places, First, Count, Get and their printed references of layer 1 tell, of rows as numbers. -/
import Derived.Test.YtfcedhejbnoinaaDoorPKx1
import Derived.Test.YtfcedhejbnoinaaDoorPKx7
import Derived.Test.YtfcedhejbnoinaaDoorPKx3
import Derived.Test.YtfcedhejbnoinaaDoorPureQPKRef
import Derived.Test.YtfcedhejbnoinaaDoorVPlc
import Derived.Test.YtfcedhejbnoinaaDoorVPop
namespace Go.Proofs.YtfcedhejbnoinaaDoor.PureBit
open Go Go.RowKit Go.Proofs.YtfcedhejbnoinaaDoor.PK Go.Proofs.YtfcedhejbnoinaaDoorW.PrintWords Go.Proofs.YtfcedhejbnoinaaDoorW.PrintLast Go.Proofs.YtfcedhejbnoinaaDoorW.PrintMore Go.Proofs.YtfcedhejbnoinaaDoor.Row Go.Proofs.YtfcedhejbnoinaaDoor.Bits Go.Proofs.YtfcedhejbnoinaaDoor.Pop

theorem length_plc (v n : Nat) : (plc v n).length = cnt n v := by
  induction n with
  | zero => rfl
  | succ n ih =>
    rw [plc_succ, cnt_snoc, List.length_append, ih]
    congr 1
    split <;> rfl

theorem fit_ok {ws : List Int} (hok : Ok ws) (hl : ws.length ≤ 8) : wordsFit ws = true := by
  unfold wordsFit
  rw [Bool.and_eq_true, decide_eq_true_eq, List.all_eq_true]
  exact ⟨hl, fun x hx => decide_eq_true (hok x hx)⟩

theorem wf_rt {n : Int} {ws : List Int} (hok : Ok ws) (h : Rt n ws) : wordsFrom ws ws.length 0 = plc (val ws) n.toNat :=
  wordsFrom_plc hok h.2.2.2 (by have := h.2.2.1; have := h.1; omega)

theorem places_ok {n : Int} {ws : List Int} (hok : Ok ws) (h : Rt n ws) : bitrow_Places.f n ws = some (plc (val ws) n.toNat, 0) := by
  have hl := rt_len h
  obtain ⟨b, hb, hb'⟩ := right_spec (n := n) hok (by omega)
  obtain rfl : b = true := hb'.2 h
  unfold bitrow_Places.f
  rw [hb, Option.bind_some, if_pos rfl, if_pos (fit_ok hok hl), wf_rt hok h]

theorem places_arg {n : Int} {ws : List Int} (hok : Ok ws) (hl : ws.length ≤ 9223372036854775807) (h : ¬ Rt n ws) : bitrow_Places.f n ws = some ([], 1) := by
  obtain ⟨b, hb, hb'⟩ := right_spec (n := n) hok hl
  have : b = false := by cases b with | false => rfl | true => exact absurd (hb'.1 rfl) h
  subst this
  unfold bitrow_Places.f
  rw [hb]; rfl

theorem first_ok {n : Int} {ws : List Int} (hok : Ok ws) (h : Rt n ws) : bitrow_First.f n ws = some (match plc (val ws) n.toNat with | [] => (0, 4) | z :: _ => (z, 0)) := by
  have hl := rt_len h
  obtain ⟨b, hb, hb'⟩ := right_spec (n := n) hok (by omega)
  obtain rfl : b = true := hb'.2 h
  unfold bitrow_First.f
  rw [hb, Option.bind_some, if_pos rfl, if_pos (fit_ok hok hl), wf_rt hok h]
  cases plc (val ws) n.toNat <;> rfl

theorem first_arg {n : Int} {ws : List Int} (hok : Ok ws) (hl : ws.length ≤ 9223372036854775807) (h : ¬ Rt n ws) : bitrow_First.f n ws = some (0, 1) := by
  obtain ⟨b, hb, hb'⟩ := right_spec (n := n) hok hl
  have : b = false := by cases b with | false => rfl | true => exact absurd (hb'.1 rfl) h
  subst this
  unfold bitrow_First.f
  rw [hb]; rfl

theorem mk85 : (6148914691236517205 : Int) = ((mk 85 8 : Nat) : Int) := by decide +kernel
theorem mk51 : (3689348814741910323 : Int) = ((mk 51 8 : Nat) : Int) := by decide +kernel
theorem mk15 : (1085102592571150095 : Int) = ((mk 15 8 : Nat) : Int) := by decide +kernel
theorem mk85n : mk 85 8 = 6148914691236517205 := by decide +kernel
theorem mk51n : mk 51 8 = 3689348814741910323 := by decide +kernel
theorem mk15n : mk 15 8 = 1085102592571150095 := by decide +kernel

theorem and_u {a b : Nat} (ha : a < 18446744073709551616) (hb : b < 18446744073709551616) : Go.bits .and .u64 (a : Int) (b : Int) = ((a &&& b : Nat) : Int) := bits_and a b ha hb
theorem wrap_u {a : Nat} (ha : a < 18446744073709551616) : IntKind.u64.wrap (a : Int) = (a : Int) := wraps_u64 _ (Int.natCast_nonneg _) (by exact_mod_cast ha)
theorem wraps_i64 (n : Int) (h₀ : 0 ≤ n) (h₁ : n < 2 ^ 63) : IntKind.i64.wrap n = n := by
  simp only [IntKind.wrap, IntKind.bits, IntKind.signed]
  simp
  omega

theorem ones_spec {x : Nat} (hx : x < 18446744073709551616) : bits_OnesCount64.f (x : Int) = some ((cnt 64 x : Nat) : Int) := by
  obtain ⟨a, b, c, ha, hb, hc, hc1, hc2⟩ := full_sum x hx
  have l1 : (x / 2 &&& mk 85 8) ≤ 6148914691236517205 := Nat.le_trans Nat.and_le_right (Nat.le_of_eq mk85n)
  have l2 : (x &&& mk 85 8) ≤ 6148914691236517205 := Nat.le_trans Nat.and_le_right (Nat.le_of_eq mk85n)
  have l3 : (s1 8 x / 4 &&& mk 51 8) ≤ 3689348814741910323 := Nat.le_trans Nat.and_le_right (Nat.le_of_eq mk51n)
  have l4 : (s1 8 x &&& mk 51 8) ≤ 3689348814741910323 := Nat.le_trans Nat.and_le_right (Nat.le_of_eq mk51n)
  have l5 : full 8 x ≤ 1085102592571150095 := Nat.le_trans Nat.and_le_right (Nat.le_of_eq mk15n)
  have b1 : s1 8 x < 18446744073709551616 := by unfold s1; omega
  have b2 : s2 8 (s1 8 x) ≤ 7378697629483820646 := by unfold s2; omega
  have e1 : Go.bits .and .u64 ((x : Int) / 2) 6148914691236517205 = ((x / 2 &&& mk 85 8 : Nat) : Int) := by
    rw [mk85, show ((x : Int) / 2) = ((x / 2 : Nat) : Int) by norm_cast]; exact and_u (by omega) (by rw [mk85n]; omega)
  have e2 : Go.bits .and .u64 (x : Int) 6148914691236517205 = ((x &&& mk 85 8 : Nat) : Int) := by
    rw [mk85]; exact and_u hx (by rw [mk85n]; omega)
  have e3 : IntKind.u64.wrap (((x / 2 &&& mk 85 8 : Nat) : Int) + ((x &&& mk 85 8 : Nat) : Int)) = ((s1 8 x : Nat) : Int) := by
    rw [show ((x / 2 &&& mk 85 8 : Nat) : Int) + ((x &&& mk 85 8 : Nat) : Int) = ((s1 8 x : Nat) : Int) by unfold s1; norm_cast]; exact wrap_u b1
  generalize hy : s1 8 x = y at *
  have e4 : Go.bits .and .u64 ((y : Int) / 4) 3689348814741910323 = ((y / 4 &&& mk 51 8 : Nat) : Int) := by
    rw [mk51, show ((y : Int) / 4) = ((y / 4 : Nat) : Int) by norm_cast]; exact and_u (by omega) (by rw [mk51n]; omega)
  have e5 : Go.bits .and .u64 (y : Int) 3689348814741910323 = ((y &&& mk 51 8 : Nat) : Int) := by
    rw [mk51]; exact and_u b1 (by rw [mk51n]; omega)
  have e6 : IntKind.u64.wrap (((y / 4 &&& mk 51 8 : Nat) : Int) + ((y &&& mk 51 8 : Nat) : Int)) = ((s2 8 y : Nat) : Int) := by
    rw [show ((y / 4 &&& mk 51 8 : Nat) : Int) + ((y &&& mk 51 8 : Nat) : Int) = ((s2 8 y : Nat) : Int) by unfold s2; norm_cast]; exact wrap_u (by omega)
  generalize hz : s2 8 y = z at *
  have e7 : IntKind.u64.wrap ((z : Int) / 16 + (z : Int)) = ((z / 16 + z : Nat) : Int) := by
    rw [show (z : Int) / 16 + (z : Int) = ((z / 16 + z : Nat) : Int) by norm_cast]; exact wrap_u (by omega)
  have hf : full 8 x = (z / 16 + z) &&& mk 15 8 := by unfold full s3; rw [hy, hz]
  have e8 : Go.bits .and .u64 ((z / 16 + z : Nat) : Int) 1085102592571150095 = ((full 8 x : Nat) : Int) := by
    rw [mk15, hf]; exact and_u (by omega) (by rw [mk15n]; omega)
  generalize full 8 x = f at *
  have e9 : IntKind.u64.wrap ((f : Int) + (f : Int) / 256) = (a : Int) := by
    rw [show (f : Int) + (f : Int) / 256 = (a : Int) by rw [ha]; omega]; exact wrap_u (by omega)
  have e10 : IntKind.u64.wrap ((a : Int) + (a : Int) / 65536) = (b : Int) := by
    rw [show (a : Int) + (a : Int) / 65536 = (b : Int) by rw [hb]; omega]; exact wrap_u (by omega)
  have e11 : IntKind.u64.wrap ((b : Int) + (b : Int) / 4294967296) = (c : Int) := by
    rw [show (b : Int) + (b : Int) / 4294967296 = (c : Int) by rw [hc]; omega]; exact wrap_u (by omega)
  have e12 : Go.bits .and .i64 (wrap64 (c : Int)) 127 = ((cnt 64 x : Nat) : Int) := by
    rw [wrap_in (by omega) (by omega)]
    have := (bits_nat .i64 63 (by decide) wraps_i64 c 127 (by omega) (by decide)).1
    refine this.trans ?_
    have hm := Nat.and_two_pow_sub_one_eq_mod c 7
    rw [show (2 ^ 7 - 1 : Nat) = 127 from rfl, show (2 ^ 7 : Nat) = 128 from rfl] at hm
    rw [hm, hc2]
  unfold bits_OnesCount64.f
  rw [e1, e2, e3, e4, e5, e6, e7, e8, e9, e10, e11, e12]

theorem word_at {ws : List Int} (hok : Ok ws) {i : Nat} (hi : i < ws.length) : (ws.getD i 0).toNat = val ws / 2 ^ (64 * i) % 2 ^ 64 := by
  have := getD_words ws.length (val ws) i hi
  rw [words_val hok] at this
  rw [this, Int.toNat_natCast]

theorem add_small {a b : Nat} (ha : a ≤ 1000) (hb : b ≤ 1000) : wrap64 ((a : Int) + (b : Int)) = ((a + b : Nat) : Int) := by
  rw [wrap_in (by omega) (by omega)]; omega

theorem count_loop {n : Int} {ws : List Int} (hok : Ok ws) (hl : ws.length ≤ 8) (d : Nat) : ∀ (i : Nat), i + d = ws.length →
    Ev (fun k => bitrow_Count.l0 k ((cnt (64 * i) (val ws) : Nat) : Int) ws (ws.length : Int) (i : Int)) (((cnt (64 * ws.length) (val ws) : Nat) : Int), 0) := by
  induction d with
  | zero =>
    intro i hd
    obtain rfl : i = ws.length := by omega
    refine up ?_
    simp only [bitrow_Count.l0]
    exact Ev.congr (fun k => if_neg (by omega)) (Ev.now _)
  | succ d ih =>
    intro i hd
    have hi : i < ws.length := by omega
    have c0 : (0 : Int) ≤ (i : Int) := Int.natCast_nonneg _
    have c1 : (i : Int) < (ws.length : Int) := Int.ofNat_lt.2 hi
    have ew : wrap64 ((i : Int) + 1) = ((i + 1 : Nat) : Int) := wrap_lt (by omega) (by omega)
    have hw := word_at hok hi
    have hg := hok.getD i
    have hlt : (ws.getD i 0).toNat < 18446744073709551616 := by omega
    have ho := ones_spec hlt
    rw [nonneg_toNat hg.1] at ho
    have e : cnt (64 * (i + 1)) (val ws) = cnt (64 * i) (val ws) + cnt 64 (ws.getD i 0).toNat := by
      rw [show 64 * (i + 1) = 64 * i + 64 by omega, cnt_add, hw, cnt_mod]
    have b1 := cnt_le (64 * i) (val ws)
    have b2 := cnt_le 64 (ws.getD i 0).toNat
    have h1 := ih (i + 1) (by omega)
    have ea : wrap64 (((cnt (64 * i) (val ws) : Nat) : Int) + ((cnt 64 (ws.getD i 0).toNat : Nat) : Int)) = ((cnt (64 * (i + 1)) (val ws) : Nat) : Int) := by
      rw [e]; exact add_small (Nat.le_trans b1 (by omega)) (Nat.le_trans b2 (by decide))
    refine up ?_
    simp only [bitrow_Count.l0]
    rw [rd_eq, Int.toNat_natCast, ho]
    refine Ev.congr (fun k => (if_pos c1).trans ((if_pos c0).trans (if_pos c1))) (Ev.bind (Ev.now _) ?_)
    rw [ea, ew]
    exact h1

theorem count_ok {n : Int} {ws : List Int} (hok : Ok ws) (h : Rt n ws) : Ev (fun k => bitrow_Count.f k n ws) (((cnt n.toNat (val ws) : Nat) : Int), 0) := by
  have hl := rt_len h
  obtain ⟨b, hb, hb'⟩ := right_spec (n := n) hok (by omega)
  obtain rfl : b = true := hb'.2 h
  have h1 := count_loop (n := n) hok hl ws.length 0 (by omega)
  rw [cnt_above (m := 64 * ws.length) h.2.2.2 (by have := h.2.2.1; have := h.1; omega), show cnt (64 * 0) (val ws) = 0 from rfl] at h1
  unfold bitrow_Count.f
  rw [hb]
  simp only [Option.bind_some]
  exact Ev.congr (fun k => if_pos (by first | rfl | trivial)) h1

theorem count_arg {n : Int} {ws : List Int} (hok : Ok ws) (hl : ws.length ≤ 9223372036854775807) (h : ¬ Rt n ws) : Ev (fun k => bitrow_Count.f k n ws) (0, 1) := by
  obtain ⟨b, hb, hb'⟩ := right_spec (n := n) hok hl
  have : b = false := by cases b with | false => rfl | true => exact absurd (hb'.1 rfl) h
  subst this
  unfold bitrow_Count.f
  rw [hb]
  simp only [Option.bind_some]
  exact Ev.congr (fun k => if_neg (by decide)) (Ev.now _)

theorem get_ok {n : Int} {ws : List Int} (hok : Ok ws) (h : Rt n ws) {i : Nat} (hi : (i : Int) < n) : bitrow_Get.f n ws (i : Int) = some (bitI (val ws) i, 0) := by
  have hl := rt_len h
  obtain ⟨b, hb, hb'⟩ := right_spec (n := n) hok (by omega)
  obtain rfl : b = true := hb'.2 h
  have h1 := h.2.2.1
  have h2 := h.2.1
  have ed : wrap64 (Int.tdiv (i : Int) 64) = ((i / 64 : Nat) : Int) := by rw [Int.tdiv_eq_ediv_of_nonneg (by omega), wrap_in (by omega) (by omega)]; norm_cast
  have em : Int.tmod (i : Int) 64 = ((i % 64 : Nat) : Int) := by rw [Int.tmod_eq_emod_of_nonneg (by omega)]; norm_cast
  have c1 : ¬ ((i : Int) < 0) := by omega
  have c2 : ¬ ((i : Int) ≥ n) := by omega
  have c3 : (0 : Int) ≤ ((i / 64 : Nat) : Int) := Int.natCast_nonneg _
  have c4 : ((i / 64 : Nat) : Int) < (ws.length : Int) := by omega
  have c5 : (0 : Int) ≤ ((i % 64 : Nat) : Int) := Int.natCast_nonneg _
  have hg := hok.getD (i / 64)
  have hsh : shr .u64 (ws.getD (i / 64) 0) ((i % 64 : Nat) : Int) = (((ws.getD (i / 64) 0).toNat / 2 ^ (i % 64) : Nat) : Int) := by
    unfold shr
    have e : min ((i % 64 : Nat) : Int).toNat IntKind.u64.bits = i % 64 := by
      have : IntKind.u64.bits = 64 := rfl
      rw [this, Int.toNat_natCast]; omega
    rw [e]
    conv => lhs; rw [← nonneg_toNat hg.1]
    rw [Int.natCast_ediv]; norm_cast
  have hval : wrap64 (Go.bits .and .u64 (shr .u64 (ws.getD (i / 64) 0) ((i % 64 : Nat) : Int)) 1) = bitI (val ws) i := by
    rw [hsh]
    have hq : (ws.getD (i / 64) 0).toNat / 2 ^ (i % 64) < 18446744073709551616 := Nat.lt_of_le_of_lt (Nat.div_le_self _ _) (by omega)
    unfold bitI
    rw [testBit_val hok, Nat.testBit_eq_decide_div_mod_eq]
    generalize (ws.getD (i / 64) 0).toNat / 2 ^ (i % 64) = q at hq
    rw [bits_and' ⟨Int.natCast_nonneg _, by omega⟩ ⟨by decide, by decide⟩, Int.toNat_natCast]
    have e1 : (1 : Int).toNat = 1 := rfl
    rw [e1, Nat.and_one_is_mod, wrap_in (by omega) (by omega)]
    by_cases hm : q % 2 = 1
    · simp [hm]
    · simp [hm]; omega
  unfold bitrow_Get.f
  rw [hb]
  simp only [Option.bind_some]
  rw [ed, em, rd_eq, Int.toNat_natCast, hval]
  exact (if_pos (by first | rfl | trivial)).trans ((if_neg c1).trans ((if_neg c2).trans ((if_pos c3).trans ((if_pos c4).trans (if_pos c5)))))

theorem get_range {n : Int} {ws : List Int} (hok : Ok ws) (h : Rt n ws) {i : Int} (hi : ¬ (0 ≤ i ∧ i < n)) : bitrow_Get.f n ws i = some (0, 3) := by
  have hl := rt_len h
  obtain ⟨b, hb, hb'⟩ := right_spec (n := n) hok (by omega)
  obtain rfl : b = true := hb'.2 h
  unfold bitrow_Get.f
  rw [hb, Option.bind_some, if_pos rfl]
  by_cases h0 : i < 0
  · rw [if_pos h0]
  · rw [if_neg h0, if_pos (by omega)]

theorem get_arg {n : Int} {ws : List Int} (hok : Ok ws) (hl : ws.length ≤ 9223372036854775807) (h : ¬ Rt n ws) (i : Int) : bitrow_Get.f n ws i = some (0, 1) := by
  obtain ⟨b, hb, hb'⟩ := right_spec (n := n) hok hl
  have : b = false := by cases b with | false => rfl | true => exact absurd (hb'.1 rfl) h
  subst this
  unfold bitrow_Get.f
  rw [hb]; rfl

theorem refNumbers_loop {a b : List Int} (hl : a.length = b.length) (hlen : a.length < 9223372036854775807) (d : Nat) : ∀ (i : Nat), i + d = a.length →
    ∃ t, Ev (fun k => downpourref01_Numbers.l0 k a b (a.length : Int) (i : Int)) t ∧ (t = true ↔ ∀ j, i ≤ j → j < a.length → a.getD j 0 = b.getD j 0) := by
  induction d with
  | zero =>
    intro i hd
    refine ⟨true, up ?_, ⟨fun _ j h1 h2 => by omega, fun _ => rfl⟩⟩
    simp only [downpourref01_Numbers.l0]
    exact Ev.congr (fun k => if_neg (by omega)) (Ev.now _)
  | succ d ih =>
    intro i hd
    by_cases h : a.getD i 0 = b.getD i 0
    · obtain ⟨t, h1, h2⟩ := ih (i + 1) (by omega)
      refine ⟨t, Ev.step (fun k => ?_) h1, ?_⟩
      · have ew : wrap64 ((i : Int) + 1) = ((i + 1 : Nat) : Int) := wrap_lt (by omega) (by omega)
        simp only [downpourref01_Numbers.l0]
        rw [rd_eq, rd_eq, Int.toNat_natCast, ew]
        exact (if_pos (by omega)).trans ((if_pos (by omega)).trans ((if_pos (by omega)).trans ((if_pos (by omega)).trans (if_pos h))))
      · rw [h2]
        exact ⟨fun g j h1 h2 => by
          rcases Nat.eq_or_lt_of_le h1 with rfl | h1
          · exact h
          · exact g j h1 h2, fun g j h1 h2 => g j (by omega) h2⟩
    · refine ⟨false, up ?_, ⟨fun e => (by cases e), fun g => absurd (g i (by omega) (by omega)) h⟩⟩
      simp only [downpourref01_Numbers.l0]
      rw [rd_eq, rd_eq, Int.toNat_natCast]
      exact Ev.congr (fun k => (if_pos (by omega)).trans ((if_pos (by omega)).trans ((if_pos (by omega)).trans ((if_pos (by omega)).trans (if_neg h))))) (Ev.now _)

theorem refNumbers_spec {a b : List Int} (hlen : a.length < 9223372036854775807) : Ev (fun k => downpourref01_Numbers.f k a b) (decide (a = b)) := by
  unfold downpourref01_Numbers.f
  by_cases hl : a.length = b.length
  · obtain ⟨t, h1, h2⟩ := refNumbers_loop hl hlen a.length 0 (by omega)
    have e : decide (a = b) = t := by
      rw [Bool.eq_iff_iff, h2, decide_eq_true_eq]
      exact ⟨fun h j _ _ => by rw [h], fun h => ext_getD hl fun j hj => h j (by omega) hj⟩
    rw [e]
    exact Ev.congr (fun k => if_pos (by omega)) h1
  · rw [decide_eq_false fun h => hl (by rw [h])]
    exact Ev.congr (fun k => if_neg (by omega)) (Ev.now _)

end Go.Proofs.YtfcedhejbnoinaaDoor.PureBit
