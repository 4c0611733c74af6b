/- What the printed reference of layer 1 tells, of rows as numbers. -/
import Derived.Test.YtfcedhejbnoinaaDoorPBx2
import Derived.Test.YtfcedhejbnoinaaDoorPBx3
import Derived.Test.YtfcedhejbnoinaaDoorPureQPBBit
namespace Go.Proofs.YtfcedhejbnoinaaDoor.PureBit
open Go Go.RowKit Go.Proofs.YtfcedhejbnoinaaDoor.PB Go.Proofs.YtfcedhejbnoinaaDoorW.PrintWords Go.Proofs.YtfcedhejbnoinaaDoorW.PrintLast Go.Proofs.YtfcedhejbnoinaaDoorW.PrintMore Go.Proofs.YtfcedhejbnoinaaDoor.Row

theorem wrap_in {i : Int} (h0 : -9223372036854775808 ≤ i) (h1 : i < 9223372036854775808) : wrap64 i = i := by unfold wrap64; omega

/-- The bit at a place, as a whole number. -/
def bitI (v i : Nat) : Int := if v.testBit i = true then 1 else 0

theorem bit_spec {ws : List Int} (h : Ok ws) (n : Int) (i : Nat) (hi : i / 64 < ws.length) (hl : ws.length < 9223372036854775807) (hs : i < 9223372036854775807) : downpourref01_Bit.f n ws (i : Int) = some (bitI (val ws) i) := by
  unfold downpourref01_Bit.f
  have a : Int.tdiv (i : Int) 64 = ((i / 64 : Nat) : Int) := by rw [Int.tdiv_eq_ediv_of_nonneg (by omega)]; norm_cast
  have b : Int.tmod (i : Int) 64 = ((i % 64 : Nat) : Int) := by rw [Int.tmod_eq_emod_of_nonneg (by omega)]; norm_cast
  rw [a, b, wrap_in (by omega) (by omega), if_pos (by omega), if_pos (by omega), if_pos (by omega), rd_eq, Int.toNat_natCast]
  have hg := h.getD (i / 64)
  have hsh : shr .u64 (ws.getD (i / 64) 0) ((i % 64 : Nat) : Int) = (((ws.getD (i / 64) 0).toNat / 2 ^ (i % 64) : Nat) : Int) := by
    unfold shr
    have e : min ((i % 64 : Nat) : Int).toNat IntKind.u64.bits = i % 64 := by
      have : IntKind.u64.bits = 64 := rfl
      rw [this, Int.toNat_natCast]; omega
    rw [e]
    conv => lhs; rw [← nonneg_toNat hg.1]
    rw [Int.natCast_ediv]; norm_cast
  rw [hsh, Int.tmod_eq_emod_of_nonneg (Int.natCast_nonneg _)]
  have e2 : (((ws.getD (i / 64) 0).toNat / 2 ^ (i % 64) : Nat) : Int) % 2 = bitI (val ws) i := by
    unfold bitI
    rw [testBit_val h]
    have hb := Nat.testBit_eq_decide_div_mod_eq (x := (ws.getD (i / 64) 0).toNat) (i := i % 64)
    generalize (ws.getD (i / 64) 0).toNat / 2 ^ (i % 64) = q at hb ⊢
    cases ht : (ws.getD (i / 64) 0).toNat.testBit (i % 64) with
    | true =>
      rw [ht] at hb
      have := of_decide_eq_true hb.symm
      simp; omega
    | false =>
      rw [ht] at hb
      have := of_decide_eq_false hb.symm
      simp; omega
  rw [e2, wrap_in] <;> (unfold bitI; split <;> omega)

theorem count_ref {n : Int} (h0 : 0 ≤ n) (h1 : n < 9223372036854775000) : downpourref01_words.f n = some ((n + 63) / 64) := by
  unfold downpourref01_words.f
  rw [wrap_in (i := n + 63) (by omega) (by omega), Int.tdiv_eq_ediv_of_nonneg (by omega), wrap_in (by omega) (by omega)]

/-- A row of bits as a number. -/
def bn : List Int → Nat
  | [] => 0
  | b :: t => (if b = 1 then 1 else 0) + 2 * bn t

theorem testBit_bn (l : List Int) (i : Nat) : (bn l).testBit i = decide (l.getD i 0 = 1) := by
  induction l generalizing i with
  | nil => simp [bn]
  | cons b t ih =>
    cases i with
    | zero =>
      unfold bn
      rw [Nat.testBit_zero]
      by_cases h : b = 1
      · simp [h] <;> omega
      · simp [h]
    | succ i =>
      unfold bn
      rw [Nat.testBit_succ]
      have e : ((if b = 1 then 1 else 0) + 2 * bn t) / 2 = bn t := by split <;> omega
      rw [e, ih]; rfl

theorem bn_lt (l : List Int) : bn l < 2 ^ l.length := by
  induction l with
  | nil => simp [bn]
  | cons b t ih =>
    unfold bn
    rw [List.length_cons, Nat.pow_succ]
    split <;> omega

theorem ext_getD {a b : List Int} (hl : a.length = b.length) (h : ∀ j, j < a.length → a.getD j 0 = b.getD j 0) : a = b := by
  apply List.ext_getElem hl
  intro j h1 h2
  have := h j h1
  rw [List.getD_eq_getElem?_getD, List.getD_eq_getElem?_getD, List.getElem?_eq_getElem h1, List.getElem?_eq_getElem h2] at this
  simpa using this

theorem refRight_loop {ws : List Int} (h : Ok ws) (hl : ws.length < 1000000) (n : Int) (d : Nat) : ∀ (i : Nat), i + d = 64 * ws.length →
    ∃ t, Ev (fun k => downpourref01_Right.l0 k (i : Int) n ws) t ∧ (t = true ↔ ∀ j, i ≤ j → j < 64 * ws.length → (val ws).testBit j = false) := by
  induction d with
  | zero =>
    intro i hd
    refine ⟨true, Ev.step (fun k => ?_) (Ev.now true), ⟨fun _ j h1 h2 => by omega, fun _ => rfl⟩⟩
    simp only [downpourref01_Right.l0]
    rw [wrap_in (by omega) (by omega), if_neg (by omega)]
  | succ d ih =>
    intro i hd
    have hb := bit_spec h n i (by omega) (by omega) (by omega)
    cases ht : (val ws).testBit i with
    | false =>
      obtain ⟨t, h1, h2⟩ := ih (i + 1) (by omega)
      refine ⟨t, Ev.step (fun k => ?_) h1, ?_⟩
      · simp only [downpourref01_Right.l0]
        rw [wrap_in (i := 64 * (ws.length : Int)) (by omega) (by omega), if_pos (by omega), hb]
        simp only [Option.bind_some, bitI, ht]
        rw [wrap_lt (by omega) (by omega)]
        simp
      · rw [h2]
        exact ⟨fun g j h1 h2 => by
          rcases Nat.eq_or_lt_of_le h1 with rfl | h1
          · exact ht
          · exact g j h1 h2, fun g j h1 h2 => g j (by omega) h2⟩
    | true =>
      refine ⟨false, Ev.step (fun k => ?_) (Ev.now false), ⟨fun e => (by cases e), fun g => by have := g i (by omega) (by omega); rw [ht] at this; cases this⟩⟩
      simp only [downpourref01_Right.l0]
      rw [wrap_in (i := 64 * (ws.length : Int)) (by omega) (by omega), if_pos (by omega), hb]
      simp [bitI, ht]

theorem lt_iff_testBit (v n : Nat) (m : Nat) (hv : v < 2 ^ m) : v < 2 ^ n ↔ ∀ j, n ≤ j → j < m → v.testBit j = false := by
  constructor
  · intro h j hj _
    exact Nat.testBit_lt_two_pow (Nat.lt_of_lt_of_le h (Nat.pow_le_pow_right (by omega) hj))
  · intro h
    exact Nat.lt_pow_two_of_testBit v fun j hj => by
      by_cases hm : j < m
      · exact h j hj hm
      · exact Nat.testBit_lt_two_pow (Nat.lt_of_lt_of_le hv (Nat.pow_le_pow_right (by omega) (by omega)))

theorem refRight_any {n : Int} {ws : List Int} (h : Ok ws) (hl : ws.length < 1000000) : ∃ b, Ev (fun k => downpourref01_Right.f k n ws) b ∧ (b = true ↔ Rt n ws) := by
  have hno : ∀ (hf : ∀ k, downpourref01_Right.f k n ws = downpourref01_Right.j0 k true n ws), Ev (fun k => downpourref01_Right.f k n ws) false := fun hf =>
    Ev.congr hf (Ev.step (fun k => by simp only [downpourref01_Right.j0]; exact if_pos trivial) (Ev.now false))
  by_cases h0 : n < 0
  · exact ⟨false, hno fun k => by unfold downpourref01_Right.f; rw [if_pos h0], ⟨fun e => (by cases e), fun e => by have := e.1; omega⟩⟩
  by_cases h1 : n > 512
  · exact ⟨false, hno fun k => by unfold downpourref01_Right.f; rw [if_neg h0, if_pos h1], ⟨fun e => (by cases e), fun e => by have := e.2.1; omega⟩⟩
  by_cases h2 : (ws.length : Int) = (n + 63) / 64
  · have hv := val_lt h
    obtain ⟨t, hloop, ht⟩ := refRight_loop h hl n (64 * ws.length - n.toNat) n.toNat (by omega)
    refine ⟨t, ?_, ?_⟩
    · refine Ev.congr (f := fun k => downpourref01_Right.j0 k false n ws) (fun k => ?_) (Ev.step (fun k => ?_) hloop)
      · unfold downpourref01_Right.f
        rw [if_neg h0, if_neg h1, count_ref (by omega) (by omega)]
        simp [h2]
      · simp only [downpourref01_Right.j0]
        rw [if_neg (by simp), nonneg_toNat (by omega)]
    · rw [ht, ← lt_iff_testBit _ _ _ hv]
      exact ⟨fun e => ⟨by omega, by omega, h2, e⟩, fun e => e.2.2.2⟩
  · refine ⟨false, hno fun k => ?_, ⟨fun e => (by cases e), fun e => absurd e.2.2.1 h2⟩⟩
    unfold downpourref01_Right.f
    rw [if_neg h0, if_neg h1, count_ref (by omega) (by omega)]
    simp only [Option.bind_some]
    congr 1
    rw [bne_iff_ne]; exact h2

theorem refRight_spec {n : Int} {ws : List Int} (h : Ok ws) (hl : ws.length < 1000000) (_hn : (Lit.int .i64 n).wf = true) : ∃ b, Ev (fun k => downpourref01_Right.f k n ws) b ∧ (b = true ↔ Rt n ws) := refRight_any h hl

theorem bind_of {α β : Type} {x : Option α} {a : α} (h : x = some a) {f : α → Option β} : x.bind f = f a := by rw [h]; rfl

theorem two_xor (x y : Bool) : Int.tmod (wrap64 ((if x = true then 1 else 0) + (if y = true then 1 else 0))) 2 = if (x ^^ y) = true then 1 else 0 := by
  cases x <;> cases y <;> simp [wrap64]

theorem two_and (x y : Bool) : wrap64 ((if x = true then 1 else 0) * (if y = true then 1 else 0)) = if (x && y) = true then 1 else 0 := by
  cases x <;> cases y <;> simp [wrap64]


theorem up {α : Type} {g : Nat → Option α} {r : α} (h : Ev (fun k => g (k + 1)) r) : Ev g r := Ev.step (fun _ => rfl) h

theorem ev_unique {α : Type} {g : Nat → Option α} {a b : α} (h : Ev g a) (k : Ev g b) : a = b := by
  obtain ⟨K, h⟩ := h
  obtain ⟨M, k⟩ := k
  have e := (h (K + M) (by omega)).symm.trans (k (K + M) (by omega))
  injection e

theorem ok_of {l : List Int} (h : ∀ z, z ∈ l → (Lit.int .u64 z).wf = true) : Ok l := fun w hw => by
  have := h w hw
  simp only [Lit.wf, decide_eq_true_eq, Bool.and_eq_true] at this
  have a : IntKind.u64.min = 0 := by decide
  have b : IntKind.u64.max = 18446744073709551615 := by decide
  omega

theorem rt_len {n : Int} {ws : List Int} (h : Rt n ws) : ws.length ≤ 8 := by have := h.1; have := h.2.1; have := h.2.2.1; omega
theorem rt_words {n : Int} {L v : Nat} (h0 : 0 ≤ n) (h1 : n ≤ 512) (hL : (L : Int) = (n + 63) / 64) (hv : v < 2 ^ n.toNat) : Ok (words L v) ∧ Rt n (words L v) ∧ val (words L v) = v := by
  have e : val (words L v) = v := by
    rw [val_words]
    exact Nat.mod_eq_of_lt (Nat.lt_of_lt_of_le hv (Nat.pow_le_pow_right (by omega) (by omega)))
  exact ⟨words_ok L v, ⟨h0, h1, by rw [length_words]; exact hL, by rw [e]; exact hv⟩, e⟩

end Go.Proofs.YtfcedhejbnoinaaDoor.PureBit
