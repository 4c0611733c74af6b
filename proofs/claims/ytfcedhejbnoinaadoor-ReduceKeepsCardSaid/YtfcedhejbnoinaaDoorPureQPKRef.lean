/- What the printed reference of layer 1 tells, of rows as numbers. -/
import Derived.Test.YtfcedhejbnoinaaDoorPKx1
import Derived.Test.YtfcedhejbnoinaaDoorPureQPKBit
namespace Go.Proofs.YtfcedhejbnoinaaDoor.PureBit
open Go Go.RowKit Go.Proofs.YtfcedhejbnoinaaDoor.PK Go.Proofs.YtfcedhejbnoinaaDoorW.PrintWords Go.Proofs.YtfcedhejbnoinaaDoorW.PrintLast Go.Proofs.YtfcedhejbnoinaaDoorW.PrintMore Go.Proofs.YtfcedhejbnoinaaDoor.Row

theorem wrap_in {i : Int} (h0 : -9223372036854775808 ≤ i) (h1 : i < 9223372036854775808) : wrap64 i = i := by unfold wrap64; omega

/-- The bit at a place, as a whole number. -/
def bitI (v i : Nat) : Int := if v.testBit i = true then 1 else 0

/-- A row of bits as a number. -/
def bn : List Int → Nat
  | [] => 0
  | b :: t => (if b = 1 then 1 else 0) + 2 * bn t

theorem testBit_bn (l : List Int) (i : Nat) : (bn l).testBit i = decide (l.getD i 0 = 1) := by
  induction l generalizing i with
  | nil => simp [bn]
  | cons b t ih =>
    cases i with
    | zero =>
      unfold bn
      rw [Nat.testBit_zero]
      by_cases h : b = 1
      · simp [h] <;> omega
      · simp [h]
    | succ i =>
      unfold bn
      rw [Nat.testBit_succ]
      have e : ((if b = 1 then 1 else 0) + 2 * bn t) / 2 = bn t := by split <;> omega
      rw [e, ih]; rfl

theorem bn_lt (l : List Int) : bn l < 2 ^ l.length := by
  induction l with
  | nil => simp [bn]
  | cons b t ih =>
    unfold bn
    rw [List.length_cons, Nat.pow_succ]
    split <;> omega

theorem same_loop {a b : List Int} (hl : a.length = b.length) (hlen : a.length < 9223372036854775807) (n m : Int) (d : Nat) : ∀ (i : Nat), i + d = a.length →
    ∃ t, Ev (fun k => downpourref01_Same.l0 k (a.length : Int) (i : Int) n a m b) t ∧ (t = true ↔ ∀ j, i ≤ j → j < a.length → a.getD j 0 = b.getD j 0) := by
  induction d with
  | zero =>
    intro i hd
    refine ⟨true, Ev.step (fun k => ?_) (Ev.now true), ⟨fun _ j h1 h2 => by omega, fun _ => rfl⟩⟩
    simp only [downpourref01_Same.l0]; rw [if_neg (by omega)]
  | succ d ih =>
    intro i hd
    by_cases h : a.getD i 0 = b.getD i 0
    · obtain ⟨t, h1, h2⟩ := ih (i + 1) (by omega)
      refine ⟨t, Ev.step (fun k => ?_) h1, ?_⟩
      · simp only [downpourref01_Same.l0]
        rw [if_pos (by omega), if_pos (by omega), if_pos (by omega), if_pos (by omega), rd_eq, rd_eq, Int.toNat_natCast, if_pos h, wrap_lt (by omega) (by omega)]
        rfl
      · rw [h2]
        exact ⟨fun g j h1 h2 => by
          rcases Nat.eq_or_lt_of_le h1 with rfl | h1
          · exact h
          · exact g j h1 h2, fun g j h1 h2 => g j (by omega) h2⟩
    · refine ⟨false, Ev.step (fun k => ?_) (Ev.now false), ⟨fun e => (by cases e), fun g => absurd (g i (by omega) (by omega)) h⟩⟩
      simp only [downpourref01_Same.l0]
      rw [if_pos (by omega), if_pos (by omega), if_pos (by omega), if_pos (by omega), rd_eq, rd_eq, Int.toNat_natCast, if_neg h]

theorem ext_getD {a b : List Int} (hl : a.length = b.length) (h : ∀ j, j < a.length → a.getD j 0 = b.getD j 0) : a = b := by
  apply List.ext_getElem hl
  intro j h1 h2
  have := h j h1
  rw [List.getD_eq_getElem?_getD, List.getD_eq_getElem?_getD, List.getElem?_eq_getElem h1, List.getElem?_eq_getElem h2] at this
  simpa using this

theorem same_spec (n m : Int) {a b : List Int} (ha : a.length < 9223372036854775807) : Ev (fun k => downpourref01_Same.f k n a m b) (decide (n = m ∧ a = b)) := by
  by_cases hn : n = m
  · by_cases hl : a.length = b.length
    · obtain ⟨t, h1, h2⟩ := same_loop hl ha n m a.length 0 (by omega)
      have e : decide (n = m ∧ a = b) = t := by
        rw [Bool.eq_iff_iff, h2, decide_eq_true_eq]
        exact ⟨fun h j _ _ => by rw [h.2], fun h => ⟨hn, ext_getD hl fun j hj => h j (by omega) hj⟩⟩
      rw [e]
      refine Ev.congr (f := fun k => downpourref01_Same.j0 k false n a m b) (fun k => ?_) (Ev.step (fun k => ?_) h1)
      · unfold downpourref01_Same.f; rw [if_pos hn]; simp [hl]
      · simp only [downpourref01_Same.j0]; rw [if_neg (by simp)]; rfl
    · have e : decide (n = m ∧ a = b) = false := decide_eq_false fun h => hl (by rw [h.2])
      rw [e]
      refine Ev.congr (f := fun k => downpourref01_Same.j0 k true n a m b) (fun k => ?_) (Ev.step (fun k => ?_) (Ev.now false))
      · unfold downpourref01_Same.f; rw [if_pos hn]
        congr 1
        rw [bne_iff_ne]; exact_mod_cast hl
      · simp only [downpourref01_Same.j0]; exact if_pos trivial
  · have e : decide (n = m ∧ a = b) = false := decide_eq_false fun h => hn h.1
    rw [e]
    refine Ev.congr (f := fun k => downpourref01_Same.j0 k true n a m b) (fun k => ?_) (Ev.step (fun k => ?_) (Ev.now false))
    · unfold downpourref01_Same.f; rw [if_neg hn]
    · simp only [downpourref01_Same.j0]; exact if_pos trivial

theorem lt_iff_testBit (v n : Nat) (m : Nat) (hv : v < 2 ^ m) : v < 2 ^ n ↔ ∀ j, n ≤ j → j < m → v.testBit j = false := by
  constructor
  · intro h j hj _
    exact Nat.testBit_lt_two_pow (Nat.lt_of_lt_of_le h (Nat.pow_le_pow_right (by omega) hj))
  · intro h
    exact Nat.lt_pow_two_of_testBit v fun j hj => by
      by_cases hm : j < m
      · exact h j hj hm
      · exact Nat.testBit_lt_two_pow (Nat.lt_of_lt_of_le hv (Nat.pow_le_pow_right (by omega) (by omega)))

theorem bind_of {α β : Type} {x : Option α} {a : α} (h : x = some a) {f : α → Option β} : x.bind f = f a := by rw [h]; rfl

theorem two_xor (x y : Bool) : Int.tmod (wrap64 ((if x = true then 1 else 0) + (if y = true then 1 else 0))) 2 = if (x ^^ y) = true then 1 else 0 := by
  cases x <;> cases y <;> simp [wrap64]

theorem two_and (x y : Bool) : wrap64 ((if x = true then 1 else 0) * (if y = true then 1 else 0)) = if (x && y) = true then 1 else 0 := by
  cases x <;> cases y <;> simp [wrap64]


theorem up {α : Type} {g : Nat → Option α} {r : α} (h : Ev (fun k => g (k + 1)) r) : Ev g r := Ev.step (fun _ => rfl) h

theorem ev_unique {α : Type} {g : Nat → Option α} {a b : α} (h : Ev g a) (k : Ev g b) : a = b := by
  obtain ⟨K, h⟩ := h
  obtain ⟨M, k⟩ := k
  have e := (h (K + M) (by omega)).symm.trans (k (K + M) (by omega))
  injection e

theorem same_self (n : Int) {a : List Int} (ha : a.length < 9223372036854775807) : Ev (fun k => downpourref01_Same.f k n a n a) true := by
  simpa using same_spec n n (a := a) (b := a) ha

theorem ok_of {l : List Int} (h : ∀ z, z ∈ l → (Lit.int .u64 z).wf = true) : Ok l := fun w hw => by
  have := h w hw
  simp only [Lit.wf, decide_eq_true_eq, Bool.and_eq_true] at this
  have a : IntKind.u64.min = 0 := by decide
  have b : IntKind.u64.max = 18446744073709551615 := by decide
  omega

theorem rt_len {n : Int} {ws : List Int} (h : Rt n ws) : ws.length ≤ 8 := by have := h.1; have := h.2.1; have := h.2.2.1; omega
theorem rt_words {n : Int} {L v : Nat} (h0 : 0 ≤ n) (h1 : n ≤ 512) (hL : (L : Int) = (n + 63) / 64) (hv : v < 2 ^ n.toNat) : Ok (words L v) ∧ Rt n (words L v) ∧ val (words L v) = v := by
  have e : val (words L v) = v := by
    rw [val_words]
    exact Nat.mod_eq_of_lt (Nat.lt_of_lt_of_le hv (Nat.pow_le_pow_right (by omega) (by omega)))
  exact ⟨words_ok L v, ⟨h0, h1, by rw [length_words]; exact hL, by rw [e]; exact hv⟩, e⟩

theorem xor_w {n : Int} {L u v : Nat} (h0 : 0 ≤ n) (h1 : n ≤ 512) (hL : (L : Int) = (n + 63) / 64) (hu : u < 2 ^ n.toNat) (hv : v < 2 ^ n.toNat) : Ev (fun k => bitrow_Xor.f k n (words L u) n (words L v)) (n, words L (u ^^^ v), 0) := by
  obtain ⟨a1, a2, a3⟩ := rt_words h0 h1 hL hu
  obtain ⟨b1, b2, b3⟩ := rt_words h0 h1 hL hv
  have := xor_ok a1 b1 a2 b2
  rwa [a3, b3, length_words] at this

theorem xor_any {a b : List Int} (ha : Ok a) (hb : Ok b) (la : a.length ≤ 9223372036854775807) (lb : b.length ≤ 9223372036854775807) (n m : Int) : ∃ r, Ev (fun k => bitrow_Xor.f k n a m b) r := by
  by_cases h : Rt n a ∧ Rt m b
  · by_cases hne : n = m
    · subst hne; exact ⟨_, xor_ok ha hb h.1 h.2⟩
    · exact ⟨_, xor_size ha hb h.1 h.2 hne⟩
  · exact ⟨_, xor_arg ha hb la lb h⟩

end Go.Proofs.YtfcedhejbnoinaaDoor.PureBit
