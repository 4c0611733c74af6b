/- What the printed reference of layer 1 tells, of rows as numbers. -/
import Derived.Test.YtfcedhejbnoinaaPCx1
import Derived.Test.YtfcedhejbnoinaaPCx6
import Derived.Test.YtfcedhejbnoinaaPureQPCBit
namespace Go.Proofs.Ytfcedhejbnoinaa.PureBit
open Go Go.RowKit Go.Proofs.Ytfcedhejbnoinaa.PC Go.Proofs.YtfcedhejbnoinaaW.PrintWords Go.Proofs.YtfcedhejbnoinaaW.PrintLast Go.Proofs.YtfcedhejbnoinaaW.PrintMore Go.Proofs.Ytfcedhejbnoinaa.Row

theorem wrap_in {i : Int} (h0 : -9223372036854775808 ≤ i) (h1 : i < 9223372036854775808) : wrap64 i = i := by unfold wrap64; omega

/-- The bit at a place, as a whole number. -/
def bitI (v i : Nat) : Int := if v.testBit i = true then 1 else 0

theorem bit_spec {ws : List Int} (h : Ok ws) (n : Int) (i : Nat) (hi : i / 64 < ws.length) (hl : ws.length < 9223372036854775807) (hs : i < 9223372036854775807) : downpourref01_Bit.f n ws (i : Int) = some (bitI (val ws) i) := by
  unfold downpourref01_Bit.f
  have a : Int.tdiv (i : Int) 64 = ((i / 64 : Nat) : Int) := by rw [Int.tdiv_eq_ediv_of_nonneg (by omega)]; norm_cast
  have b : Int.tmod (i : Int) 64 = ((i % 64 : Nat) : Int) := by rw [Int.tmod_eq_emod_of_nonneg (by omega)]; norm_cast
  rw [a, b, wrap_in (by omega) (by omega), if_pos (by omega), if_pos (by omega), if_pos (by omega), rd_eq, Int.toNat_natCast]
  have hg := h.getD (i / 64)
  have hsh : shr .u64 (ws.getD (i / 64) 0) ((i % 64 : Nat) : Int) = (((ws.getD (i / 64) 0).toNat / 2 ^ (i % 64) : Nat) : Int) := by
    unfold shr
    have e : min ((i % 64 : Nat) : Int).toNat IntKind.u64.bits = i % 64 := by
      have : IntKind.u64.bits = 64 := rfl
      rw [this, Int.toNat_natCast]; omega
    rw [e]
    conv => lhs; rw [← nonneg_toNat hg.1]
    rw [Int.natCast_ediv]; norm_cast
  rw [hsh, Int.tmod_eq_emod_of_nonneg (Int.natCast_nonneg _)]
  have e2 : (((ws.getD (i / 64) 0).toNat / 2 ^ (i % 64) : Nat) : Int) % 2 = bitI (val ws) i := by
    unfold bitI
    rw [testBit_val h]
    have hb := Nat.testBit_eq_decide_div_mod_eq (x := (ws.getD (i / 64) 0).toNat) (i := i % 64)
    generalize (ws.getD (i / 64) 0).toNat / 2 ^ (i % 64) = q at hb ⊢
    cases ht : (ws.getD (i / 64) 0).toNat.testBit (i % 64) with
    | true =>
      rw [ht] at hb
      have := of_decide_eq_true hb.symm
      simp; omega
    | false =>
      rw [ht] at hb
      have := of_decide_eq_false hb.symm
      simp; omega
  rw [e2, wrap_in] <;> (unfold bitI; split <;> omega)

theorem count_ref {n : Int} (h0 : 0 ≤ n) (h1 : n < 9223372036854775000) : downpourref01_words.f n = some ((n + 63) / 64) := by
  unfold downpourref01_words.f
  rw [wrap_in (i := n + 63) (by omega) (by omega), Int.tdiv_eq_ediv_of_nonneg (by omega), wrap_in (by omega) (by omega)]

/-- A row of bits as a number. -/
def bn : List Int → Nat
  | [] => 0
  | b :: t => (if b = 1 then 1 else 0) + 2 * bn t

theorem testBit_bn (l : List Int) (i : Nat) : (bn l).testBit i = decide (l.getD i 0 = 1) := by
  induction l generalizing i with
  | nil => simp [bn]
  | cons b t ih =>
    cases i with
    | zero =>
      unfold bn
      rw [Nat.testBit_zero]
      by_cases h : b = 1
      · simp [h] <;> omega
      · simp [h]
    | succ i =>
      unfold bn
      rw [Nat.testBit_succ]
      have e : ((if b = 1 then 1 else 0) + 2 * bn t) / 2 = bn t := by split <;> omega
      rw [e, ih]; rfl

theorem bn_lt (l : List Int) : bn l < 2 ^ l.length := by
  induction l with
  | nil => simp [bn]
  | cons b t ih =>
    unfold bn
    rw [List.length_cons, Nat.pow_succ]
    split <;> omega

theorem from_word {l : List Int} {i : Nat} (hi : i < 20000) {N : Int} {acc : List Int} (ha : acc.length < 1000000) {r : Int × List Int}
    (h : Ev (fun k => downpourref01_From.l0 k l ((i : Int) + 1) N (acc ++ [((bn l / 2 ^ (64 * i) % 18446744073709551616 : Nat) : Int)])) r) (n : Nat) (hn : n ≤ 64) :
    Ev (fun k => downpourref01_From.l1 k l (i : Int) ((bn l / 2 ^ (64 * i + n) % 2 ^ (64 - n) : Nat) : Int) ((n : Int) - 1) N acc) r := by
  induction n with
  | zero =>
    refine Ev.step (fun k => ?_) h
    simp only [downpourref01_From.l1]
    rw [if_neg (by omega), if_pos (by omega), wrap_lt (by omega) (by omega)]
    rfl
  | succ n ih =>
    refine Ev.step (fun k => ?_) (ih (by omega))
    simp only [downpourref01_From.l1]
    have e1 : wrap64 (wrap64 (64 * (i : Int)) + (((n + 1 : Nat) : Int) - 1)) = ((64 * i + n : Nat) : Int) := by
      rw [wrap_in (i := 64 * (i : Int)) (by omega) (by omega), wrap_in (by omega) (by omega)]; omega
    have e2 : wrap64 (((n + 1 : Nat) : Int) - 1 - 1) = (n : Int) - 1 := by rw [wrap_in (by omega) (by omega)]; omega
    have hp : bn l / 2 ^ (64 * i + n) % 2 ^ (64 - n) = 2 * (bn l / 2 ^ (64 * i + (n + 1)) % 2 ^ (64 - (n + 1))) + (bn l / 2 ^ (64 * i + n)) % 2 := by
      have a : 64 - n = (64 - (n + 1)) + 1 := by omega
      have b : 2 ^ (64 * i + (n + 1)) = 2 ^ (64 * i + n) * 2 := by rw [← Nat.add_assoc, Nat.pow_succ]
      rw [a, Nat.pow_succ', Nat.mod_mul, b, Nat.div_div_eq_div_mul, Nat.add_comm]
    have hlt : bn l / 2 ^ (64 * i + (n + 1)) % 2 ^ (64 - (n + 1)) < 2 ^ 63 := Nat.lt_of_lt_of_le (Nat.mod_lt _ (Nat.two_pow_pos _)) (Nat.pow_le_pow_right (by omega) (by omega))
    have hb : (bn l / 2 ^ (64 * i + n)) % 2 = if l.getD (64 * i + n) 0 = 1 then 1 else 0 := by
      have := testBit_bn l (64 * i + n)
      rw [Nat.testBit_eq_decide_div_mod_eq, decide_eq_decide] at this
      split <;> omega
    generalize bn l / 2 ^ (64 * i + (n + 1)) % 2 ^ (64 - (n + 1)) = x at *
    have w1 : IntKind.u64.wrap (2 * (x : Int)) = 2 * (x : Int) := wraps_u64 _ (by omega) (by omega)
    have w2 : IntKind.u64.wrap (2 * (x : Int) + 1) = 2 * (x : Int) + 1 := wraps_u64 _ (by omega) (by omega)
    rw [if_pos (by omega), e1, e2, w1, w2]
    by_cases hin : 64 * i + n < l.length
    · rw [if_pos (by omega), if_pos (by omega), rd_eq, Int.toNat_natCast]
      by_cases h1 : l.getD (64 * i + n) 0 = 1
      · rw [if_pos h1, hp, hb, if_pos h1]; congr 1 <;> omega
      · rw [if_neg h1, hp, hb, if_neg h1]; congr 1 <;> omega
    · rw [if_neg (by omega)]
      have h1 : ¬ l.getD (64 * i + n) 0 = 1 := by
        rw [List.getD_eq_getElem?_getD, List.getElem?_eq_none (by omega)]; simp
      rw [hp, hb, if_neg h1]; congr 1 <;> omega

theorem from_loop {l : List Int} (hl : l.length < 1000000) (N : Int) (d : Nat) : ∀ (i : Nat) (acc : List Int), (i : Int) + d = ((l.length : Int) + 63) / 64 → acc.length < 900000 + i →
    Ev (fun k => downpourref01_From.l0 k l (i : Int) N acc) (N, acc ++ words d (bn l / 2 ^ (64 * i))) := by
  induction d with
  | zero =>
    intro i acc hd _
    refine Ev.step (fun k => ?_) (Ev.now (N, acc ++ words 0 (bn l / 2 ^ (64 * i))))
    simp only [downpourref01_From.l0]
    rw [count_ref (by omega) (by omega)]
    simp only [Option.bind_some]
    rw [if_neg (by omega)]; simp [words]
  | succ d ih =>
    intro i acc hd ha
    have h1 := ih (i + 1) (acc ++ [((bn l / 2 ^ (64 * i) % 18446744073709551616 : Nat) : Int)]) (by omega) (by simp; omega)
    have h2 := from_word (l := l) (i := i) (by omega) (N := N) (acc := acc) (by omega) (show Ev (fun k => downpourref01_From.l0 k l ((i : Int) + 1) N (acc ++ [((bn l / 2 ^ (64 * i) % 18446744073709551616 : Nat) : Int)])) _ from h1) 64 (by omega)
    refine Ev.step (fun k => ?_) (by
      have e : acc ++ words (d + 1) (bn l / 2 ^ (64 * i)) = acc ++ [((bn l / 2 ^ (64 * i) % 18446744073709551616 : Nat) : Int)] ++ words d (bn l / 2 ^ (64 * (i + 1))) := by
        have e : bn l / 2 ^ (64 * i) / 18446744073709551616 = bn l / 2 ^ (64 * (i + 1)) := by
          rw [Nat.div_div_eq_div_mul, Nat.mul_add, Nat.pow_add]
        rw [words, e, List.append_assoc]; rfl
      rw [e]; exact h2)
    simp only [downpourref01_From.l0]
    rw [count_ref (by omega) (by omega)]
    simp only [Option.bind_some]
    rw [if_pos (by omega)]
    have : bn l / 2 ^ (64 * i + 64) % 2 ^ (64 - 64) = 0 := by simp [Nat.mod_one]
    rw [this]; rfl

theorem from_spec {l : List Int} (hl : l.length < 1000000) : Ev (fun k => downpourref01_From.f k l) ((l.length : Int), words ((l.length + 63) / 64) (bn l)) := by
  have := from_loop hl (l.length : Int) ((l.length + 63) / 64) 0 [] (by omega) (by simp)
  simpa [downpourref01_From.f] using this

theorem ext_getD {a b : List Int} (hl : a.length = b.length) (h : ∀ j, j < a.length → a.getD j 0 = b.getD j 0) : a = b := by
  apply List.ext_getElem hl
  intro j h1 h2
  have := h j h1
  rw [List.getD_eq_getElem?_getD, List.getD_eq_getElem?_getD, List.getElem?_eq_getElem h1, List.getElem?_eq_getElem h2] at this
  simpa using this

theorem refRight_loop {ws : List Int} (h : Ok ws) (hl : ws.length < 1000000) (n : Int) (d : Nat) : ∀ (i : Nat), i + d = 64 * ws.length →
    ∃ t, Ev (fun k => downpourref01_Right.l0 k (i : Int) n ws) t ∧ (t = true ↔ ∀ j, i ≤ j → j < 64 * ws.length → (val ws).testBit j = false) := by
  induction d with
  | zero =>
    intro i hd
    refine ⟨true, Ev.step (fun k => ?_) (Ev.now true), ⟨fun _ j h1 h2 => by omega, fun _ => rfl⟩⟩
    simp only [downpourref01_Right.l0]
    rw [wrap_in (by omega) (by omega), if_neg (by omega)]
  | succ d ih =>
    intro i hd
    have hb := bit_spec h n i (by omega) (by omega) (by omega)
    cases ht : (val ws).testBit i with
    | false =>
      obtain ⟨t, h1, h2⟩ := ih (i + 1) (by omega)
      refine ⟨t, Ev.step (fun k => ?_) h1, ?_⟩
      · simp only [downpourref01_Right.l0]
        rw [wrap_in (i := 64 * (ws.length : Int)) (by omega) (by omega), if_pos (by omega), hb]
        simp only [Option.bind_some, bitI, ht]
        rw [wrap_lt (by omega) (by omega)]
        simp
      · rw [h2]
        exact ⟨fun g j h1 h2 => by
          rcases Nat.eq_or_lt_of_le h1 with rfl | h1
          · exact ht
          · exact g j h1 h2, fun g j h1 h2 => g j (by omega) h2⟩
    | true =>
      refine ⟨false, Ev.step (fun k => ?_) (Ev.now false), ⟨fun e => (by cases e), fun g => by have := g i (by omega) (by omega); rw [ht] at this; cases this⟩⟩
      simp only [downpourref01_Right.l0]
      rw [wrap_in (i := 64 * (ws.length : Int)) (by omega) (by omega), if_pos (by omega), hb]
      simp [bitI, ht]

theorem lt_iff_testBit (v n : Nat) (m : Nat) (hv : v < 2 ^ m) : v < 2 ^ n ↔ ∀ j, n ≤ j → j < m → v.testBit j = false := by
  constructor
  · intro h j hj _
    exact Nat.testBit_lt_two_pow (Nat.lt_of_lt_of_le h (Nat.pow_le_pow_right (by omega) hj))
  · intro h
    exact Nat.lt_pow_two_of_testBit v fun j hj => by
      by_cases hm : j < m
      · exact h j hj hm
      · exact Nat.testBit_lt_two_pow (Nat.lt_of_lt_of_le hv (Nat.pow_le_pow_right (by omega) (by omega)))

theorem refRight_any {n : Int} {ws : List Int} (h : Ok ws) (hl : ws.length < 1000000) : ∃ b, Ev (fun k => downpourref01_Right.f k n ws) b ∧ (b = true ↔ Rt n ws) := by
  have hno : ∀ (hf : ∀ k, downpourref01_Right.f k n ws = downpourref01_Right.j0 k true n ws), Ev (fun k => downpourref01_Right.f k n ws) false := fun hf =>
    Ev.congr hf (Ev.step (fun k => by simp only [downpourref01_Right.j0]; exact if_pos trivial) (Ev.now false))
  by_cases h0 : n < 0
  · exact ⟨false, hno fun k => by unfold downpourref01_Right.f; rw [if_pos h0], ⟨fun e => (by cases e), fun e => by have := e.1; omega⟩⟩
  by_cases h1 : n > 512
  · exact ⟨false, hno fun k => by unfold downpourref01_Right.f; rw [if_neg h0, if_pos h1], ⟨fun e => (by cases e), fun e => by have := e.2.1; omega⟩⟩
  by_cases h2 : (ws.length : Int) = (n + 63) / 64
  · have hv := val_lt h
    obtain ⟨t, hloop, ht⟩ := refRight_loop h hl n (64 * ws.length - n.toNat) n.toNat (by omega)
    refine ⟨t, ?_, ?_⟩
    · refine Ev.congr (f := fun k => downpourref01_Right.j0 k false n ws) (fun k => ?_) (Ev.step (fun k => ?_) hloop)
      · unfold downpourref01_Right.f
        rw [if_neg h0, if_neg h1, count_ref (by omega) (by omega)]
        simp [h2]
      · simp only [downpourref01_Right.j0]
        rw [if_neg (by simp), nonneg_toNat (by omega)]
    · rw [ht, ← lt_iff_testBit _ _ _ hv]
      exact ⟨fun e => ⟨by omega, by omega, h2, e⟩, fun e => e.2.2.2⟩
  · refine ⟨false, hno fun k => ?_, ⟨fun e => (by cases e), fun e => absurd e.2.2.1 h2⟩⟩
    unfold downpourref01_Right.f
    rw [if_neg h0, if_neg h1, count_ref (by omega) (by omega)]
    simp only [Option.bind_some]
    congr 1
    rw [bne_iff_ne]; exact h2

theorem refRight_spec {n : Int} {ws : List Int} (h : Ok ws) (hl : ws.length < 1000000) (_hn : (Lit.int .i64 n).wf = true) : ∃ b, Ev (fun k => downpourref01_Right.f k n ws) b ∧ (b = true ↔ Rt n ws) := refRight_any h hl

theorem bind_of {α β : Type} {x : Option α} {a : α} (h : x = some a) {f : α → Option β} : x.bind f = f a := by rw [h]; rfl

theorem two_xor (x y : Bool) : Int.tmod (wrap64 ((if x = true then 1 else 0) + (if y = true then 1 else 0))) 2 = if (x ^^ y) = true then 1 else 0 := by
  cases x <;> cases y <;> simp [wrap64]

theorem two_and (x y : Bool) : wrap64 ((if x = true then 1 else 0) * (if y = true then 1 else 0)) = if (x && y) = true then 1 else 0 := by
  cases x <;> cases y <;> simp [wrap64]

theorem refXor_loop {a b : List Int} (ha : Ok a) (hb : Ok b) {n : Int} (hra : Rt n a) (hrb : Rt n b) (d : Nat) : ∀ (i : Nat) (acc : List Int), (i : Int) + d = n → acc.length = i →
    Ev (fun k => downpourref01_Xor.l0 k acc (i : Int) n a n b) (n, words a.length (bn (acc ++ (List.range d).map fun j => bitI (val a ^^^ val b) (i + j)))) := by
  have la : (a.length : Int) = (n + 63) / 64 := hra.2.2.1
  have lb : (b.length : Int) = (n + 63) / 64 := hrb.2.2.1
  have hn := hra.2.1
  have hn0 := hra.1
  induction d with
  | zero =>
    intro i acc hd hl
    have hf := from_spec (l := acc) (by omega)
    have e1 : (acc.length : Int) = n := by omega
    have e2 : (acc.length + 63) / 64 = a.length := by omega
    rw [e1, e2] at hf
    have := Ev.bind (f := fun _ x => some (x.1, x.2)) hf (Ev.now _)
    refine Ev.step (fun k => ?_) (by simpa using this)
    simp only [downpourref01_Xor.l0]
    rw [if_neg (by omega)]
  | succ d ih =>
    intro i acc hd hl
    have h1 := ih (i + 1) (acc ++ [bitI (val a ^^^ val b) i]) (by omega) (by simp [hl])
    have e : acc ++ (List.range (d + 1)).map (fun j => bitI (val a ^^^ val b) (i + j)) = acc ++ [bitI (val a ^^^ val b) i] ++ (List.range d).map fun j => bitI (val a ^^^ val b) (i + 1 + j) := by
      rw [List.range_succ_eq_map, List.map_cons, List.map_map, List.append_assoc]
      congr 2
      apply List.map_congr_left
      intro j _
      simp only [Function.comp, Nat.succ_eq_add_one]
      congr 1 <;> omega
    rw [e]
    refine Ev.step (fun k => ?_) h1
    simp only [downpourref01_Xor.l0]
    refine (if_pos (by omega)).trans ((bind_of (bit_spec ha n i (by omega) (by omega) (by omega))).trans ((bind_of (bit_spec hb n i (by omega) (by omega) (by omega))).trans ((if_pos (by omega)).trans ?_)))
    have e1 : Int.tmod (wrap64 (bitI (val a) i + bitI (val b) i)) 2 = bitI (val a ^^^ val b) i := by
      unfold bitI
      rw [Nat.testBit_xor]
      exact two_xor _ _
    have e2 : wrap64 ((i : Int) + 1) = ((i + 1 : Nat) : Int) := wrap_lt (by omega) (by omega)
    show downpourref01_Xor.l0 k (acc ++ [Int.tmod (wrap64 (bitI (val a) i + bitI (val b) i)) 2]) (wrap64 ((i : Int) + 1)) n a n b = _
    rw [e1, e2]

theorem refXor_spec {a b : List Int} (ha : Ok a) (hb : Ok b) {n : Int} (hra : Rt n a) (hrb : Rt n b) : Ev (fun k => downpourref01_Xor.f k n a n b) (n, words a.length (val a ^^^ val b)) := by
  have h := refXor_loop ha hb hra hrb n.toNat 0 [] (by have := hra.1; omega) rfl
  have e : bn ([] ++ (List.range n.toNat).map fun j => bitI (val a ^^^ val b) (0 + j)) = val a ^^^ val b := by
    have hlt : val a ^^^ val b < 2 ^ n.toNat := by first | exact Nat.xor_lt_two_pow hra.2.2.2 hrb.2.2.2 | exact Nat.and_lt_two_pow _ hrb.2.2.2
    generalize val a ^^^ val b = v at hlt
    apply Nat.eq_of_testBit_eq
    intro j
    rw [testBit_bn, List.nil_append, List.getD_eq_getElem?_getD, List.getElem?_map]
    by_cases hj : j < n.toNat
    · rw [List.getElem?_range hj]
      simp only [Option.map_some, Option.getD_some, Nat.zero_add, bitI]
      cases v.testBit j <;> simp
    · rw [List.getElem?_eq_none (by simp; omega)]
      rw [Nat.testBit_lt_two_pow (Nat.lt_of_lt_of_le hlt (Nat.pow_le_pow_right (by omega) (by omega)))]
      simp
  rw [e] at h
  simpa [downpourref01_Xor.f] using h


theorem up {α : Type} {g : Nat → Option α} {r : α} (h : Ev (fun k => g (k + 1)) r) : Ev g r := Ev.step (fun _ => rfl) h

theorem ev_unique {α : Type} {g : Nat → Option α} {a b : α} (h : Ev g a) (k : Ev g b) : a = b := by
  obtain ⟨K, h⟩ := h
  obtain ⟨M, k⟩ := k
  have e := (h (K + M) (by omega)).symm.trans (k (K + M) (by omega))
  injection e

theorem ok_of {l : List Int} (h : ∀ z, z ∈ l → (Lit.int .u64 z).wf = true) : Ok l := fun w hw => by
  have := h w hw
  simp only [Lit.wf, decide_eq_true_eq, Bool.and_eq_true] at this
  have a : IntKind.u64.min = 0 := by decide
  have b : IntKind.u64.max = 18446744073709551615 := by decide
  omega

theorem rt_len {n : Int} {ws : List Int} (h : Rt n ws) : ws.length ≤ 8 := by have := h.1; have := h.2.1; have := h.2.2.1; omega
theorem rt_words {n : Int} {L v : Nat} (h0 : 0 ≤ n) (h1 : n ≤ 512) (hL : (L : Int) = (n + 63) / 64) (hv : v < 2 ^ n.toNat) : Ok (words L v) ∧ Rt n (words L v) ∧ val (words L v) = v := by
  have e : val (words L v) = v := by
    rw [val_words]
    exact Nat.mod_eq_of_lt (Nat.lt_of_lt_of_le hv (Nat.pow_le_pow_right (by omega) (by omega)))
  exact ⟨words_ok L v, ⟨h0, h1, by rw [length_words]; exact hL, by rw [e]; exact hv⟩, e⟩

theorem xor_w {n : Int} {L u v : Nat} (h0 : 0 ≤ n) (h1 : n ≤ 512) (hL : (L : Int) = (n + 63) / 64) (hu : u < 2 ^ n.toNat) (hv : v < 2 ^ n.toNat) : Ev (fun k => bitrow_Xor.f k n (words L u) n (words L v)) (n, words L (u ^^^ v), 0) := by
  obtain ⟨a1, a2, a3⟩ := rt_words h0 h1 hL hu
  obtain ⟨b1, b2, b3⟩ := rt_words h0 h1 hL hv
  have := xor_ok a1 b1 a2 b2
  rwa [a3, b3, length_words] at this

theorem xor_any {a b : List Int} (ha : Ok a) (hb : Ok b) (la : a.length ≤ 9223372036854775807) (lb : b.length ≤ 9223372036854775807) (n m : Int) : ∃ r, Ev (fun k => bitrow_Xor.f k n a m b) r := by
  by_cases h : Rt n a ∧ Rt m b
  · by_cases hne : n = m
    · subst hne; exact ⟨_, xor_ok ha hb h.1 h.2⟩
    · exact ⟨_, xor_size ha hb h.1 h.2 hne⟩
  · exact ⟨_, xor_arg ha hb la lb h⟩

end Go.Proofs.Ytfcedhejbnoinaa.PureBit
