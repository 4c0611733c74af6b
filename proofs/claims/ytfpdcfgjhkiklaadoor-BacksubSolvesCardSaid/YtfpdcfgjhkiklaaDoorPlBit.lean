/- Rows of layer 1: what they are, what may be, what a row of places is. No program in sight. -/
import Derived.Test.YtfpdcfgjhkiklaaDoorPmTab
import Derived.Test.YtfpdcfgjhkiklaaDoorPlPlc
set_option linter.unusedSimpArgs false
set_option linter.unusedVariables false
set_option autoImplicit false
namespace Go.PM.Bit
noncomputable section
open Go Go.PM Go.PM.Row Go.PM.Bits

theorem ofInt_nat {x : Int} (h0 : 0 ≤ x) (h1 : x < 18446744073709551616) : (BitVec.ofInt 64 x).toNat = x.toNat := by
  rw [BitVec.toNat_ofInt]
  rw [Int.emod_eq_of_lt h0 (by simpa using h1)]
theorem wrap_nat {x : Nat} (h : x < 18446744073709551616) : IntKind.u64.wrap (x : Int) = (x : Int) := wrap_u64 (by omega) (by omega)
theorem orI_nat {x y : Int} (h0 : 0 ≤ x) (h1 : x < 18446744073709551616) (g0 : 0 ≤ y) (g1 : y < 18446744073709551616) : orI .u64 x y = ((x.toNat ||| y.toNat : Nat) : Int) := by
  have h : orI .u64 x y = IntKind.u64.wrap ((BitVec.ofInt 64 x ||| BitVec.ofInt 64 y).toNat : Int) := rfl
  rw [h, BitVec.toNat_or, ofInt_nat h0 h1, ofInt_nat g0 g1]
  exact wrap_nat (Nat.or_lt_two_pow (n := 64) (by omega) (by omega))
theorem xorI_nat {x y : Int} (h0 : 0 ≤ x) (h1 : x < 18446744073709551616) (g0 : 0 ≤ y) (g1 : y < 18446744073709551616) : xorI .u64 x y = ((x.toNat ^^^ y.toNat : Nat) : Int) := by
  have h : xorI .u64 x y = IntKind.u64.wrap ((BitVec.ofInt 64 x ^^^ BitVec.ofInt 64 y).toNat : Int) := rfl
  rw [h, BitVec.toNat_xor, ofInt_nat h0 h1, ofInt_nat g0 g1]
  exact wrap_nat (Nat.xor_lt_two_pow (n := 64) (by omega) (by omega))
theorem andI_nat {x y : Int} (h0 : 0 ≤ x) (h1 : x < 18446744073709551616) (g0 : 0 ≤ y) (g1 : y < 18446744073709551616) : andI .u64 x y = ((x.toNat &&& y.toNat : Nat) : Int) := by
  have h : andI .u64 x y = IntKind.u64.wrap ((BitVec.ofInt 64 x &&& BitVec.ofInt 64 y).toNat : Int) := rfl
  rw [h, BitVec.toNat_and, ofInt_nat h0 h1, ofInt_nat g0 g1]
  exact wrap_nat (Nat.lt_of_le_of_lt Nat.and_le_left (by omega))
theorem shl_one {b : Nat} (hb : b < 64) : shfI .shl .u64 1 (b : Int) = some ((2 ^ b : Nat) : Int) := by
  rw [shfI_shl (by omega)]
  have e : min ((b : Nat) : Int).toNat IntKind.u64.bits = b := by
    have : IntKind.u64.bits = 64 := rfl
    rw [this, Int.toNat_natCast]; omega
  have h2 : 2 ^ b < 2 ^ 64 := Nat.pow_lt_pow_right (by omega) hb
  rw [e, Int.one_mul]
  have e2 : (2 : Int) ^ b = ((2 ^ b : Nat) : Int) := by norm_cast
  rw [e2, wrap_nat (by simpa using h2)]
theorem shr_nat {x : Int} {b : Nat} (h0 : 0 ≤ x) (hb : b < 64) : shfI .shr .u64 x (b : Int) = some ((x.toNat / 2 ^ b : Nat) : Int) := by
  rw [shr_u64 (c := ((2 ^ b : Nat) : Int)) (by omega) (by
    rw [Int.toNat_natCast, Nat.min_eq_left (by omega)]; norm_cast)]
  congr 1
  have : x = ((x.toNat : Nat) : Int) := by omega
  conv => lhs; rw [this]
  norm_cast

theorem val_take_last {ws : List Int} (h : Ok ws) (hl : 0 < ws.length) : val ws = val (ws.take (ws.length - 1)) + 2 ^ (64 * (ws.length - 1)) * (ws.getD (ws.length - 1) 0).toNat := by
  induction ws with
  | nil => simp at hl
  | cons w t ih =>
    obtain ⟨_, h2⟩ := h.cons
    cases t with
    | nil => simp [val]
    | cons u t =>
      have := ih h2 (by simp)
      simp only [List.length_cons, Nat.add_sub_cancel] at this ⊢
      have e : (w :: u :: t).take (t.length + 1) = w :: (u :: t).take t.length := rfl
      rw [e]
      show w.toNat + 18446744073709551616 * val (u :: t) = w.toNat + 18446744073709551616 * val ((u :: t).take t.length) + _
      rw [this, Nat.mul_add, ← Nat.mul_assoc]
      have e2 : 18446744073709551616 * 2 ^ (64 * t.length) = 2 ^ (64 * (t.length + 1)) := by rw [Nat.mul_add, Nat.pow_add, Nat.mul_comm]
      rw [e2]
      show _ = _ + _ * ((u :: t).getD t.length 0).toNat
      omega

theorem ok_take {ws : List Int} (h : Ok ws) (k : Nat) : Ok (ws.take k) := fun w hw => h w (List.mem_of_mem_take hw)

/-- The last word's upper bits are 0 just if the number is below 2 ^ n. -/
theorem last_iff {n : Nat} {ws : List Int} (h : Ok ws) (hl : 0 < ws.length) (hn : 64 * (ws.length - 1) ≤ n) : (ws.getD (ws.length - 1) 0).toNat / 2 ^ (n - 64 * (ws.length - 1)) = 0 ↔ val ws < 2 ^ n := by
  have hv := val_take_last h hl
  have hlt : val (ws.take (ws.length - 1)) < 2 ^ (64 * (ws.length - 1)) := by
    have := val_lt (ok_take h (ws.length - 1))
    rwa [List.length_take, Nat.min_eq_left (by omega)] at this
  generalize val (ws.take (ws.length - 1)) = lo at hv hlt
  generalize (ws.getD (ws.length - 1) 0).toNat = hi at hv ⊢
  have e : 2 ^ n = 2 ^ (64 * (ws.length - 1)) * 2 ^ (n - 64 * (ws.length - 1)) := by rw [← Nat.pow_add]; congr 1; omega
  rw [hv, e]
  generalize 2 ^ (64 * (ws.length - 1)) = p at *
  have hp : 0 < 2 ^ (n - 64 * (ws.length - 1)) := Nat.two_pow_pos _
  generalize 2 ^ (n - 64 * (ws.length - 1)) = q at *
  rw [Nat.div_eq_zero_iff]
  constructor
  · rintro (h0 | h0)
    · omega
    · calc lo + p * hi < p + p * hi := by omega
        _ = p * (hi + 1) := by rw [Nat.mul_add, Nat.mul_one, Nat.add_comm]
        _ ≤ p * q := Nat.mul_le_mul_left _ h0
  · intro h0
    refine .inr (Nat.lt_of_not_le fun hle => ?_)
    have : p * q ≤ p * hi := Nat.mul_le_mul_left _ hle
    omega

theorem ok_replicate (k : Nat) : Ok (List.replicate k 0) := fun w hw => by rw [List.eq_of_mem_replicate hw]; omega
theorem val_replicate (k : Nat) : val (List.replicate k 0) = 0 := by
  induction k with
  | zero => rfl
  | succ k ih => rw [List.replicate_succ]; unfold val; rw [ih]; rfl
theorem ok_set_or {ws : List Int} (h : Ok ws) (j b : Nat) (_hj : j < ws.length) (hb : b < 64) : Ok (ws.set j (((ws.getD j 0).toNat ||| 2 ^ b : Nat) : Int)) := by
  intro u hu
  rcases List.mem_or_eq_of_mem_set hu with hu | rfl
  · exact h u hu
  · have h1 : (ws.getD j 0).toNat < 2 ^ 64 := by have := h.getD j; omega
    have h2 : 2 ^ b < 2 ^ 64 := Nat.pow_lt_pow_right (by omega) hb
    have := Nat.or_lt_two_pow h1 h2
    omega

/-- How many words. -/
def nwI (n : Int) : Nat := ((n + 63) / 64).toNat
noncomputable def nw : Int → Nat := Classical.choose (⟨nwI, rfl⟩ : ∃ f, f = nwI)
theorem nw_eq : nw = nwI := Classical.choose_spec (⟨nwI, rfl⟩ : ∃ f, f = nwI)
def szB (n : Int) : Bool := decide (0 ≤ n) && decide (n ≤ 512)
theorem szB_iff {n : Int} : szB n = true ↔ 0 ≤ n ∧ n ≤ 512 := by unfold szB; simp
def zerosI (k : Nat) : List Int := List.replicate k 0
noncomputable def zerosS : Nat → List Int := Classical.choose (⟨zerosI, rfl⟩ : ∃ f, f = zerosI)
theorem zerosS_eq : zerosS = zerosI := Classical.choose_spec (⟨zerosI, rfl⟩ : ∃ f, f = zerosI)
def okI (ws : List Int) : Bool := ws.all fun w => decide (0 ≤ w) && decide (w < 18446744073709551616)
noncomputable def okW : List Int → Bool := Classical.choose (⟨okI, rfl⟩ : ∃ f, f = okI)
theorem okW_eq : okW = okI := Classical.choose_spec (⟨okI, rfl⟩ : ∃ f, f = okI)
theorem okW_iff {ws : List Int} : okW ws = true ↔ Ok ws := by rw [okW_eq]; unfold okI Ok; simp
/-- A row that may be. -/
def rtI (n : Int) (ws : List Int) : Bool := szB n && decide (ws.length = nw n) && decide (val ws < 2 ^ n.toNat)
noncomputable def rtS : Int → List Int → Bool := Classical.choose (⟨rtI, rfl⟩ : ∃ f, f = rtI)
theorem rtS_eq : rtS = rtI := Classical.choose_spec (⟨rtI, rfl⟩ : ∃ f, f = rtI)
theorem rtS_iff {n : Int} {ws : List Int} : rtS n ws = true ↔ (0 ≤ n ∧ n ≤ 512) ∧ ws.length = nw n ∧ val ws < 2 ^ n.toNat := by
  rw [rtS_eq]; unfold rtI; simp [szB_iff, and_assoc]
theorem nw_cast {n : Int} (h : 0 ≤ n) : ((nw n : Nat) : Int) = (n + 63) / 64 := by rw [nw_eq]; unfold nwI; omega
theorem nw_le {n : Int} (h : n ≤ 512) : nw n ≤ 8 := by rw [nw_eq]; unfold nwI; omega
/-- The number whose bits are at places. -/
def mask : List Int → Nat
  | [] => 0
  | i :: l => 2 ^ i.toNat ||| mask l
theorem testBit_mask {l : List Int} (h : ∀ z ∈ l, 0 ≤ z) (j : Nat) : (mask l).testBit j = decide ((j : Int) ∈ l) := by
  induction l with
  | nil => simp [mask]
  | cons i l ih =>
    rw [mask, Nat.testBit_or, Nat.testBit_two_pow, ih (fun z hz => h z (List.mem_cons_of_mem _ hz)), ← Bool.decide_or, decide_eq_decide, List.mem_cons]
    have := h i List.mem_cons_self
    constructor
    · rintro (h | h)
      · exact .inl (by omega)
      · exact .inr h
    · rintro (h | h)
      · exact .inl (by omega)
      · exact .inr h
theorem mask_lt {l : List Int} {n : Nat} (h : ∀ z ∈ l, 0 ≤ z ∧ z < (n : Int)) : mask l < 2 ^ n := by
  induction l with
  | nil => exact Nat.two_pow_pos _
  | cons i l ih =>
    rw [mask]
    have := h i List.mem_cons_self
    exact Nat.or_lt_two_pow (Nat.pow_lt_pow_right (by omega) (by omega)) (ih fun z hz => h z (List.mem_cons_of_mem _ hz))
def okOfI (n : Int) (l : List Int) : Bool := szB n && l.all fun i => decide (0 ≤ i) && decide (i < n)
noncomputable def ofOk : Int → List Int → Bool := Classical.choose (⟨okOfI, rfl⟩ : ∃ f, f = okOfI)
theorem ofOk_eq : ofOk = okOfI := Classical.choose_spec (⟨okOfI, rfl⟩ : ∃ f, f = okOfI)
theorem ofOk_iff {n : Int} {l : List Int} : ofOk n l = true ↔ (0 ≤ n ∧ n ≤ 512) ∧ ∀ z ∈ l, 0 ≤ z ∧ z < n := by rw [ofOk_eq]; unfold okOfI; simp [szB_iff]
def ofErrI (n : Int) (l : List Int) : Int := if ofOk n l = true then 0 else if szB n = true then 3 else 2
noncomputable def ofErr : Int → List Int → Int := Classical.choose (⟨ofErrI, rfl⟩ : ∃ f, f = ofErrI)
theorem ofErr_eq : ofErr = ofErrI := Classical.choose_spec (⟨ofErrI, rfl⟩ : ∃ f, f = ofErrI)
/-- The words of a row of places. -/
def ofI (n : Int) (l : List Int) : List Int := words (nw n) (mask (l.filter fun i => decide (0 ≤ i) && decide (i < n)))
noncomputable def ofS : Int → List Int → List Int := Classical.choose (⟨ofI, rfl⟩ : ∃ f, f = ofI)
theorem ofS_eq : ofS = ofI := Classical.choose_spec (⟨ofI, rfl⟩ : ∃ f, f = ofI)
theorem of_eq {n : Int} {l : List Int} (h : ∀ z ∈ l, 0 ≤ z ∧ z < n) : ofS n l = words (nw n) (mask l) := by
  rw [ofS_eq]; unfold ofI
  rw [List.filter_eq_self.2 fun z hz => by simpa using h z hz]
/-- Words that have a row's bits are the row. -/
theorem words_of {n : Int} {l ws : List Int} (hok : Ok ws) (hl : ws.length = nw n) (hb : ∀ j, (val ws).testBit j = decide ((j : Int) ∈ l ∧ (j : Int) < n)) : ws = ofS n l := by
  rw [ofS_eq]; unfold ofI
  rw [← words_val hok, hl]
  congr 1
  refine Nat.eq_of_testBit_eq fun j => ?_
  rw [hb, testBit_mask (fun z hz => by have := (List.mem_filter.1 hz).2; simp at this; exact this.1)]
  rw [decide_eq_decide, List.mem_filter]
  simp
theorem of_len (n : Int) (l : List Int) : (ofS n l).length = nw n := by rw [ofS_eq]; unfold ofI; exact length_words _ _
theorem of_ok (n : Int) (l : List Int) : Ok (ofS n l) := by rw [ofS_eq]; unfold ofI; exact words_ok _ _
/-- Two rows are the same. -/
def eqRowI (n : Int) (a : List Int) (m : Int) (b : List Int) : Bool := decide (n = m) && decide (a = b)
noncomputable def eqRow : Int → List Int → Int → List Int → Bool := Classical.choose (⟨eqRowI, rfl⟩ : ∃ f, f = eqRowI)
theorem eqRow_eq : eqRow = eqRowI := Classical.choose_spec (⟨eqRowI, rfl⟩ : ∃ f, f = eqRowI)
theorem eqRow_self (n : Int) (a : List Int) : eqRow n a n a = true := by rw [eqRow_eq]; simp [eqRowI]
def inLI (l : List Int) (n : Int) : Bool := l.contains n
noncomputable def inL : List Int → Int → Bool := Classical.choose (⟨inLI, rfl⟩ : ∃ f, f = inLI)
theorem inL_eq : inL = inLI := Classical.choose_spec (⟨inLI, rfl⟩ : ∃ f, f = inLI)
theorem inL_iff {l : List Int} {n : Int} : inL l n = true ↔ n ∈ l := by rw [inL_eq]; unfold inLI; rw [List.contains_iff_mem]
/-- A bit. -/
def bitI (ws : List Int) (i : Int) : Int := if (val ws).testBit i.toNat = true then 1 else 0
noncomputable def bitS : List Int → Int → Int := Classical.choose (⟨bitI, rfl⟩ : ∃ f, f = bitI)
theorem bitS_eq : bitS = bitI := Classical.choose_spec (⟨bitI, rfl⟩ : ∃ f, f = bitI)
/-- A row of bits as a number. -/
def bn : List Int → Nat
  | [] => 0
  | b :: t => (if b = 1 then 1 else 0) + 2 * bn t
theorem testBit_bn (l : List Int) (i : Nat) : (bn l).testBit i = decide (l.getD i 0 = 1) := by
  induction l generalizing i with
  | nil => simp [bn]
  | cons b t ih =>
    cases i with
    | zero =>
      unfold bn
      rw [Nat.testBit_zero]
      by_cases h : b = 1
      · simp [h] <;> omega
      · simp [h]
    | succ i =>
      unfold bn
      rw [Nat.testBit_succ]
      have e : ((if b = 1 then 1 else 0) + 2 * bn t) / 2 = bn t := by split <;> omega
      rw [e, ih]; rfl
theorem bn_lt (l : List Int) : bn l < 2 ^ l.length := by
  induction l with
  | nil => simp [bn]
  | cons b t ih =>
    unfold bn
    rw [List.length_cons, Nat.pow_succ]
    split <;> omega
theorem bn_step (l : List Int) (i n : Nat) (hn : n < 64) : bn l / 2 ^ (64 * i + n) % 2 ^ (64 - n) = 2 * (bn l / 2 ^ (64 * i + (n + 1)) % 2 ^ (64 - (n + 1))) + (if l.getD (64 * i + n) 0 = 1 then 1 else 0) ∧ bn l / 2 ^ (64 * i + (n + 1)) % 2 ^ (64 - (n + 1)) < 2 ^ 63 := by
  have hp : bn l / 2 ^ (64 * i + n) % 2 ^ (64 - n) = 2 * (bn l / 2 ^ (64 * i + (n + 1)) % 2 ^ (64 - (n + 1))) + (bn l / 2 ^ (64 * i + n)) % 2 := by
    have a : 64 - n = (64 - (n + 1)) + 1 := by omega
    have b : 2 ^ (64 * i + (n + 1)) = 2 ^ (64 * i + n) * 2 := by rw [← Nat.add_assoc, Nat.pow_succ]
    rw [a, Nat.pow_succ', Nat.mod_mul, b, Nat.div_div_eq_div_mul, Nat.add_comm]
  have hb : (bn l / 2 ^ (64 * i + n)) % 2 = if l.getD (64 * i + n) 0 = 1 then 1 else 0 := by
    have := testBit_bn l (64 * i + n)
    rw [Nat.testBit_eq_decide_div_mod_eq, decide_eq_decide] at this
    split <;> omega
  rw [hp, hb]
  exact ⟨rfl, Nat.lt_of_lt_of_le (Nat.mod_lt _ (Nat.two_pow_pos _)) (Nat.pow_le_pow_right (by omega) (by omega))⟩
theorem words_snoc : ∀ (k v : Nat), words (k + 1) v = words k v ++ [((v / 2 ^ (64 * k) % 18446744073709551616 : Nat) : Int)]
  | 0, v => by simp [words]
  | k + 1, v => by
    rw [words, words_snoc k, words]
    rw [List.cons_append]
    congr 3
    rw [Nat.div_div_eq_div_mul, show 18446744073709551616 * 2 ^ (64 * k) = 2 ^ (64 * (k + 1)) by rw [Nat.mul_add, Nat.pow_add, Nat.mul_comm]]
def fromI (l : List Int) : List Int := words (nw l.length) (bn l)
noncomputable def fromS : List Int → List Int := Classical.choose (⟨fromI, rfl⟩ : ∃ f, f = fromI)
theorem fromS_eq : fromS = fromI := Classical.choose_spec (⟨fromI, rfl⟩ : ∃ f, f = fromI)
def bitsL (n : Nat) (l : List Int) : List Int := (List.range n).map fun (i : Nat) => if inL l (i : Int) = true then 1 else 0
theorem bitsL_len (n : Nat) (l : List Int) : (bitsL n l).length = n := by unfold bitsL; simp
theorem bitsL_succ (n : Nat) (l : List Int) : bitsL (n + 1) l = bitsL n l ++ [if inL l (n : Int) = true then 1 else 0] := by unfold bitsL; rw [List.range_succ, List.map_append]; rfl
theorem bitsL_get (n : Nat) (l : List Int) (j : Nat) : decide ((bitsL n l).getD j 0 = 1) = decide ((j : Int) ∈ l ∧ (j : Int) < (n : Int)) := by
  unfold bitsL
  rw [List.getD_eq_getElem?_getD, List.getElem?_map, decide_eq_decide]
  by_cases h : j < n
  · rw [List.getElem?_range h]
    simp only [Option.map_some, Option.getD_some]
    by_cases hm : inL l (j : Int) = true
    · rw [if_pos hm]; exact ⟨fun _ => ⟨inL_iff.1 hm, by omega⟩, fun _ => rfl⟩
    · rw [if_neg hm]; exact ⟨fun e => by simp at e, fun e => absurd (inL_iff.2 e.1) hm⟩
  · rw [List.getElem?_eq_none (by rw [List.length_range]; omega)]
    simp
    intro _; omega
theorem from_bits {n : Nat} (l : List Int) : fromS (bitsL n l) = ofS (n : Int) l := by
  rw [fromS_eq]
  unfold fromI
  rw [bitsL_len]
  refine words_of (words_ok _ _) (length_words _ _) fun j => ?_
  have hlt := bn_lt (bitsL n l)
  rw [bitsL_len] at hlt
  have hw := nw_cast (n := (n : Int)) (by omega)
  rw [val_words, Nat.mod_eq_of_lt (Nat.lt_of_lt_of_le hlt (Nat.pow_le_pow_right (by omega) (by omega))), testBit_bn, bitsL_get]
/-- The places of the words' bits, rising. -/
def plI (ws : List Int) : List Int := wordsFrom ws ws.length 0
noncomputable def plS : List Int → List Int := Classical.choose (⟨plI, rfl⟩ : ∃ f, f = plI)
theorem plS_eq : plS = plI := Classical.choose_spec (⟨plI, rfl⟩ : ∃ f, f = plI)
theorem bitsOf_len (v : Nat) : (bitsOf v).length ≤ 64 := by
  unfold bitsOf
  exact Nat.le_trans (List.length_filter_le _ _) (by rw [List.length_range]; omega)
theorem bitsAt_len (k v : Nat) : (bitsAt k v).length ≤ 64 := by unfold bitsAt; rw [List.length_map]; exact bitsOf_len v
theorem wordsFrom_len (ws : List Int) : ∀ d k, (wordsFrom ws d k).length ≤ 64 * d
  | 0, k => by simp [wordsFrom]
  | d + 1, k => by
    have := wordsFrom_len ws d (k + 1)
    have := bitsAt_len k (ws.getD k 0).toNat
    rw [wordsFrom, List.length_append]
    omega
theorem bitsAt_step {k v : Nat} (h0 : v ≠ 0) (h : v < 2 ^ 64) : bitsAt k v = ((64 * k + Lib.ctz 64 v : Nat) : Int) :: bitsAt k (v &&& (v - 1)) := by unfold bitsAt; rw [bitsOf_step h0 h]; rfl
theorem bitsAt_zero (k : Nat) : bitsAt k 0 = [] := by unfold bitsAt; rw [bitsOf_zero]; rfl
theorem pl_plc {n : Int} {ws : List Int} (hok : okW ws = true) (h : rtS n ws = true) : plS ws = plc (val ws) n.toNat := by
  obtain ⟨⟨h0, h1⟩, h2, h3⟩ := rtS_iff.1 h
  have hw := nw_cast h0
  rw [plS_eq]
  exact wordsFrom_plc (okW_iff.1 hok) h3 (by omega)
def plcI (n : Int) (ws : List Int) : List Int := if rtS n ws = true then plS ws else []
noncomputable def plcS : Int → List Int → List Int := Classical.choose (⟨plcI, rfl⟩ : ∃ f, f = plcI)
theorem plcS_eq : plcS = plcI := Classical.choose_spec (⟨plcI, rfl⟩ : ∃ f, f = plcI)
def getI (n : Int) (ws : List Int) (i : Int) : Int := if rtS n ws = true ∧ 0 ≤ i ∧ i < n then bitI ws i else 0
noncomputable def getS : Int → List Int → Int → Int := Classical.choose (⟨getI, rfl⟩ : ∃ f, f = getI)
theorem getS_eq : getS = getI := Classical.choose_spec (⟨getI, rfl⟩ : ∃ f, f = getI)
def getErrI (n : Int) (ws : List Int) (i : Int) : Int := if rtS n ws = true then (if 0 ≤ i ∧ i < n then 0 else 3) else 1
noncomputable def getErr : Int → List Int → Int → Int := Classical.choose (⟨getErrI, rfl⟩ : ∃ f, f = getErrI)
theorem getErr_eq : getErr = getErrI := Classical.choose_spec (⟨getErrI, rfl⟩ : ∃ f, f = getErrI)
end
end Go.PM.Bit
