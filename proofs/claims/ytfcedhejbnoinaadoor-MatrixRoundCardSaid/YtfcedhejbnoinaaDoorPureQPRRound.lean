/- Matrices over two elements, of rows as numbers: a canonical form; turned, multiplied, applied. -/
import Derived.Test.YtfcedhejbnoinaaDoorPRx9
import Derived.Test.YtfcedhejbnoinaaDoorPRx7
import Derived.Test.YtfcedhejbnoinaaDoorPRx4
import Derived.Test.YtfcedhejbnoinaaDoorPRx5
import Derived.Test.YtfcedhejbnoinaaDoorPureQPRMul
namespace Go.Proofs.YtfcedhejbnoinaaDoor.PureBit
open Go Go.RowKit Go.Proofs.YtfcedhejbnoinaaDoor.PR Go.Proofs.YtfcedhejbnoinaaDoorW.PrintWords Go.Proofs.YtfcedhejbnoinaaDoorW.PrintLast Go.Proofs.YtfcedhejbnoinaaDoorW.PrintMore Go.Proofs.YtfcedhejbnoinaaDoor.Row Go.Proofs.YtfcedhejbnoinaaDoor.Bits Go.Proofs.YtfcedhejbnoinaaDoor.Pop

/-- The matrix of r rows of c bits that these numbers are. -/
def mkm (c r : Nat) (v : Nat → Nat) : List S25 := (List.range r).map fun i => ⟨(c : Int), wd (c : Int) (v i)⟩
theorem mkm_len (c r : Nat) (v : Nat → Nat) : (mkm c r v).length = r := by unfold mkm; simp
theorem mkm_row {c r : Nat} {v : Nat → Nat} {i : Nat} (hi : i < r) : row (mkm c r v) i = ⟨(c : Int), wd (c : Int) (v i)⟩ := by
  unfold row mkm
  rw [List.getD_eq_getElem?_getD, List.getElem?_map, List.getElem?_range hi]; rfl
/-- Numbers that fit. -/
def Fit (c r : Nat) (v : Nat → Nat) : Prop := ∀ i, i < r → v i < 2 ^ c
theorem mkm_val {c r : Nat} {v : Nat → Nat} (hc : c ≤ 64) (h : Fit c r v) {i : Nat} (hi : i < r) : val (row (mkm c r v) i).f1 = v i := by
  rw [mkm_row hi]
  exact (wd_row (m := (c : Int)) (by omega) (by omega) (v := v i) (by rw [Int.toNat_natCast]; exact h i hi)).2.2
theorem mkm_few {c r : Nat} {v : Nat → Nat} (hc : c ≤ 64) (hr : r ≤ 64) (h : Fit c r v) : Few (mkm c r v) := ⟨by rw [mkm_len]; omega, fun x hx => by
  obtain ⟨i, hi, rfl⟩ := List.mem_map.1 hx
  have hw := wd_row (m := (c : Int)) (by omega) (by omega) (v := v i) (by rw [Int.toNat_natCast]; exact h i (List.mem_range.1 hi))
  refine ⟨hw.1, ?_⟩
  show (wd (c : Int) (v i)).length ≤ 3
  unfold wd; rw [length_words]; omega⟩
theorem mkm_mrt {c r : Nat} {v : Nat → Nat} (hc : c ≤ 64) (hr : r ≤ 64) (h : Fit c r v) : MRt (c : Int) (mkm c r v) := ⟨by omega, by omega, by rw [mkm_len]; exact hr, fun i hi => by
  rw [mkm_len] at hi
  rw [mkm_row hi]
  exact ⟨rfl, (wd_row (m := (c : Int)) (by omega) (by omega) (v := v i) (by rw [Int.toNat_natCast]; exact h i hi)).2.1⟩⟩
theorem mkm_congr {c r : Nat} {v w : Nat → Nat} (h : ∀ i, i < r → v i = w i) : mkm c r v = mkm c r w := by
  unfold mkm
  apply List.map_congr_left
  intro i hi
  rw [h i (List.mem_range.1 hi)]
/-- A matrix that may be is in that form. -/
theorem mrt_mkm {n : Int} {l : List S25} (hf : ∀ x ∈ l, Ok x.f1) (h : MRt n l) : l = mkm n.toNat l.length (fun i => val (row l i).f1) ∧ Fit n.toNat l.length (fun i => val (row l i).f1) := by
  have h0 := h.1
  have h1 := h.2.1
  refine ⟨row_ext (by rw [mkm_len]) fun j hj => ?_, fun i hi => (h.2.2.2 i hi).2.2.2.2⟩
  have hrow := h.2.2.2 j hj
  rw [mkm_row hj, s25_eq]
  refine ⟨by rw [hrow.1]; exact (Int.toNat_of_nonneg h0).symm, ?_⟩
  have hL : (row l j).f1.length = ((n + 63) / 64).toNat := by have := hrow.2.2.2.1; omega
  show (row l j).f1 = words ((((n.toNat : Nat) : Int) + 63) / 64).toNat (val (row l j).f1)
  rw [Int.toNat_of_nonneg h0, ← hL, words_val (hf _ (row_mem hj))]

theorem short_mkm {c r : Nat} {v : Nat → Nat} (hc : c ≤ 64) (hr : r ≤ 64) : Short (mkm c r v) := ⟨by rw [mkm_len]; omega, fun x hx => by
  obtain ⟨i, _, rfl⟩ := List.mem_map.1 hx
  show (wd (c : Int) (v i)).length < 1000000
  unfold wd; rw [length_words]; omega⟩

/-- A column as a number. -/
def tv (r : Nat) (v : Nat → Nat) (i : Nat) : Nat := bn ((List.range r).map fun j => bitI (v j) i)
theorem tv_bit (r : Nat) (v : Nat → Nat) (i j : Nat) : (tv r v i).testBit j = (decide (j < r) && (v j).testBit i) := by
  unfold tv
  rw [testBit_bn, getD_range]
  by_cases hj : j < r
  · rw [if_pos hj, decide_eq_true hj, Bool.true_and]
    unfold bitI
    cases (v j).testBit i <;> simp
  · rw [if_neg hj, decide_eq_false hj]; simp
theorem tv_lt (r : Nat) (v : Nat → Nat) (i : Nat) : tv r v i < 2 ^ r := by
  have := bn_lt ((List.range r).map fun j => bitI (v j) i)
  rwa [List.length_map, List.length_range] at this
theorem tv_fit (r c : Nat) (v : Nat → Nat) : Fit r c (tv r v) := fun i _ => tv_lt r v i

theorem turn_mkm {c r : Nat} {v : Nat → Nat} (hc : c ≤ 64) (hr : r ≤ 64) (h : Fit c r v) : Ev (fun k => matrix_Turn.f k (c : Int) (mkm c r v)) ((r : Int), mkm r c (tv r v), 0) := by
  have ht := turn_ok (mkm_few hc hr h) (mkm_mrt hc hr h)
  rw [mkm_len, Int.toNat_natCast] at ht
  have e : (List.range c).map (colr (mkm c r v)) = mkm r c (tv r v) := by
    unfold mkm
    apply List.map_congr_left
    intro i hi
    have hcb : colb ((List.range r).map fun i => (⟨(c : Int), wd (c : Int) (v i)⟩ : S25)) i = (List.range r).map fun j => bitI (v j) i := by
      unfold colb
      have hl : ((List.range r).map fun i => (⟨(c : Int), wd (c : Int) (v i)⟩ : S25)).length = r := by simp
      rw [hl]
      apply List.map_congr_left
      intro j hj
      have := mkm_val hc h (List.mem_range.1 hj)
      unfold mkm at this
      rw [this]
    unfold colr
    rw [hcb]
    have hl : ((List.range r).map fun i => (⟨(c : Int), wd (c : Int) (v i)⟩ : S25)).length = r := by simp
    rw [hl]
    unfold wd tv
    have e2 : (r + 63) / 64 = (((r : Int) + 63) / 64).toNat := by omega
    rw [e2]
  rw [e] at ht
  exact ht

theorem one_mkm {c : Nat} (hc : c ≤ 64) : Ev (fun k => matrix_One.f k (c : Int)) ((c : Int), mkm c c (fun i => 2 ^ i), 0) := by
  have h := one_ok (n := (c : Int)) (by omega) (by omega)
  rw [Int.toNat_natCast] at h
  exact h
theorem one_fit (c : Nat) : Fit c c (fun i => 2 ^ i) := fun i hi => Nat.pow_lt_pow_right (by omega) hi

/-- A row of a product, as a number. -/
def mvp (x : Nat) (w : Nat → Nat) : Nat → Nat
  | 0 => 0
  | n + 1 => if x.testBit n = true then mvp x w n ^^^ w n else mvp x w n
theorem xorp_mvp {c r : Nat} {w : Nat → Nat} (hc : c ≤ 64) (h : Fit c r w) (x : Nat) (n : Nat) : n ≤ r → xorp (mkm c r w) (plc x n) = mvp x w n := by
  induction n with
  | zero => intro _; rfl
  | succ n ih =>
    intro hn
    rw [plc_succ, mvp]
    by_cases hx : x.testBit n = true
    · rw [if_pos hx, if_pos hx, xorp_snoc, ih (by omega), Int.toNat_natCast, mkm_val hc h (by omega)]
    · rw [if_neg hx, if_neg hx, List.append_nil, ih (by omega)]
theorem mvp_lt {c r : Nat} {w : Nat → Nat} (h : Fit c r w) (x : Nat) (n : Nat) : n ≤ r → mvp x w n < 2 ^ c := by
  induction n with
  | zero => intro _; exact Nat.two_pow_pos _
  | succ n ih =>
    intro hn
    rw [mvp]
    split
    · exact Nat.xor_lt_two_pow (ih (by omega)) (h n (by omega))
    · exact ih (by omega)
/-- The parity of how many are named and have the bit. -/
def par (p q : Nat → Bool) : Nat → Bool
  | 0 => false
  | n + 1 => (par p q n) ^^ (p n && q n)
theorem mvp_bit (x : Nat) (w : Nat → Nat) (i n : Nat) : (mvp x w n).testBit i = par (fun t => x.testBit t) (fun t => (w t).testBit i) n := by
  induction n with
  | zero => rw [mvp, par, Nat.zero_testBit]
  | succ n ih =>
    rw [mvp, par]
    by_cases hx : x.testBit n = true
    · rw [if_pos hx, Nat.testBit_xor, ih, hx, Bool.true_and]
    · rw [if_neg hx, ih, Bool.eq_false_iff.2 hx, Bool.false_and, Bool.xor_false]
theorem par_congr {p q p' q' : Nat → Bool} (n : Nat) (h : ∀ t, t < n → (p t && q t) = (p' t && q' t)) : par p q n = par p' q' n := by
  induction n with
  | zero => rfl
  | succ n ih => rw [par, par, ih fun t ht => h t (by omega), h n (by omega)]

theorem mul_mkm {c n r : Nat} {u w : Nat → Nat} (hc : c ≤ 64) (hn : n ≤ 64) (hr : r ≤ 64) (hu : Fit n r u) (hw : Fit c n w) : Ev (fun k => matrix_Mul.f k (n : Int) (mkm n r u) (c : Int) (mkm c n w)) ((c : Int), mkm c r (fun i => mvp (u i) w n), 0) := by
  have h := mul_ok (mkm_few hn hr hu) (mkm_few hc hn hw) (mkm_mrt hn hr hu) (mkm_mrt hc hn hw) (by rw [mkm_len])
  rw [mkm_len] at h
  have e : (List.range r).map (mulr (n : Int) (c : Int) (mkm n r u) (mkm c n w)) = mkm c r (fun i => mvp (u i) w n) := by
    show _ = (List.range r).map fun i => (⟨(c : Int), wd (c : Int) (mvp (u i) w n)⟩ : S25)
    apply List.map_congr_left
    intro i hi
    unfold mulr
    rw [mkm_val hn hu (List.mem_range.1 hi), Int.toNat_natCast, xorp_mvp hc hw _ n (Nat.le_refl _)]
  rw [e] at h
  exact h

/-- The matrix of ones changes nothing. -/
theorem mvp_one {n x : Nat} (hx : x < 2 ^ n) : mvp x (fun i => 2 ^ i) n = x := by
  apply Nat.eq_of_testBit_eq
  intro i
  rw [mvp_bit]
  have key : ∀ m, par (fun t => x.testBit t) (fun t => (2 ^ t).testBit i) m = (decide (i < m) && x.testBit i) := by
    intro m
    induction m with
    | zero => simp [par]
    | succ m ih =>
      rw [par, ih, Nat.testBit_two_pow]
      by_cases e : m = i
      · subst e; simp
      · have e1 : decide (m = i) = false := decide_eq_false e
        rw [e1, Bool.and_false, Bool.xor_false]
        congr 1
        rw [decide_eq_decide]; omega
  rw [key]
  by_cases hi : i < n
  · rw [decide_eq_true hi, Bool.true_and]
  · rw [decide_eq_false hi, Bool.false_and, Nat.testBit_lt_two_pow (Nat.lt_of_lt_of_le hx (Nat.pow_le_pow_right (by omega) (by omega)))]

/-- Turned twice. -/
theorem tv_tv {c r : Nat} {v : Nat → Nat} (h : Fit c r v) {i : Nat} (hi : i < r) : tv c (tv r v) i = v i := by
  apply Nat.eq_of_testBit_eq
  intro j
  rw [tv_bit, tv_bit, decide_eq_true hi, Bool.true_and]
  by_cases hj : j < c
  · rw [decide_eq_true hj, Bool.true_and]
  · rw [decide_eq_false hj, Bool.false_and, Nat.testBit_lt_two_pow (Nat.lt_of_lt_of_le (h i hi) (Nat.pow_le_pow_right (by omega) (by omega)))]

/-- A product turned is the product of both turned, the other way round. -/
theorem tv_mvp {n r : Nat} {u w : Nat → Nat} {i : Nat} : tv r (fun j => mvp (u j) w n) i = mvp (tv n w i) (tv r u) n := by
  apply Nat.eq_of_testBit_eq
  intro j
  rw [tv_bit, mvp_bit]
  by_cases hj : j < r
  · rw [decide_eq_true hj, Bool.true_and, mvp_bit]
    refine par_congr n fun t ht => ?_
    rw [tv_bit, tv_bit, decide_eq_true ht, decide_eq_true hj, Bool.true_and, Bool.true_and, Bool.and_comm]
  · rw [decide_eq_false hj, Bool.false_and]
    have key : ∀ m, par (fun t => (tv n w i).testBit t) (fun t => (tv r u t).testBit j) m = false := by
      intro m
      induction m with
      | zero => rfl
      | succ m ih => rw [par, ih, tv_bit r u m j, decide_eq_false hj]; simp
    rw [mvp_bit, key]

/-! ### blocks -/
theorem xor_u8 {a b : Nat} (ha : a < 256) (hb : b < 256) : X8 (a : Int) (b : Int) = ((a ^^^ b : Nat) : Int) := by
  have ha' : a % 2 ^ IntKind.u8.bits = a := Nat.mod_eq_of_lt ha
  have hb' : b % 2 ^ IntKind.u8.bits = b := Nat.mod_eq_of_lt hb
  have hx : a ^^^ b < 256 := Nat.xor_lt_two_pow (n := 8) ha hb
  unfold X8
  simp only [bits, BitVec.ofInt_natCast, BitVec.toNat_xor, BitVec.toNat_ofNat, ha', hb']
  simp only [IntKind.wrap, IntKind.bits, IntKind.signed]
  simp
  omega
/-- A block's byte. -/
def byt (s : ByteArray) (j : Nat) : Nat := (bt s (j : Int)).toNat
theorem byt_eq (s : ByteArray) (j : Nat) : bt s (j : Int) = ((byt s j : Nat) : Int) := by unfold byt; have := (bt_range s (j : Int)).1; omega
theorem byt_lt (s : ByteArray) (j : Nat) : byt s j < 256 := by unfold byt; have := bt_range s (j : Int); omega
/-- A byte of the xor of those blocks that a number names. -/
def pkv (l : List ByteArray) (v j : Nat) : Nat → Nat
  | 0 => 0
  | n + 1 => if v.testBit n = true then pkv l v j n ^^^ byt (blk l (n : Int)) j else pkv l v j n
theorem pkv_lt (l : List ByteArray) (v j n : Nat) : pkv l v j n < 256 := by
  induction n with
  | zero => rw [pkv]; omega
  | succ n ih =>
    rw [pkv]
    split
    · exact Nat.xor_lt_two_pow (n := 8) ih (byt_lt _ _)
    · exact ih
theorem pkb_pkv (l : List ByteArray) (v j n : Nat) : pkb l (plc v n) j = ((pkv l v j n : Nat) : Int) := by
  induction n with
  | zero => rfl
  | succ n ih =>
    rw [plc_succ, pkv]
    by_cases hv : v.testBit n = true
    · rw [if_pos hv, if_pos hv, pkb_snoc, ih, byt_eq, xor_u8 (pkv_lt _ _ _ _) (byt_lt _ _)]
    · rw [if_neg hv, if_neg hv, List.append_nil, ih]
theorem pkv_xor (l : List ByteArray) (u v j n : Nat) : pkv l (u ^^^ v) j n = pkv l u j n ^^^ pkv l v j n := by
  induction n with
  | zero => rw [pkv, pkv, pkv, Nat.xor_self]
  | succ n ih =>
    rw [pkv, pkv, pkv, ih, Nat.testBit_xor]
    generalize pkv l u j n = p
    generalize pkv l v j n = q
    generalize byt (blk l (n : Int)) j = b
    have e1 : p ^^^ q ^^^ b = p ^^^ (q ^^^ b) := Nat.xor_assoc _ _ _
    have e2 : p ^^^ q ^^^ b = (p ^^^ b) ^^^ q := by rw [Nat.xor_assoc, Nat.xor_comm q b, ← Nat.xor_assoc]
    have e3 : p ^^^ q = (p ^^^ b) ^^^ (q ^^^ b) := by
      rw [Nat.xor_assoc, Nat.xor_comm b (q ^^^ b), Nat.xor_assoc, Nat.xor_self, Nat.xor_zero]
    cases u.testBit n <;> cases v.testBit n <;> simp
    · exact e1
    · exact e2
    · exact e3
theorem pkv_zero (l : List ByteArray) (j n : Nat) : pkv l 0 j n = 0 := by
  induction n with
  | zero => rfl
  | succ n ih => rw [pkv, ih, Nat.zero_testBit]; rfl

theorem bt_strOf {xs : List Int} {j : Nat} (hj : j < xs.length) (h0 : 0 ≤ xs.getD j 0) (h1 : xs.getD j 0 < 256) : bt (strOfNums xs) (j : Int) = xs.getD j 0 := by
  have hsz : (strOfNums xs).size = xs.length := strOfNums_size xs
  simp only [bt, Int.toNat_natCast]
  rw [dif_pos (by rw [hsz]; exact hj)]
  have e : xs.getD j 0 = xs[j] := by rw [List.getD_eq_getElem?_getD, List.getElem?_eq_getElem hj]; rfl
  rw [e] at h0 h1 ⊢
  show ((((xs.map fun n => UInt8.ofNat n.toNat).toArray)[j]'(by simpa using hj)).toNat : Int) = xs[j]
  simp only [List.getElem_toArray, List.getElem_map, UInt8.toNat_ofNat']
  omega

/-- Blocks applied: as numbers. -/
theorem app_size {n m : Int} {a : List S25} {l : List ByteArray} {i : Nat} (hi : i < a.length) : (blk (app n m a l) (i : Int)).size = m.toNat := by
  unfold blk rdOf app
  rw [Int.toNat_natCast, List.getD_eq_getElem?_getD, List.getElem?_map, List.getElem?_range hi]
  show (strOfNums _).size = _
  rw [strOfNums_size, pk_len]
theorem app_byt {c r : Nat} {m : Int} {v : Nat → Nat} (hc : c ≤ 64) (h : Fit c r v) {l : List ByteArray} {i j : Nat} (hi : i < r) (hj : j < m.toNat) : byt (blk (app (c : Int) m (mkm c r v) l) (i : Int)) j = pkv l (v i) j c := by
  have e : blk (app (c : Int) m (mkm c r v) l) (i : Int) = strOfNums (pk m.toNat l (plc (v i) c)) := by
    unfold blk rdOf app
    rw [mkm_len, show ((i : Int)).toNat = i from Int.toNat_natCast i, List.getD_eq_getElem?_getD, List.getElem?_map, List.getElem?_range hi]
    show strOfNums (pk m.toNat l (plc (val (row (mkm c r v) i).f1) (c : Int).toNat)) = _
    rw [mkm_val hc h hi, Int.toNat_natCast]
  have eg : (pk m.toNat l (plc (v i) c)).getD j 0 = ((pkv l (v i) j c : Nat) : Int) := by
    unfold pk
    rw [getD_range, if_pos hj, pkb_pkv]
  have hlt := pkv_lt l (v i) j c
  unfold byt
  rw [e, bt_strOf (by rw [pk_len]; exact hj) (by rw [eg]; omega) (by rw [eg]; omega), eg, Int.toNat_natCast]

/-- A product applied is one applied behind the other. -/
theorem app_app {c n r : Nat} {m : Int} {u w : Nat → Nat} (hc : c ≤ 64) (hn : n ≤ 64) (hu : Fit n r u) (hw : Fit c n w) (l : List ByteArray) :
    app (c : Int) m (mkm c r (fun i => mvp (u i) w n)) l = app (n : Int) m (mkm n r u) (app (c : Int) m (mkm c n w) l) := by
  have hp : Fit c r (fun i => mvp (u i) w n) := fun i _ => mvp_lt hw _ n (Nat.le_refl _)
  show (List.range _).map _ = (List.range _).map _
  rw [mkm_len, mkm_len]
  apply List.map_congr_left
  intro i hi
  have hi' := List.mem_range.1 hi
  rw [mkm_val hc hp hi', mkm_val hn hu hi', Int.toNat_natCast, Int.toNat_natCast]
  congr 1
  unfold pk
  apply List.map_congr_left
  intro j hj
  have hj' := List.mem_range.1 hj
  rw [pkb_pkv, pkb_pkv]
  congr 1
  have key : ∀ x k, k ≤ n → pkv l (mvp x w k) j c = pkv (app (c : Int) m (mkm c n w) l) x j k := by
    intro x k
    induction k with
    | zero => intro _; rw [mvp, pkv_zero]; rfl
    | succ k ih =>
      intro hk
      rw [mvp, pkv]
      by_cases hx : x.testBit k = true
      · rw [if_pos hx, if_pos hx, pkv_xor, ih (by omega), app_byt hc hw (by omega) hj']
      · rw [if_neg hx, if_neg hx, ih (by omega)]
  exact key (u i) n (Nat.le_refl _)
end Go.Proofs.YtfcedhejbnoinaaDoor.PureBit
