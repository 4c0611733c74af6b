/- What Mul and Apply and their printed references of layer 3 tell. -/
import Derived.Test.YtfcedhejbnoinaaDoorPMx4
import Derived.Test.YtfcedhejbnoinaaDoorPMx5
import Derived.Test.YtfcedhejbnoinaaDoorPMx3
import Derived.Test.YtfcedhejbnoinaaDoorPMx10
import Derived.Test.YtfcedhejbnoinaaDoorPMx11
import Derived.Test.YtfcedhejbnoinaaDoorPMx2
import Derived.Test.YtfcedhejbnoinaaDoorPureQPMBlk
namespace Go.Proofs.YtfcedhejbnoinaaDoor.PureBit
open Go Go.RowKit Go.Proofs.YtfcedhejbnoinaaDoor.PM Go.Proofs.YtfcedhejbnoinaaDoorW.PrintWords Go.Proofs.YtfcedhejbnoinaaDoorW.PrintLast Go.Proofs.YtfcedhejbnoinaaDoorW.PrintMore Go.Proofs.YtfcedhejbnoinaaDoor.Row Go.Proofs.YtfcedhejbnoinaaDoor.Bits Go.Proofs.YtfcedhejbnoinaaDoor.Pop

/-- The xor of those rows that are named. -/
def xorp (l : List S25) (P : List Int) : Nat := P.foldl (fun a z => a ^^^ val (row l z.toNat).f1) 0
theorem xorp_snoc (l : List S25) (P : List Int) (z : Int) : xorp l (P ++ [z]) = xorp l P ^^^ val (row l z.toNat).f1 := by unfold xorp; rw [List.foldl_append]; rfl

theorem xorp_take_lt {m : Int} {l : List S25} (h : MRt m l) {P : List Int} (hP : ∀ z ∈ P, 0 ≤ z ∧ z < (l.length : Int)) (i : Nat) : i ≤ P.length → xorp l (P.take i) < 2 ^ m.toNat := by
  induction i with
  | zero => intro _; rw [List.take_zero]; exact Nat.two_pow_pos _
  | succ i ih =>
    intro hi
    rw [take_snoc hi, xorp_snoc]
    have hz := hP _ (getD_mem (l := P) (i := i) hi)
    exact Nat.xor_lt_two_pow (ih (by omega)) (h.2.2.2 (P.getD i 0).toNat (by omega)).2.2.2.2

/-- The row's words, of a number. -/
def wd (m : Int) (v : Nat) : List Int := words ((m + 63) / 64).toNat v
theorem wd_row {m : Int} (h0 : 0 ≤ m) (h1 : m ≤ 64) {v : Nat} (hv : v < 2 ^ m.toNat) : Ok (wd m v) ∧ Rt m (wd m v) ∧ val (wd m v) = v := rt_words h0 (by omega) (by omega) hv

theorem xor_wd {m : Int} (h0 : 0 ≤ m) (h1 : m ≤ 64) {u : Nat} (hu : u < 2 ^ m.toNat) {ws : List Int} (hok : Ok ws) (hr : Rt m ws) : Ev (fun k => bitrow_Xor.f k m (wd m u) m ws) (m, wd m (u ^^^ val ws), 0) := by
  obtain ⟨o, r, e⟩ := wd_row h0 h1 hu
  have h := xor_ok o hok r hr
  rw [e] at h
  have hl : (wd m u).length = ((m + 63) / 64).toNat := length_words _ _
  rw [hl] at h
  exact h

theorem named_spec {n m : Int} {l : List S25} {ws : List Int} (hf : ∀ x ∈ l, Ok x.f1) (h : MRt m l) (hok : Ok ws) (hr : Rt n ws) (hn : n = (l.length : Int)) :
    Ev (fun k => matrix_table_named.f k m l n ws) (m, wd m (xorp l (plc (val ws) n.toNat))) := by
  have h0 := h.1
  have h1 := h.2.1
  have hpl := length_plc (val ws) n.toNat
  have hle := cnt_le n.toNat (val ws)
  have hll := h.2.2.1
  have hP : ∀ z ∈ plc (val ws) n.toNat, 0 ≤ z ∧ z < (l.length : Int) := fun z hz => by
    obtain ⟨i, hi, _, rfl⟩ := (mem_plc _ _ _).1 hz
    omega
  unfold matrix_table_named.f
  rw [new_ok ⟨h0, by omega⟩, places_ok hok hr]
  simp only [Option.bind_some]
  generalize plc (val ws) n.toNat = P at *
  have hz : List.replicate ((m + 63) / 64).toNat (0 : Int) = wd m (xorp l (P.take 0)) := by
    obtain ⟨o, r, e⟩ := wd_row h0 h1 (v := 0) (Nat.two_pow_pos _)
    rw [List.take_zero]
    refine val_inj (ok_replicate _) o (by unfold wd; rw [length_words, List.length_replicate]) ?_
    rw [val_replicate]
    exact e.symm
  have key := loop_acc (g := fun k i acc => matrix_table_named.l0 k P (P.length : Int) (i : Int) m l m acc) (r := (m, wd m (xorp l P))) P.length (fun i => wd m (xorp l (P.take i))) (fun i hi hr2 => up ?_) (up ?_)
  · rw [← hz] at key
    exact key
  · have e1 : wrap64 ((i : Int) + 1) = ((i + 1 : Nat) : Int) := wrap_lt (by omega) (by omega)
    have c1 : (i : Int) < (P.length : Int) := Int.ofNat_lt.2 hi
    have c2 : (0 : Int) ≤ (i : Int) := Int.natCast_nonneg _
    have er : rd P (i : Int) = P.getD i 0 := by rw [rd_eq, Int.toNat_natCast]
    have hm := hP _ (getD_mem (l := P) (i := i) hi)
    have erow : rd_T25 l (P.getD i 0) = row l (P.getD i 0).toNat := rfl
    have hlt : (P.getD i 0).toNat < l.length := by omega
    have hrow := h.2.2.2 _ hlt
    have hx := xor_wd h0 h1 (xorp_take_lt h hP i (by omega)) (hf _ (row_mem hlt)) hrow.2
    rw [take_snoc hi, xorp_snoc] at hr2
    simp only [matrix_table_named.l0]
    rw [e1, er, erow, hrow.1]
    exact Ev.congr (fun k => (if_pos c1).trans ((if_pos c2).trans ((if_pos c1).trans ((if_pos hm.1).trans (if_pos hm.2))))) (Ev.bind hx hr2)
  · simp only [matrix_table_named.l0]
    refine Ev.congr (fun k => if_neg (Int.lt_irrefl _)) ?_
    rw [List.take_of_length_le (Nat.le_refl _)]
    exact Ev.now _

/-- A row of a product. -/
def mulr (n m : Int) (a b : List S25) (i : Nat) : S25 := ⟨m, wd m (xorp b (plc (val (row a i).f1) n.toNat))⟩

theorem xorp_plc_lt {m : Int} {l : List S25} (h : MRt m l) (v : Nat) : xorp l (plc v l.length) < 2 ^ m.toNat := by
  have hP : ∀ z ∈ plc v l.length, 0 ≤ z ∧ z < (l.length : Int) := fun z hz => by
    obtain ⟨i, hi, _, rfl⟩ := (mem_plc _ _ _).1 hz
    omega
  have := xorp_take_lt h hP (plc v l.length).length (Nat.le_refl _)
  rwa [List.take_of_length_le (Nat.le_refl _)] at this

theorem mul_ok {n m : Int} {a b : List S25} (fa : Few a) (fb : Few b) (ha : MRt n a) (hb : MRt m b) (hn : n = (b.length : Int)) : Ev (fun k => matrix_Mul.f k n a m b) (m, (List.range a.length).map (mulr n m a b), 0) := by
  have hll := ha.2.2.1
  obtain ⟨t, ht, ht'⟩ := right_mat (n := n) fa
  obtain rfl : t = true := ht'.2 ha
  obtain ⟨u, hu, hu'⟩ := right_mat (n := m) fb
  obtain rfl : u = true := hu'.2 hb
  unfold matrix_Mul.f
  refine Ev.bind ht (Ev.congr (fun k => if_pos (by first | rfl | trivial)) (Ev.bind hu (up ?_)))
  simp only [matrix_Mul.j0]
  refine Ev.congr (fun k => (if_neg (by decide)).trans (if_pos hn)) (Ev.bind (a := (m, (List.range a.length).map (mulr n m a b))) ?_ (Ev.now _))
  unfold api_Row_73.f
  refine loop_map (g := fun k i acc => api_Row_73.l0 k a (a.length : Int) (i : Int) m b m acc) a.length (mulr n m a b) (fun i hi acc hacc hr => up ?_) (up ?_)
  · have e1 : wrap64 ((i : Int) + 1) = ((i + 1 : Nat) : Int) := wrap_lt (by omega) (by omega)
    have c1 : (i : Int) < (a.length : Int) := Int.ofNat_lt.2 hi
    have c2 : (0 : Int) ≤ (i : Int) := Int.natCast_nonneg _
    have c3 : acc.length < 4398046511104 := by omega
    have hrow := ha.2.2.2 i hi
    have hnm := named_spec (fun x hx => (fb.2 x hx).1) hb (fa.2 _ (row_mem hi)).1 hrow.2 hn
    simp only [api_Row_73.l0, rd_row]
    rw [e1, hrow.1]
    exact Ev.congr (fun k => (if_pos c1).trans ((if_pos c2).trans (if_pos c1))) (Ev.bind hnm (Ev.congr (fun k => if_pos c3) hr))
  · simp only [api_Row_73.l0]
    exact Ev.congr (fun k => if_neg (Int.lt_irrefl _)) (Ev.now _)

theorem mul_arg {n m : Int} {a b : List S25} (fa : Few a) (fb : Few b) (h : ¬ (MRt n a ∧ MRt m b)) : Ev (fun k => matrix_Mul.f k n a m b) (0, [], 1) := by
  have bad : Ev (fun k => matrix_Mul.j0 k true n a m b) (0, [], 1) := by
    refine up ?_
    simp only [matrix_Mul.j0]
    exact Ev.congr (fun k => if_pos (by first | rfl | trivial)) (Ev.now _)
  obtain ⟨t, ht, ht'⟩ := right_mat (n := n) fa
  obtain ⟨u, hu, hu'⟩ := right_mat (n := m) fb
  unfold matrix_Mul.f
  refine Ev.bind ht ?_
  cases t with
  | false => exact Ev.congr (fun k => if_neg (by decide)) bad
  | true =>
    refine Ev.congr (fun k => if_pos (by first | rfl | trivial)) (Ev.bind hu ?_)
    cases u with
    | false => exact bad
    | true => exact absurd ⟨ht'.1 rfl, hu'.1 rfl⟩ h

theorem mul_size {n m : Int} {a b : List S25} (fa : Few a) (fb : Few b) (ha : MRt n a) (hb : MRt m b) (hn : n ≠ (b.length : Int)) : Ev (fun k => matrix_Mul.f k n a m b) (0, [], 2) := by
  obtain ⟨t, ht, ht'⟩ := right_mat (n := n) fa
  obtain rfl : t = true := ht'.2 ha
  obtain ⟨u, hu, hu'⟩ := right_mat (n := m) fb
  obtain rfl : u = true := hu'.2 hb
  unfold matrix_Mul.f
  refine Ev.bind ht (Ev.congr (fun k => if_pos (by first | rfl | trivial)) (Ev.bind hu (up ?_)))
  simp only [matrix_Mul.j0]
  exact Ev.congr (fun k => (if_neg (by decide)).trans (if_neg hn)) (Ev.now _)

theorem bn_bits {v n : Nat} (hv : v < 2 ^ n) : bn ((List.range n).map fun i => bitI v i) = v := by
  apply Nat.eq_of_testBit_eq
  intro j
  rw [testBit_bn, getD_range]
  by_cases hj : j < n
  · rw [if_pos hj]
    unfold bitI
    cases v.testBit j <;> simp
  · rw [if_neg hj, Nat.testBit_lt_two_pow (Nat.lt_of_lt_of_le hv (Nat.pow_le_pow_right (by omega) (by omega)))]
    simp

/-- How many of the first rows are named and have the bit. -/
def bsum (l : List S25) (v i : Nat) : Nat → Nat
  | 0 => 0
  | j + 1 => bsum l v i j + if v.testBit j = true ∧ (val (row l j).f1).testBit i = true then 1 else 0
theorem bsum_le (l : List S25) (v i j : Nat) : bsum l v i j ≤ j := by
  induction j with
  | zero => exact Nat.le_refl _
  | succ j ih => rw [bsum]; split <;> omega
theorem bsum_par (l : List S25) (v i j : Nat) : (xorp l (plc v j)).testBit i = decide (bsum l v i j % 2 = 1) := by
  induction j with
  | zero => show (0 : Nat).testBit i = _; rw [Nat.zero_testBit]; rfl
  | succ j ih =>
    rw [plc_succ, bsum]
    by_cases hv : v.testBit j = true
    · rw [if_pos hv, xorp_snoc, Nat.testBit_xor, ih, Int.toNat_natCast]
      cases hb : (val (row l j).f1).testBit i with
      | true =>
        rw [if_pos ⟨hv, rfl⟩, Bool.xor_true, ← decide_not, decide_eq_decide]; omega
      | false => rw [if_neg (by simp), Bool.xor_false, Nat.add_zero]
    · rw [if_neg hv, List.append_nil, ih, if_neg (fun g => hv g.1), Nat.add_zero]

theorem refBit_spec {n m : Int} {l : List S25} {ws : List Int} (hf : ∀ x ∈ l, Ok x.f1) (h : MRt m l) (hok : Ok ws) (hr : Rt n ws) (hn : n = (l.length : Int)) {i : Nat} (hi : (i : Int) < m) :
    Ev (fun k => downpourref03_bit.f k n ws m l (i : Int)) (bitI (xorp l (plc (val ws) l.length)) i) := by
  have h1 := h.2.1
  have hll := h.2.2.1
  have hr3 := hr.2.2.1
  unfold downpourref03_bit.f
  refine loop_acc (g := fun k j acc => downpourref03_bit.l0 k (i : Int) acc l (l.length : Int) (j : Int) n ws) l.length (fun j => ((bsum l (val ws) i j : Nat) : Int)) (fun j hj hr2 => up ?_) (up ?_)
  · have e1 : wrap64 ((j : Int) + 1) = ((j + 1 : Nat) : Int) := wrap_lt (by omega) (by omega)
    have c1 : (j : Int) < (l.length : Int) := Int.ofNat_lt.2 hj
    have c2 : (0 : Int) ≤ (j : Int) := Int.natCast_nonneg _
    have hrow := h.2.2.2 j hj
    have hr4 := hrow.2.2.2.1
    have b1 := bit_spec hok n j (by omega) (by omega) (by omega)
    have b2 := bit_spec (hf _ (row_mem hj)) (row l j).f0 i (by omega) (by omega) (by omega)
    have hle := bsum_le l (val ws) i j
    have e2 : wrap64 (((bsum l (val ws) i j : Nat) : Int) + wrap64 (bitI (val ws) j * bitI (val (row l j).f1) i)) = ((bsum l (val ws) i (j + 1) : Nat) : Int) := by
      rw [bsum]
      unfold bitI
      cases (val ws).testBit j <;> cases (val (row l j).f1).testBit i <;> simp [wrap64] <;> omega
    simp only [downpourref03_bit.l0, rd_row]
    rw [b1]
    refine Ev.congr (fun k => (if_pos c1).trans ((if_pos c2).trans (if_pos c1))) (Ev.bind (Ev.now _) ?_)
    rw [b2]
    refine Ev.bind (Ev.now _) ?_
    rw [e1, e2]
    exact hr2
  · simp only [downpourref03_bit.l0]
    refine Ev.congr (fun k => if_neg (Int.lt_irrefl _)) ?_
    have hp := bsum_par l (val ws) i l.length
    have e : Int.tmod ((bsum l (val ws) i l.length : Nat) : Int) 2 = bitI (xorp l (plc (val ws) l.length)) i := by
      unfold bitI
      rw [hp, Int.tmod_eq_emod_of_nonneg (Int.natCast_nonneg _)]
      by_cases hq : bsum l (val ws) i l.length % 2 = 1
      · rw [decide_eq_true hq, if_pos rfl]; omega
      · rw [decide_eq_false hq, if_neg (by decide)]; omega
    rw [e]
    exact Ev.now _

theorem fr_bits {m : Int} (h0 : 0 ≤ m) (h1 : m ≤ 64) {v : Nat} (hv : v < 2 ^ m.toNat) : Ev (fun k => downpourref01_From.f k ((List.range m.toNat).map fun j => bitI v j)) (m, wd m v) := by
  have hlen : ((List.range m.toNat).map fun j => bitI v j).length = m.toNat := by rw [List.length_map, List.length_range]
  have hb := bn_bits hv
  generalize ((List.range m.toNat).map fun j => bitI v j) = l at *
  have hfr := from_spec (l := l) (by omega)
  rw [hb] at hfr
  have e1 : (l.length : Int) = m := by omega
  have e2 : (l.length + 63) / 64 = ((m + 63) / 64).toNat := by omega
  rw [e1, e2] at hfr
  exact hfr

theorem lt_big {x : Nat} (h : x ≤ 100) : x < 17592186044416 := Nat.lt_of_le_of_lt h (by decide)
theorem lt_big2 {x : Nat} (h : x ≤ 100) : x < 4398046511104 := Nat.lt_of_le_of_lt h (by decide)
theorem refMul_ok {n m : Int} {a b : List S25} (fa : Few a) (fb : Few b) (ha : MRt n a) (hb : MRt m b) (hn : n = (b.length : Int)) : Ev (fun k => downpourref03_Mul.f k n a m b) (m, (List.range a.length).map (mulr n m a b)) := by
  have hll := ha.2.2.1
  have h0 := hb.1
  have h1 := hb.2.1
  have hnl : n.toNat = b.length := by omega
  have hm64 : m.toNat ≤ 100 := by omega
  have hmj : ∀ j : Nat, j < m.toNat → (j : Int) < m := fun j hj => by omega
  have hmm : ¬ (((m.toNat : Nat) : Int) < m) := by omega
  have ha66 : a.length ≤ 100 := by omega
  have hw1 : ∀ j : Nat, j ≤ 100 → wrap64 ((j : Int) + 1) = ((j + 1 : Nat) : Int) := fun j hj => wrap_lt (by omega) (by omega)
  unfold downpourref03_Mul.f
  refine loop_map (g := fun k i acc => downpourref03_Mul.l0 k a (a.length : Int) (i : Int) m b m acc) a.length (mulr n m a b) (fun i hi acc hacc hr => up ?_) (up ?_)
  · have c1 : (i : Int) < (a.length : Int) := Int.ofNat_lt.2 hi
    have c2 : (0 : Int) ≤ (i : Int) := Int.natCast_nonneg _
    have hrow := ha.2.2.2 i hi
    have hx := fa.2 _ (row_mem hi)
    simp only [downpourref03_Mul.l0, rd_row]
    refine Ev.congr (fun k => (if_pos c1).trans ((if_pos c2).trans (if_pos c1))) ?_
    rw [hrow.1]
    refine loop_map (g := fun k j bits => downpourref03_Mul.l1 k bits (j : Int) a (a.length : Int) (i : Int) m b m acc n (row a i).f1) m.toNat (fun j => bitI (xorp b (plc (val (row a i).f1) b.length)) j) (fun j hj bits hbits hr2 => up ?_) (up ?_)
    · have e1 := hw1 j (Nat.le_trans (Nat.le_of_lt hj) hm64)
      have c3 : (j : Int) < m := hmj j hj
      have c4 : bits.length < 17592186044416 := lt_big (hbits ▸ Nat.le_trans (Nat.le_of_lt hj) hm64)
      have hb2 := refBit_spec (fun x hx => (fb.2 x hx).1) hb hx.1 hrow.2 hn c3
      simp only [downpourref03_Mul.l1]
      rw [e1]
      exact Ev.congr (fun k => if_pos c3) (Ev.bind hb2 (Ev.congr (fun k => if_pos c4) hr2))
    · have e1 := hw1 i (Nat.le_trans (Nat.le_of_lt hi) ha66)
      have c4 : acc.length < 4398046511104 := lt_big2 (hacc ▸ Nat.le_trans (Nat.le_of_lt hi) ha66)
      have c5 := hmm
      have hfr := fr_bits h0 h1 (xorp_plc_lt hb (val (row a i).f1))
      have em : mulr n m a b i = ⟨m, wd m (xorp b (plc (val (row a i).f1) b.length))⟩ := by unfold mulr; rw [hnl]
      rw [em] at hr
      simp only [downpourref03_Mul.l1]
      rw [e1]
      exact Ev.congr (fun k => if_neg c5) (Ev.bind hfr (Ev.congr (fun k => if_pos c4) hr))
  · simp only [downpourref03_Mul.l0]
    exact Ev.congr (fun k => if_neg (Int.lt_irrefl _)) (Ev.now _)

theorem short_mul {n m : Int} {a b : List S25} (h1 : m ≤ 64) (hl : a.length ≤ 64) : Short ((List.range a.length).map (mulr n m a b)) := ⟨by simp; omega, fun x hx => by
  obtain ⟨i, _, rfl⟩ := List.mem_map.1 hx
  unfold mulr wd; rw [length_words]; omega⟩

/-- Blocks, summed by rows. -/
def app (n m : Int) (a : List S25) (l : List ByteArray) : List ByteArray := (List.range a.length).map fun i => strOfNums (pk m.toNat l (plc (val (row a i).f1) n.toNat))

theorem apply_ok {n m : Int} {a : List S25} {l : List ByteArray} (fa : Few a) (ha : MRt n a) (hb : BOk m l) (hn : (l.length : Int) = n) : Ev (fun k => matrix_Apply.f k n a m l) (app n m a l, 0) := by
  have hll := ha.2.2.1
  obtain ⟨t, ht, ht'⟩ := right_mat (n := n) fa
  obtain rfl : t = true := ht'.2 ha
  unfold matrix_Apply.f
  refine Ev.bind ht (Ev.congr (fun k => if_pos (by first | rfl | trivial)) (Ev.bind (sum_ok hb) (Ev.congr (fun k => (if_pos (by first | rfl | trivial)).trans (if_pos hn)) ?_)))
  refine loop_map (g := fun k i acc => matrix_Apply.l0 k m l acc a (a.length : Int) (i : Int)) a.length (fun i => strOfNums (pk m.toNat l (plc (val (row a i).f1) n.toNat))) (fun i hi acc hacc hr => up ?_) (up ?_)
  · have e1 : wrap64 ((i : Int) + 1) = ((i + 1 : Nat) : Int) := wrap_lt (by omega) (by omega)
    have c1 : (i : Int) < (a.length : Int) := Int.ofNat_lt.2 hi
    have c2 : (0 : Int) ≤ (i : Int) := Int.natCast_nonneg _
    have c3 : acc.length < 8796093022208 := by omega
    have hrow := ha.2.2.2 i hi
    have hp := pick_ok (fa.2 _ (row_mem hi)).1 hrow.2 hb hn.symm
    simp only [matrix_Apply.l0, rd_row]
    rw [e1, hrow.1]
    exact Ev.congr (fun k => (if_pos c1).trans ((if_pos c2).trans (if_pos c1))) (Ev.bind hp (Ev.congr (fun k => if_pos c3) hr))
  · simp only [matrix_Apply.l0]
    exact Ev.congr (fun k => if_neg (Int.lt_irrefl _)) (Ev.now _)

theorem apply_arg {n m : Int} {a : List S25} {l : List ByteArray} (fa : Few a) (ha : ¬ MRt n a) : Ev (fun k => matrix_Apply.f k n a m l) ([], 1) := by
  obtain ⟨t, ht, ht'⟩ := right_mat (n := n) fa
  have hf : t = false := by cases t with | false => rfl | true => exact absurd (ht'.1 rfl) ha
  subst hf
  unfold matrix_Apply.f
  exact Ev.bind ht (Ev.congr (fun k => if_neg (by decide)) (Ev.now _))

theorem apply_size {n m : Int} {a : List S25} {l : List ByteArray} (fa : Few a) (ha : MRt n a) (hl : l.length < 1000000) (h : ¬ (BOk m l ∧ (l.length : Int) = n)) : Ev (fun k => matrix_Apply.f k n a m l) ([], 2) := by
  obtain ⟨t, ht, ht'⟩ := right_mat (n := n) fa
  obtain rfl : t = true := ht'.2 ha
  unfold matrix_Apply.f
  refine Ev.bind ht (Ev.congr (fun k => if_pos (by first | rfl | trivial)) ?_)
  by_cases hb : BOk m l
  · exact Ev.bind (sum_ok hb) (Ev.congr (fun k => (if_pos (by first | rfl | trivial)).trans (if_neg fun g => h ⟨hb, g⟩)) (Ev.now _))
  · exact Ev.bind (sum_bad hl hb) (Ev.congr (fun k => if_neg (by decide)) (Ev.now _))

theorem refApply_ok {n m : Int} {a : List S25} {l : List ByteArray} (fa : Few a) (ha : MRt n a) (hb : BOk m l) (hn : (l.length : Int) = n) : Ev (fun k => downpourref03_Apply.f k n a m l) (app n m a l) := by
  have hll := ha.2.2.1
  have hnl : n.toNat = l.length := by omega
  unfold downpourref03_Apply.f
  refine loop_map (g := fun k i acc => downpourref03_Apply.l0 k m l acc a (a.length : Int) (i : Int)) a.length (fun i => strOfNums (pk m.toNat l (plc (val (row a i).f1) n.toNat))) (fun i hi acc hacc hr => up ?_) (up ?_)
  · have e1 : wrap64 ((i : Int) + 1) = ((i + 1 : Nat) : Int) := wrap_lt (by omega) (by omega)
    have c1 : (i : Int) < (a.length : Int) := Int.ofNat_lt.2 hi
    have c2 : (0 : Int) ≤ (i : Int) := Int.natCast_nonneg _
    have c3 : acc.length < 8796093022208 := by omega
    have hrow := ha.2.2.2 i hi
    have hbits := refBits_spec (fa.2 _ (row_mem hi)).1 hrow.2
    have hsum := refSum_spec hb (val (row a i).f1)
    rw [hnl] at hbits hr
    simp only [downpourref03_Apply.l0, rd_row]
    rw [e1, hrow.1]
    exact Ev.congr (fun k => (if_pos c1).trans ((if_pos c2).trans (if_pos c1))) (Ev.bind hbits (Ev.bind hsum (Ev.congr (fun k => if_pos c3) hr)))
  · simp only [downpourref03_Apply.l0]
    exact Ev.congr (fun k => if_neg (Int.lt_irrefl _)) (Ev.now _)
end Go.Proofs.YtfcedhejbnoinaaDoor.PureBit
