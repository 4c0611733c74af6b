/- What Mul and Apply and their printed references of layer 3 tell. -/
import Derived.Test.YtfcedhejbnoinaaDoorPRx4
import Derived.Test.YtfcedhejbnoinaaDoorPRx5
import Derived.Test.YtfcedhejbnoinaaDoorPRx3
import Derived.Test.YtfcedhejbnoinaaDoorPRx2
import Derived.Test.YtfcedhejbnoinaaDoorPureQPRBlk
namespace Go.Proofs.YtfcedhejbnoinaaDoor.PureBit
open Go Go.RowKit Go.Proofs.YtfcedhejbnoinaaDoor.PR Go.Proofs.YtfcedhejbnoinaaDoorW.PrintWords Go.Proofs.YtfcedhejbnoinaaDoorW.PrintLast Go.Proofs.YtfcedhejbnoinaaDoorW.PrintMore Go.Proofs.YtfcedhejbnoinaaDoor.Row Go.Proofs.YtfcedhejbnoinaaDoor.Bits Go.Proofs.YtfcedhejbnoinaaDoor.Pop

/-- The xor of those rows that are named. -/
def xorp (l : List S25) (P : List Int) : Nat := P.foldl (fun a z => a ^^^ val (row l z.toNat).f1) 0
theorem xorp_snoc (l : List S25) (P : List Int) (z : Int) : xorp l (P ++ [z]) = xorp l P ^^^ val (row l z.toNat).f1 := by unfold xorp; rw [List.foldl_append]; rfl

theorem xorp_take_lt {m : Int} {l : List S25} (h : MRt m l) {P : List Int} (hP : ∀ z ∈ P, 0 ≤ z ∧ z < (l.length : Int)) (i : Nat) : i ≤ P.length → xorp l (P.take i) < 2 ^ m.toNat := by
  induction i with
  | zero => intro _; rw [List.take_zero]; exact Nat.two_pow_pos _
  | succ i ih =>
    intro hi
    rw [take_snoc hi, xorp_snoc]
    have hz := hP _ (getD_mem (l := P) (i := i) hi)
    exact Nat.xor_lt_two_pow (ih (by omega)) (h.2.2.2 (P.getD i 0).toNat (by omega)).2.2.2.2

/-- The row's words, of a number. -/
def wd (m : Int) (v : Nat) : List Int := words ((m + 63) / 64).toNat v
theorem wd_row {m : Int} (h0 : 0 ≤ m) (h1 : m ≤ 64) {v : Nat} (hv : v < 2 ^ m.toNat) : Ok (wd m v) ∧ Rt m (wd m v) ∧ val (wd m v) = v := rt_words h0 (by omega) (by omega) hv

theorem xor_wd {m : Int} (h0 : 0 ≤ m) (h1 : m ≤ 64) {u : Nat} (hu : u < 2 ^ m.toNat) {ws : List Int} (hok : Ok ws) (hr : Rt m ws) : Ev (fun k => bitrow_Xor.f k m (wd m u) m ws) (m, wd m (u ^^^ val ws), 0) := by
  obtain ⟨o, r, e⟩ := wd_row h0 h1 hu
  have h := xor_ok o hok r hr
  rw [e] at h
  have hl : (wd m u).length = ((m + 63) / 64).toNat := length_words _ _
  rw [hl] at h
  exact h

theorem named_spec {n m : Int} {l : List S25} {ws : List Int} (hf : ∀ x ∈ l, Ok x.f1) (h : MRt m l) (hok : Ok ws) (hr : Rt n ws) (hn : n = (l.length : Int)) :
    Ev (fun k => matrix_table_named.f k m l n ws) (m, wd m (xorp l (plc (val ws) n.toNat))) := by
  have h0 := h.1
  have h1 := h.2.1
  have hpl := length_plc (val ws) n.toNat
  have hle := cnt_le n.toNat (val ws)
  have hll := h.2.2.1
  have hP : ∀ z ∈ plc (val ws) n.toNat, 0 ≤ z ∧ z < (l.length : Int) := fun z hz => by
    obtain ⟨i, hi, _, rfl⟩ := (mem_plc _ _ _).1 hz
    omega
  unfold matrix_table_named.f
  rw [new_ok ⟨h0, by omega⟩, places_ok hok hr]
  simp only [Option.bind_some]
  generalize plc (val ws) n.toNat = P at *
  have hz : List.replicate ((m + 63) / 64).toNat (0 : Int) = wd m (xorp l (P.take 0)) := by
    obtain ⟨o, r, e⟩ := wd_row h0 h1 (v := 0) (Nat.two_pow_pos _)
    rw [List.take_zero]
    refine val_inj (ok_replicate _) o (by unfold wd; rw [length_words, List.length_replicate]) ?_
    rw [val_replicate]
    exact e.symm
  have key := loop_acc (g := fun k i acc => matrix_table_named.l0 k P (P.length : Int) (i : Int) m l m acc) (r := (m, wd m (xorp l P))) P.length (fun i => wd m (xorp l (P.take i))) (fun i hi hr2 => up ?_) (up ?_)
  · rw [← hz] at key
    exact key
  · have e1 : wrap64 ((i : Int) + 1) = ((i + 1 : Nat) : Int) := wrap_lt (by omega) (by omega)
    have c1 : (i : Int) < (P.length : Int) := Int.ofNat_lt.2 hi
    have c2 : (0 : Int) ≤ (i : Int) := Int.natCast_nonneg _
    have er : rd P (i : Int) = P.getD i 0 := by rw [rd_eq, Int.toNat_natCast]
    have hm := hP _ (getD_mem (l := P) (i := i) hi)
    have erow : rd_T25 l (P.getD i 0) = row l (P.getD i 0).toNat := rfl
    have hlt : (P.getD i 0).toNat < l.length := by omega
    have hrow := h.2.2.2 _ hlt
    have hx := xor_wd h0 h1 (xorp_take_lt h hP i (by omega)) (hf _ (row_mem hlt)) hrow.2
    rw [take_snoc hi, xorp_snoc] at hr2
    simp only [matrix_table_named.l0]
    rw [e1, er, erow, hrow.1]
    exact Ev.congr (fun k => (if_pos c1).trans ((if_pos c2).trans ((if_pos c1).trans ((if_pos hm.1).trans (if_pos hm.2))))) (Ev.bind hx hr2)
  · simp only [matrix_table_named.l0]
    refine Ev.congr (fun k => if_neg (Int.lt_irrefl _)) ?_
    rw [List.take_of_length_le (Nat.le_refl _)]
    exact Ev.now _

/-- A row of a product. -/
def mulr (n m : Int) (a b : List S25) (i : Nat) : S25 := ⟨m, wd m (xorp b (plc (val (row a i).f1) n.toNat))⟩

theorem xorp_plc_lt {m : Int} {l : List S25} (h : MRt m l) (v : Nat) : xorp l (plc v l.length) < 2 ^ m.toNat := by
  have hP : ∀ z ∈ plc v l.length, 0 ≤ z ∧ z < (l.length : Int) := fun z hz => by
    obtain ⟨i, hi, _, rfl⟩ := (mem_plc _ _ _).1 hz
    omega
  have := xorp_take_lt h hP (plc v l.length).length (Nat.le_refl _)
  rwa [List.take_of_length_le (Nat.le_refl _)] at this

theorem mul_ok {n m : Int} {a b : List S25} (fa : Few a) (fb : Few b) (ha : MRt n a) (hb : MRt m b) (hn : n = (b.length : Int)) : Ev (fun k => matrix_Mul.f k n a m b) (m, (List.range a.length).map (mulr n m a b), 0) := by
  have hll := ha.2.2.1
  obtain ⟨t, ht, ht'⟩ := right_mat (n := n) fa
  obtain rfl : t = true := ht'.2 ha
  obtain ⟨u, hu, hu'⟩ := right_mat (n := m) fb
  obtain rfl : u = true := hu'.2 hb
  unfold matrix_Mul.f
  refine Ev.bind ht (Ev.congr (fun k => if_pos (by first | rfl | trivial)) (Ev.bind hu (up ?_)))
  simp only [matrix_Mul.j0]
  refine Ev.congr (fun k => (if_neg (by decide)).trans (if_pos hn)) (Ev.bind (a := (m, (List.range a.length).map (mulr n m a b))) ?_ (Ev.now _))
  unfold api_Row_73.f
  refine loop_map (g := fun k i acc => api_Row_73.l0 k a (a.length : Int) (i : Int) m b m acc) a.length (mulr n m a b) (fun i hi acc hacc hr => up ?_) (up ?_)
  · have e1 : wrap64 ((i : Int) + 1) = ((i + 1 : Nat) : Int) := wrap_lt (by omega) (by omega)
    have c1 : (i : Int) < (a.length : Int) := Int.ofNat_lt.2 hi
    have c2 : (0 : Int) ≤ (i : Int) := Int.natCast_nonneg _
    have c3 : acc.length < 4398046511104 := by omega
    have hrow := ha.2.2.2 i hi
    have hnm := named_spec (fun x hx => (fb.2 x hx).1) hb (fa.2 _ (row_mem hi)).1 hrow.2 hn
    simp only [api_Row_73.l0, rd_row]
    rw [e1, hrow.1]
    exact Ev.congr (fun k => (if_pos c1).trans ((if_pos c2).trans (if_pos c1))) (Ev.bind hnm (Ev.congr (fun k => if_pos c3) hr))
  · simp only [api_Row_73.l0]
    exact Ev.congr (fun k => if_neg (Int.lt_irrefl _)) (Ev.now _)

theorem mul_arg {n m : Int} {a b : List S25} (fa : Few a) (fb : Few b) (h : ¬ (MRt n a ∧ MRt m b)) : Ev (fun k => matrix_Mul.f k n a m b) (0, [], 1) := by
  have bad : Ev (fun k => matrix_Mul.j0 k true n a m b) (0, [], 1) := by
    refine up ?_
    simp only [matrix_Mul.j0]
    exact Ev.congr (fun k => if_pos (by first | rfl | trivial)) (Ev.now _)
  obtain ⟨t, ht, ht'⟩ := right_mat (n := n) fa
  obtain ⟨u, hu, hu'⟩ := right_mat (n := m) fb
  unfold matrix_Mul.f
  refine Ev.bind ht ?_
  cases t with
  | false => exact Ev.congr (fun k => if_neg (by decide)) bad
  | true =>
    refine Ev.congr (fun k => if_pos (by first | rfl | trivial)) (Ev.bind hu ?_)
    cases u with
    | false => exact bad
    | true => exact absurd ⟨ht'.1 rfl, hu'.1 rfl⟩ h

theorem mul_size {n m : Int} {a b : List S25} (fa : Few a) (fb : Few b) (ha : MRt n a) (hb : MRt m b) (hn : n ≠ (b.length : Int)) : Ev (fun k => matrix_Mul.f k n a m b) (0, [], 2) := by
  obtain ⟨t, ht, ht'⟩ := right_mat (n := n) fa
  obtain rfl : t = true := ht'.2 ha
  obtain ⟨u, hu, hu'⟩ := right_mat (n := m) fb
  obtain rfl : u = true := hu'.2 hb
  unfold matrix_Mul.f
  refine Ev.bind ht (Ev.congr (fun k => if_pos (by first | rfl | trivial)) (Ev.bind hu (up ?_)))
  simp only [matrix_Mul.j0]
  exact Ev.congr (fun k => (if_neg (by decide)).trans (if_neg hn)) (Ev.now _)

theorem bn_bits {v n : Nat} (hv : v < 2 ^ n) : bn ((List.range n).map fun i => bitI v i) = v := by
  apply Nat.eq_of_testBit_eq
  intro j
  rw [testBit_bn, getD_range]
  by_cases hj : j < n
  · rw [if_pos hj]
    unfold bitI
    cases v.testBit j <;> simp
  · rw [if_neg hj, Nat.testBit_lt_two_pow (Nat.lt_of_lt_of_le hv (Nat.pow_le_pow_right (by omega) (by omega)))]
    simp

theorem short_mul {n m : Int} {a b : List S25} (h1 : m ≤ 64) (hl : a.length ≤ 64) : Short ((List.range a.length).map (mulr n m a b)) := ⟨by simp; omega, fun x hx => by
  obtain ⟨i, _, rfl⟩ := List.mem_map.1 hx
  unfold mulr wd; rw [length_words]; omega⟩

/-- Blocks, summed by rows. -/
def app (n m : Int) (a : List S25) (l : List ByteArray) : List ByteArray := (List.range a.length).map fun i => strOfNums (pk m.toNat l (plc (val (row a i).f1) n.toNat))

theorem apply_ok {n m : Int} {a : List S25} {l : List ByteArray} (fa : Few a) (ha : MRt n a) (hb : BOk m l) (hn : (l.length : Int) = n) : Ev (fun k => matrix_Apply.f k n a m l) (app n m a l, 0) := by
  have hll := ha.2.2.1
  obtain ⟨t, ht, ht'⟩ := right_mat (n := n) fa
  obtain rfl : t = true := ht'.2 ha
  unfold matrix_Apply.f
  refine Ev.bind ht (Ev.congr (fun k => if_pos (by first | rfl | trivial)) (Ev.bind (sum_ok hb) (Ev.congr (fun k => (if_pos (by first | rfl | trivial)).trans (if_pos hn)) ?_)))
  refine loop_map (g := fun k i acc => matrix_Apply.l0 k m l acc a (a.length : Int) (i : Int)) a.length (fun i => strOfNums (pk m.toNat l (plc (val (row a i).f1) n.toNat))) (fun i hi acc hacc hr => up ?_) (up ?_)
  · have e1 : wrap64 ((i : Int) + 1) = ((i + 1 : Nat) : Int) := wrap_lt (by omega) (by omega)
    have c1 : (i : Int) < (a.length : Int) := Int.ofNat_lt.2 hi
    have c2 : (0 : Int) ≤ (i : Int) := Int.natCast_nonneg _
    have c3 : acc.length < 8796093022208 := by omega
    have hrow := ha.2.2.2 i hi
    have hp := pick_ok (fa.2 _ (row_mem hi)).1 hrow.2 hb hn.symm
    simp only [matrix_Apply.l0, rd_row]
    rw [e1, hrow.1]
    exact Ev.congr (fun k => (if_pos c1).trans ((if_pos c2).trans (if_pos c1))) (Ev.bind hp (Ev.congr (fun k => if_pos c3) hr))
  · simp only [matrix_Apply.l0]
    exact Ev.congr (fun k => if_neg (Int.lt_irrefl _)) (Ev.now _)

theorem apply_arg {n m : Int} {a : List S25} {l : List ByteArray} (fa : Few a) (ha : ¬ MRt n a) : Ev (fun k => matrix_Apply.f k n a m l) ([], 1) := by
  obtain ⟨t, ht, ht'⟩ := right_mat (n := n) fa
  have hf : t = false := by cases t with | false => rfl | true => exact absurd (ht'.1 rfl) ha
  subst hf
  unfold matrix_Apply.f
  exact Ev.bind ht (Ev.congr (fun k => if_neg (by decide)) (Ev.now _))

theorem apply_size {n m : Int} {a : List S25} {l : List ByteArray} (fa : Few a) (ha : MRt n a) (hl : l.length < 1000000) (h : ¬ (BOk m l ∧ (l.length : Int) = n)) : Ev (fun k => matrix_Apply.f k n a m l) ([], 2) := by
  obtain ⟨t, ht, ht'⟩ := right_mat (n := n) fa
  obtain rfl : t = true := ht'.2 ha
  unfold matrix_Apply.f
  refine Ev.bind ht (Ev.congr (fun k => if_pos (by first | rfl | trivial)) ?_)
  by_cases hb : BOk m l
  · exact Ev.bind (sum_ok hb) (Ev.congr (fun k => (if_pos (by first | rfl | trivial)).trans (if_neg fun g => h ⟨hb, g⟩)) (Ev.now _))
  · exact Ev.bind (sum_bad hl hb) (Ev.congr (fun k => if_neg (by decide)) (Ev.now _))

end Go.Proofs.YtfcedhejbnoinaaDoor.PureBit
