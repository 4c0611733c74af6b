/- What the printed functions and references of layer 3 tell, of rows as numbers. -/
import Derived.Test.YtfcedhejbnoinaaDoorPKx3
import Derived.Test.YtfcedhejbnoinaaDoorPKx4
import Derived.Test.YtfcedhejbnoinaaDoorPKx2
import Derived.Test.YtfcedhejbnoinaaDoorPureQPKMake
import Derived.Test.YtfcedhejbnoinaaDoorPureQPKTell
namespace Go.Proofs.YtfcedhejbnoinaaDoor.PureBit
open Go Go.RowKit Go.Proofs.YtfcedhejbnoinaaDoor.PK Go.Proofs.YtfcedhejbnoinaaDoorW.PrintWords Go.Proofs.YtfcedhejbnoinaaDoorW.PrintLast Go.Proofs.YtfcedhejbnoinaaDoorW.PrintMore Go.Proofs.YtfcedhejbnoinaaDoor.Row

/-- A loop that appends one thing a round. -/
theorem loop_map {α ρ : Type} {g : Nat → Nat → List α → Option ρ} (n : Nat) (F : Nat → α) {r : ρ}
    (step : ∀ i, i < n → ∀ acc : List α, acc.length = i → Ev (fun k => g k (i + 1) (acc ++ [F i])) r → Ev (fun k => g k i acc) r)
    (last : Ev (fun k => g k n ((List.range n).map F)) r) : Ev (fun k => g k 0 []) r := by
  have key : ∀ d i, i + d = n → Ev (fun k => g k i ((List.range i).map F)) r := by
    intro d
    induction d with
    | zero => intro i hi; obtain rfl : i = n := by omega
              exact last
    | succ d ih =>
      intro i hi
      refine step i (by omega) _ (by simp) ?_
      have := ih (i + 1) (by omega)
      rwa [List.range_succ, List.map_append] at this
  simpa using key n 0 (by omega)

/-- A loop that looks for one place. -/
theorem loop_all {g : Nat → Nat → Option Bool} (n : Nat) (p : Nat → Prop) (c : Bool)
    (good : ∀ i, i < n → p i → ∀ r, Ev (fun k => g k (i + 1)) r → Ev (fun k => g k i) r)
    (bad : ∀ i, i < n → ¬ p i → Ev (fun k => g k i) false)
    (last : Ev (fun k => g k n) c) : ∃ t, Ev (fun k => g k 0) t ∧ (t = true ↔ (∀ i, i < n → p i) ∧ c = true) := by
  have key : ∀ d i, i + d = n → ∃ t, Ev (fun k => g k i) t ∧ (t = true ↔ (∀ j, i ≤ j → j < n → p j) ∧ c = true) := by
    intro d
    induction d with
    | zero =>
      intro i hi
      obtain rfl : i = n := by omega
      exact ⟨c, last, ⟨fun h => ⟨fun j h1 h2 => by omega, h⟩, fun h => h.2⟩⟩
    | succ d ih =>
      intro i hi
      by_cases hp : p i
      · obtain ⟨t, h1, h2⟩ := ih (i + 1) (by omega)
        refine ⟨t, good i (by omega) hp t h1, ?_⟩
        rw [h2]
        exact ⟨fun h => ⟨fun j h1 h2 => by
          rcases Nat.eq_or_lt_of_le h1 with rfl | h1
          · exact hp
          · exact h.1 j h1 h2, h.2⟩, fun h => ⟨fun j h1 h2 => h.1 j (by omega) h2, h.2⟩⟩
      · exact ⟨false, bad i (by omega) hp, ⟨fun h => (by cases h), fun h => absurd (h.1 i (Nat.le_refl _) (by omega)) hp⟩⟩
  obtain ⟨t, h1, h2⟩ := key n 0 (by omega)
  exact ⟨t, h1, by rw [h2]; exact ⟨fun h => ⟨fun i hi => h.1 i (Nat.zero_le _) hi, h.2⟩, fun h => ⟨fun i _ hi => h.1 i hi, h.2⟩⟩⟩

/-- A loop that looks for a place where something does not hold. -/
theorem loop_find {g : Nat → Nat → Option Int} (n : Nat) (p : Nat → Prop)
    (good : ∀ i, i < n → p i → ∀ r, Ev (fun k => g k (i + 1)) r → Ev (fun k => g k i) r)
    (bad : ∀ i, i < n → ¬ p i → Ev (fun k => g k i) (i : Int))
    (last : Ev (fun k => g k n) (-1)) : ∃ t, Ev (fun k => g k 0) t ∧ (t ≥ 0 ↔ ¬ ∀ i, i < n → p i) := by
  have key : ∀ d i, i + d = n → ∃ t, Ev (fun k => g k i) t ∧ (t ≥ 0 ↔ ¬ ∀ j, i ≤ j → j < n → p j) := by
    intro d
    induction d with
    | zero =>
      intro i hi
      obtain rfl : i = n := by omega
      exact ⟨-1, last, ⟨fun h => absurd h (by decide), fun h => absurd (fun j h1 h2 => by omega) h⟩⟩
    | succ d ih =>
      intro i hi
      by_cases hp : p i
      · obtain ⟨t, h1, h2⟩ := ih (i + 1) (by omega)
        refine ⟨t, good i (by omega) hp t h1, ?_⟩
        rw [h2]
        exact ⟨fun h g => h fun j h1 h2 => g j (by omega) h2, fun h g => h fun j h1 h2 => by
          rcases Nat.eq_or_lt_of_le h1 with rfl | h1
          · exact hp
          · exact g j h1 h2⟩
      · exact ⟨(i : Int), bad i (by omega) hp, ⟨fun _ h => hp (h i (Nat.le_refl _) (by omega)), fun _ => Int.natCast_nonneg _⟩⟩
  obtain ⟨t, h1, h2⟩ := key n 0 (by omega)
  exact ⟨t, h1, by rw [h2]; exact ⟨fun h g => h fun j _ hj => g j hj, fun h g => h fun j hj => g j (Nat.zero_le _) hj⟩⟩

/-- A row of a matrix. -/
def row (l : List S25) (i : Nat) : S25 := l.getD i z25

theorem rd_row (l : List S25) (i : Nat) : rd_T25 l (i : Int) = row l i := by unfold rd_T25 row; rw [Int.toNat_natCast]

theorem row_mem {l : List S25} {i : Nat} (hi : i < l.length) : row l i ∈ l := by
  unfold row; rw [List.getD_eq_getElem?_getD, List.getElem?_eq_getElem hi]; exact List.getElem_mem hi

theorem row_ext {a b : List S25} (hl : a.length = b.length) (h : ∀ j, j < a.length → row a j = row b j) : a = b := by
  apply List.ext_getElem hl
  intro j h1 h2
  have := h j h1
  unfold row at this
  rw [List.getD_eq_getElem?_getD, List.getD_eq_getElem?_getD, List.getElem?_eq_getElem h1, List.getElem?_eq_getElem h2] at this
  simpa using this

theorem s25_eq {a b : S25} : a = b ↔ a.f0 = b.f0 ∧ a.f1 = b.f1 := by
  cases a; cases b; simp

/-- Rows that may stand in a program's memory, few and short. -/
def Few (l : List S25) : Prop := l.length ≤ 66 ∧ ∀ x ∈ l, Ok x.f1 ∧ x.f1.length ≤ 3

theorem few_mat {n : Int} {l : List S25} (h : ∀ x ∈ l, Ok x.f1) : ∃ m, Ev (fun k => downpourlaw04_few.f k n l) (n, m) ∧ Few m := by
  have h0 : 0 ≤ mn (l.length : Int) 66 := by unfold mn; split <;> omega
  have h1 : mn (l.length : Int) 66 ≤ (l.length : Int) := by unfold mn; split <;> omega
  have h2 : mn (l.length : Int) 66 ≤ 66 := by unfold mn; split <;> omega
  unfold downpourlaw04_few.f
  generalize mn (l.length : Int) 66 = q at h0 h1 h2
  have hyl : (l.take q.toNat).length ≤ 66 := by rw [List.length_take]; omega
  have hym : ∀ x ∈ l.take q.toNat, Ok x.f1 := fun x hx => h x (List.mem_of_mem_take hx)
  refine ⟨(List.range (l.take q.toNat).length).map fun i => ⟨(row (l.take q.toNat) i).f0, (row (l.take q.toNat) i).f1.take 3⟩, ?_, ⟨by simpa using hyl, fun x hx => ?_⟩⟩
  · refine Ev.congr (fun k => (if_pos h0).trans (if_pos h1)) (Ev.bind (Ev.now _) ?_)
    generalize l.take q.toNat = y at hyl hym
    refine loop_map (g := fun k i acc => downpourlaw04_few.l0 k acc y (y.length : Int) (i : Int) n l) y.length (fun i => ⟨(row y i).f0, (row y i).f1.take 3⟩) (fun i hi acc hacc hr => up ?_) (up ?_)
    · have e1 : wrap64 ((i : Int) + 1) = ((i + 1 : Nat) : Int) := wrap_lt (by omega) (by omega)
      have e2 : (row y i).f1.take (mn ((row y i).f1.length : Int) 3).toNat = (row y i).f1.take 3 := by
        unfold mn
        split
        · rfl
        · rw [Int.toNat_natCast, List.take_of_length_le (Nat.le_refl _), List.take_of_length_le (by omega)]
      have e3 : 0 ≤ mn ((row y i).f1.length : Int) 3 := by unfold mn; split <;> omega
      have e4 : mn ((row y i).f1.length : Int) 3 ≤ ((row y i).f1.length : Int) := by unfold mn; split <;> omega
      have c1 : (i : Int) < (y.length : Int) := Int.ofNat_lt.2 hi
      have c2 : (0 : Int) ≤ (i : Int) := Int.natCast_nonneg _
      have c3 : acc.length < 4398046511104 := by omega
      simp only [downpourlaw04_few.l0, rd_row]
      rw [e1, e2]
      exact Ev.congr (fun k => (if_pos c1).trans ((if_pos c2).trans ((if_pos c1).trans ((if_pos e3).trans ((if_pos e4).trans (if_pos c3)))))) hr
    · simp only [downpourlaw04_few.l0]
      exact Ev.congr (fun k => if_neg (Int.lt_irrefl _)) (Ev.now _)
  · obtain ⟨i, hi, rfl⟩ := List.mem_map.1 hx
    exact ⟨ok_take (hym _ (row_mem (List.mem_range.1 hi))) 3, by rw [List.length_take]; omega⟩

/-- A matrix that may be. -/
def MRt (n : Int) (l : List S25) : Prop := 0 ≤ n ∧ n ≤ 64 ∧ l.length ≤ 64 ∧ ∀ i, i < l.length → (row l i).f0 = n ∧ Rt n (row l i).f1

theorem right_mat {n : Int} {l : List S25} (h : Few l) : ∃ b, Ev (fun k => matrix_Right.f k n l) b ∧ (b = true ↔ MRt n l) := by
  have hl := h.1
  have hs : matrix_sized.f n = some (decide (0 ≤ n ∧ n ≤ 64)) := by
    unfold matrix_sized.f
    by_cases a : n ≥ 0
    · rw [if_pos a]; congr 1; rw [decide_eq_decide]; omega
    · rw [if_neg a, decide_eq_false (by omega)]
  unfold matrix_Right.f
  rw [hs]
  simp only [Option.bind_some]
  by_cases hn : 0 ≤ n ∧ n ≤ 64
  · rw [decide_eq_true hn]
    by_cases hl2 : (l.length : Int) ≤ 64
    · suffices H : ∃ t, Ev (fun k => api_Row_97_902007.l0 k l (l.length : Int) ((0 : Nat) : Int) n l) t ∧ (t ≥ 0 ↔ ¬ ∀ i, i < l.length → (row l i).f0 = n ∧ Rt n (row l i).f1) by
        obtain ⟨t, h1, h2⟩ := H
        have h3 : Ev (fun k => api_Row_97_901007.f k l n l) (decide (t ≥ 0)) := by
          unfold api_Row_97_901007.f api_Row_97_902007.f
          exact Ev.bind h1 (Ev.now _)
        refine ⟨!decide (t ≥ 0), Ev.congr (fun k => (if_pos rfl).trans (if_pos hl2)) (Ev.bind h3 (Ev.now _)), ?_⟩
        rw [Bool.not_eq_true', decide_eq_false_iff_not, h2, Classical.not_not]
        exact ⟨fun g => ⟨hn.1, hn.2, by omega, g⟩, fun g => g.2.2.2⟩
      refine loop_find (g := fun k i => api_Row_97_902007.l0 k l (l.length : Int) (i : Int) n l) l.length _ (fun i hi hp r hr => up ?_) (fun i hi hp => up ?_) (up ?_)
      · have e1 : wrap64 ((i : Int) + 1) = ((i + 1 : Nat) : Int) := wrap_lt (by omega) (by omega)
        have c1 : (i : Int) < (l.length : Int) := Int.ofNat_lt.2 hi
        have c2 : (0 : Int) ≤ (i : Int) := Int.natCast_nonneg _
        have hx := h.2 _ (row_mem hi)
        obtain ⟨b, hb, hb'⟩ := right_spec (n := (row l i).f0) hx.1 (by omega)
        obtain rfl : b = true := hb'.2 (by rw [hp.1]; exact hp.2)
        have hf : matrix_Right_1.f (row l i).f0 (row l i).f1 n l = some false := by
          unfold matrix_Right_1.f
          rw [if_pos hp.1, hb]; rfl
        simp only [api_Row_97_902007.l0, rd_row]
        rw [e1, hf]
        exact Ev.congr (fun k => (if_pos c1).trans ((if_pos c2).trans (if_pos c1))) (Ev.bind (Ev.now _) (Ev.congr (fun k => if_neg (by decide)) hr))
      · have c1 : (i : Int) < (l.length : Int) := Int.ofNat_lt.2 hi
        have c2 : (0 : Int) ≤ (i : Int) := Int.natCast_nonneg _
        have hx := h.2 _ (row_mem hi)
        have hf : matrix_Right_1.f (row l i).f0 (row l i).f1 n l = some true := by
          unfold matrix_Right_1.f
          by_cases he : (row l i).f0 = n
          · obtain ⟨b, hb, hb'⟩ := right_spec (n := (row l i).f0) hx.1 (by omega)
            have hbf : b = false := by
              cases b with
              | false => rfl
              | true => exact absurd ⟨he, by rw [← he]; exact hb'.1 rfl⟩ hp
            subst hbf
            rw [if_pos he, hb]; rfl
          · rw [if_neg he]
        simp only [api_Row_97_902007.l0, rd_row]
        rw [hf]
        exact Ev.congr (fun k => (if_pos c1).trans ((if_pos c2).trans (if_pos c1))) (Ev.bind (Ev.now _) (Ev.congr (fun k => if_pos rfl) (Ev.now _)))
      · simp only [api_Row_97_902007.l0]
        exact Ev.congr (fun k => if_neg (Int.lt_irrefl _)) (Ev.now _)
    · refine ⟨false, Ev.congr (fun k => (if_pos rfl).trans (if_neg hl2)) (Ev.now _), ⟨fun e => (by cases e), fun e => by have := e.2.2.1; omega⟩⟩
  · rw [decide_eq_false hn]
    exact ⟨false, Ev.congr (fun k => if_neg (by decide)) (Ev.now _), ⟨fun e => (by cases e), fun e => absurd ⟨e.1, e.2.1⟩ hn⟩⟩

theorem row_out {l : List S25} {i : Nat} (hi : ¬ i < l.length) : row l i = z25 := by
  unfold row; rw [List.getD_eq_getElem?_getD, List.getElem?_eq_none (by omega)]; rfl

theorem rows_eq_iff {a b : List S25} (hl : a.length = b.length) : (∀ i, i < a.length → (row a i).f0 = (row b i).f0 ∧ (row a i).f1 = (row b i).f1) ↔ a = b :=
  ⟨fun h => row_ext hl fun j hj => s25_eq.2 (h j hj), fun h => by subst h; exact fun _ _ => ⟨rfl, rfl⟩⟩

def Short (l : List S25) : Prop := l.length < 1000000 ∧ ∀ x ∈ l, x.f1.length < 1000000

theorem Few.short {l : List S25} (h : Few l) : Short l := ⟨by have := h.1; omega, fun x hx => by have := (h.2 x hx).2; omega⟩

theorem same_mat (n m : Int) {a b : List S25} (ha : Short a) : ∃ t, Ev (fun k => downpourref03_Same.f k n a m b) t ∧ (t = true ↔ n = m ∧ a = b) := by
  have hno : ∀ (hf : ∀ k, downpourref03_Same.f k n a m b = downpourref03_Same.j0 k true n a m b), Ev (fun k => downpourref03_Same.f k n a m b) false := fun hf =>
    Ev.congr hf (Ev.step (fun k => by simp only [downpourref03_Same.j0]; exact if_pos trivial) (Ev.now false))
  by_cases hn : n = m
  · by_cases hl : a.length = b.length
    · suffices H : ∃ t, Ev (fun k => downpourref03_Same.l0 k (a.length : Int) ((0 : Nat) : Int) n a m b) t ∧ (t = true ↔ (∀ i, i < a.length → (row a i).f0 = (row b i).f0 ∧ (row a i).f1 = (row b i).f1) ∧ true = true) by
        obtain ⟨t, h1, h2⟩ := H
        refine ⟨t, Ev.congr (f := fun k => downpourref03_Same.j0 k false n a m b) (fun k => ?_) (up ?_), by rw [h2, rows_eq_iff hl]; exact ⟨fun g => ⟨hn, g.1⟩, fun g => ⟨g.2, rfl⟩⟩⟩
        · unfold downpourref03_Same.f; rw [if_pos hn]; simp [hl]
        · simp only [downpourref03_Same.j0]
          exact Ev.congr (fun k => if_neg (by decide)) h1
      have hal := ha.1
      refine loop_all (g := fun k i => downpourref03_Same.l0 k (a.length : Int) (i : Int) n a m b) a.length _ true (fun i hi hp r hr => up ?_) (fun i hi hp => up ?_) (up ?_)
      · have e1 : wrap64 ((i : Int) + 1) = ((i + 1 : Nat) : Int) := wrap_lt (by omega) (by omega)
        have c1 : (i : Int) < (a.length : Int) := Int.ofNat_lt.2 hi
        have c3 : (i : Int) < (b.length : Int) := hl ▸ c1
        have c2 : (0 : Int) ≤ (i : Int) := Int.natCast_nonneg _
        have hs := same_spec (row a i).f0 (row b i).f0 (a := (row a i).f1) (b := (row b i).f1) (by have := ha.2 _ (row_mem hi); omega)
        rw [decide_eq_true hp] at hs
        simp only [downpourref03_Same.l0, rd_row]
        rw [e1]
        exact Ev.congr (fun k => (if_pos c1).trans ((if_pos c2).trans ((if_pos c1).trans (if_pos c3)))) (Ev.bind hs (Ev.congr (fun k => if_pos rfl) hr))
      · have c1 : (i : Int) < (a.length : Int) := Int.ofNat_lt.2 hi
        have c3 : (i : Int) < (b.length : Int) := hl ▸ c1
        have c2 : (0 : Int) ≤ (i : Int) := Int.natCast_nonneg _
        have hs := same_spec (row a i).f0 (row b i).f0 (a := (row a i).f1) (b := (row b i).f1) (by have := ha.2 _ (row_mem hi); omega)
        rw [decide_eq_false hp] at hs
        simp only [downpourref03_Same.l0, rd_row]
        exact Ev.congr (fun k => (if_pos c1).trans ((if_pos c2).trans ((if_pos c1).trans (if_pos c3)))) (Ev.bind hs (Ev.congr (fun k => if_neg (by decide)) (Ev.now _)))
      · simp only [downpourref03_Same.l0]
        exact Ev.congr (fun k => if_neg (Int.lt_irrefl _)) (Ev.now _)
    · refine ⟨false, hno fun k => ?_, ⟨fun e => (by cases e), fun e => absurd (by rw [e.2]) hl⟩⟩
      unfold downpourref03_Same.f; rw [if_pos hn]
      congr 1
      rw [bne_iff_ne]; exact_mod_cast hl
  · refine ⟨false, hno fun k => ?_, ⟨fun e => (by cases e), fun e => absurd e.1 hn⟩⟩
    unfold downpourref03_Same.f; rw [if_neg hn]

theorem same_mat_self (n : Int) {a : List S25} (ha : Short a) : Ev (fun k => downpourref03_Same.f k n a n a) true := by
  obtain ⟨t, h1, h2⟩ := same_mat n n (a := a) (b := a) ha
  obtain rfl : t = true := h2.2 ⟨rfl, rfl⟩
  exact h1

/-- The numbers below n. -/
def nums (n : Nat) : List Int := (List.range n).map fun (i : Nat) => (i : Int)

theorem nums_get {n i : Nat} (hi : i < n) : rd (nums n) (i : Int) = (i : Int) := by
  rw [rd_eq, Int.toNat_natCast, List.getD_eq_getElem?_getD]; unfold nums
  rw [List.getElem?_map, List.getElem?_range hi]; rfl

theorem numbers_spec {n : Int} (h0 : 0 ≤ n) (h1 : n ≤ 64) : Ev (fun k => matrix_numbers.f k n) (nums n.toNat) := by
  unfold matrix_numbers.f
  have hn : ((n.toNat : Nat) : Int) = n := by omega
  refine loop_map (g := fun k i acc => matrix_numbers.l0 k acc n (i : Int)) n.toNat (fun (i : Nat) => (i : Int)) (fun i hi acc hacc hr => up ?_) (up ?_)
  · have e1 : wrap64 ((i : Int) + 1) = ((i + 1 : Nat) : Int) := wrap_lt (by omega) (by omega)
    have c1 : (i : Int) < n := by omega
    have c2 : acc.length < 17592186044416 := by omega
    simp only [matrix_numbers.l0]
    rw [e1]
    exact Ev.congr (fun k => (if_pos c1).trans (if_pos c2)) hr
  · simp only [matrix_numbers.l0]
    exact Ev.congr (fun k => if_neg (by omega)) (Ev.now _)

theorem loop_acc {σ ρ : Type} {g : Nat → Nat → σ → Option ρ} (n : Nat) (S : Nat → σ) {r : ρ}
    (step : ∀ i, i < n → Ev (fun k => g k (i + 1) (S (i + 1))) r → Ev (fun k => g k i (S i)) r)
    (last : Ev (fun k => g k n (S n)) r) : Ev (fun k => g k 0 (S 0)) r := by
  have key : ∀ d i, i + d = n → Ev (fun k => g k i (S i)) r := by
    intro d
    induction d with
    | zero => intro i hi; obtain rfl : i = n := by omega
              exact last
    | succ d ih => intro i hi; exact step i (by omega) (ih (i + 1) (by omega))
  exact key n 0 (by omega)

/-- The places of a column's bits, among the first rows. -/
def colp (l : List S25) (i j : Nat) : List Int := ((List.range j).filter fun m => (val (row l m).f1).testBit i).map fun (m : Nat) => (m : Int)

theorem colp_succ (l : List S25) (i j : Nat) : colp l i (j + 1) = if (val (row l j).f1).testBit i = true then colp l i j ++ [(j : Int)] else colp l i j := by
  unfold colp
  rw [List.range_succ, List.filter_append, List.map_append]
  cases hb : (val (row l j).f1).testBit i <;> simp [hb]

theorem colp_mem (l : List S25) (i j m : Nat) : (m : Int) ∈ colp l i j ↔ m < j ∧ (val (row l m).f1).testBit i = true := by
  unfold colp
  rw [List.mem_map]
  constructor
  · rintro ⟨x, hx, e⟩
    obtain rfl : x = m := by omega
    rw [List.mem_filter, List.mem_range] at hx
    exact hx
  · rintro ⟨h1, h2⟩
    exact ⟨m, by rw [List.mem_filter, List.mem_range]; exact ⟨h1, h2⟩, rfl⟩

theorem colp_len (l : List S25) (i j : Nat) : (colp l i j).length ≤ j := by
  unfold colp
  rw [List.length_map]
  have := List.length_filter_le (fun m => (val (row l m).f1).testBit i) (List.range j)
  rwa [List.length_range] at this

/-- A column's bits. -/
def colb (l : List S25) (i : Nat) : List Int := (List.range l.length).map fun j => bitI (val (row l j).f1) i

/-- The row of a column. -/
def colr (l : List S25) (i : Nat) : S25 := ⟨(l.length : Int), words ((l.length + 63) / 64) (bn (colb l i))⟩

theorem column_spec {n : Int} {l : List S25} (hf : Few l) (h : MRt n l) {i : Nat} (hi : (i : Int) < n) : Ev (fun k => matrix_table_column.f k n l (i : Int)) ((l.length : Int), words ((l.length + 63) / 64) (bn (colb l i))) := by
  obtain ⟨_, _, hl, hrows⟩ := h
  unfold matrix_table_column.f
  refine loop_acc (g := fun k j acc => matrix_table_column.l0 k (i : Int) acc l (l.length : Int) (j : Int) n l) l.length (colp l i) (fun j hj hr => up ?_) (up ?_)
  · have e1 : wrap64 ((j : Int) + 1) = ((j + 1 : Nat) : Int) := wrap_lt (by omega) (by omega)
    have c1 : (j : Int) < (l.length : Int) := Int.ofNat_lt.2 hj
    have c2 : (0 : Int) ≤ (j : Int) := Int.natCast_nonneg _
    have c3 : (colp l i j).length < 17592186044416 := by have := colp_len l i j; omega
    have hx := hf.2 _ (row_mem hj)
    have hg := get_ok (n := (row l j).f0) hx.1 (by rw [(hrows j hj).1]; exact (hrows j hj).2) (i := i) (by rw [(hrows j hj).1]; exact hi)
    simp only [matrix_table_column.l0, rd_row]
    rw [e1, hg]
    refine Ev.congr (fun k => (if_pos c1).trans ((if_pos c2).trans (if_pos c1))) (Ev.bind (Ev.now _) ?_)
    rw [colp_succ] at hr
    by_cases hb : (val (row l j).f1).testBit i = true
    · rw [if_pos hb] at hr
      exact Ev.congr (fun k => (if_pos (by unfold bitI; rw [if_pos hb])).trans (if_pos c3)) hr
    · rw [if_neg hb] at hr
      exact Ev.congr (fun k => if_neg (by unfold bitI; rw [if_neg hb]; decide)) hr
  · simp only [matrix_table_column.l0]
    refine Ev.congr (fun k => if_neg (Int.lt_irrefl _)) ?_
    rcases of_spec (n := (l.length : Int)) (l := colp l i l.length) ⟨by omega, by omega⟩ (by have := colp_len l i l.length; omega) with ⟨_, ws, he, hok, hlen, hb⟩ | ⟨ha, _⟩
    · have e : val ws = bn (colb l i) := by
        apply Nat.eq_of_testBit_eq
        intro m
        rw [hb, testBit_bn]
        unfold colb
        rw [List.getD_eq_getElem?_getD, List.getElem?_map, decide_eq_decide, colp_mem]
        by_cases hm : m < l.length
        · rw [List.getElem?_range hm]
          simp only [Option.map_some, Option.getD_some, bitI]
          cases (val (row l m).f1).testBit i <;> simp [hm]
        · rw [List.getElem?_eq_none (by simp; omega)]
          simp [hm]
      have e2 : ws.length = (l.length + 63) / 64 := by omega
      have e3 := words_val hok
      rw [e, e2] at e3
      rw [e3]
      exact Ev.bind he (Ev.now _)
    · refine absurd (fun z hz => ?_) ha
      unfold colp at hz
      obtain ⟨m, hm, rfl⟩ := List.mem_map.1 hz
      rw [List.mem_filter, List.mem_range] at hm
      omega

theorem turn_ok {n : Int} {l : List S25} (hf : Few l) (h : MRt n l) : Ev (fun k => matrix_Turn.f k n l) ((l.length : Int), (List.range n.toNat).map (colr l), 0) := by
  have hn0 := h.1
  have hn1 := h.2.1
  have hll := h.2.2.1
  obtain ⟨b, hb, hb'⟩ := right_mat (n := n) hf
  obtain rfl : b = true := hb'.2 h
  unfold matrix_Turn.f
  refine Ev.bind hb (Ev.congr (fun k => if_pos rfl) (Ev.bind (numbers_spec hn0 hn1) (Ev.bind (a := ((l.length : Int), (List.range n.toNat).map (colr l))) ?_ (Ev.now _))))
  unfold matrix_each_int_79.f
  have hnl : (nums n.toNat).length = n.toNat := by unfold nums; simp
  rw [hnl]
  refine loop_map (g := fun k i acc => matrix_each_int_79.l0 k (nums n.toNat) ((n.toNat : Nat) : Int) (i : Int) () n l (l.length : Int) acc) n.toNat (colr l) (fun i hi acc hacc hr => up ?_) (up ?_)
  · have e1 : wrap64 ((i : Int) + 1) = ((i + 1 : Nat) : Int) := wrap_lt (by omega) (by omega)
    have c1 : (i : Int) < ((n.toNat : Nat) : Int) := Int.ofNat_lt.2 hi
    have c2 : (0 : Int) ≤ (i : Int) := Int.natCast_nonneg _
    have c3 : (i : Int) < ((nums n.toNat).length : Int) := by rw [hnl]; exact c1
    have c4 : acc.length < 4398046511104 := by omega
    have ht : Ev (fun k => matrix_Turn_1.f k (i : Int) () n l) ((l.length : Int), words ((l.length + 63) / 64) (bn (colb l i))) := by
      unfold matrix_Turn_1.f
      exact Ev.bind (column_spec hf h (by omega)) (Ev.now _)
    simp only [matrix_each_int_79.l0]
    rw [e1, nums_get hi]
    exact Ev.congr (fun k => (if_pos c1).trans ((if_pos c2).trans (if_pos c3))) (Ev.bind ht (Ev.congr (fun k => if_pos c4) hr))
  · simp only [matrix_each_int_79.l0]
    exact Ev.congr (fun k => if_neg (Int.lt_irrefl _)) (Ev.now _)

theorem turn_arg {n : Int} {l : List S25} (hf : Few l) (h : ¬ MRt n l) : Ev (fun k => matrix_Turn.f k n l) (0, [], 1) := by
  obtain ⟨b, hb, hb'⟩ := right_mat (n := n) hf
  have hbf : b = false := by
    cases b with
    | false => rfl
    | true => exact absurd (hb'.1 rfl) h
  subst hbf
  unfold matrix_Turn.f
  exact Ev.bind hb (Ev.congr (fun k => if_neg (by decide)) (Ev.now _))

theorem one_rowa {n : Int} (h0 : 0 ≤ n) (h1 : n ≤ 64) {i : Nat} (hi : (i : Int) < n) :
    ∃ ws, Ev (fun k => bitrow_Of.f k n [(i : Int)]) (n, ws, 0) ∧ ws = words ((n + 63) / 64).toNat (2 ^ i) ∧ Ok ws ∧ (ws.length : Int) = (n + 63) / 64 ∧ (∀ j, (val ws).testBit j = decide ((j : Int) ∈ [(i : Int)])) ∧ ∀ z ∈ [(i : Int)], 0 ≤ z ∧ z < n := by
  have hin : ∀ z ∈ [(i : Int)], 0 ≤ z ∧ z < n := fun z hz => by
    rw [List.mem_singleton] at hz; omega
  rcases of_spec (n := n) (l := [(i : Int)]) ⟨h0, by omega⟩ (by simp) with ⟨_, ws, he, hok, hlen, hb⟩ | ⟨ha, _⟩
  · have e : val ws = 2 ^ i := by
      apply Nat.eq_of_testBit_eq
      intro m
      rw [hb, Nat.testBit_two_pow, decide_eq_decide, List.mem_singleton]
      omega
    have e2 : ws.length = ((n + 63) / 64).toNat := by omega
    have e3 := words_val hok
    rw [e, e2] at e3
    exact ⟨ws, he, e3.symm, hok, hlen, hb, hin⟩
  · exact absurd hin ha

def oner (n : Int) (i : Nat) : S25 := ⟨n, words ((n + 63) / 64).toNat (2 ^ i)⟩

theorem sized_mat (n : Int) : matrix_sized.f n = some (decide (0 ≤ n ∧ n ≤ 64)) := by
  unfold matrix_sized.f
  by_cases a : n ≥ 0
  · rw [if_pos a]; congr 1; rw [decide_eq_decide]; omega
  · have e : decide (0 ≤ n ∧ n ≤ 64) = false := decide_eq_false fun g => a g.1
    rw [if_neg a, e]

theorem short_one {n : Int} (h1 : n ≤ 64) : Short ((List.range n.toNat).map (oner n)) := ⟨by simp; omega, fun x hx => by
  obtain ⟨i, _, rfl⟩ := List.mem_map.1 hx
  unfold oner; rw [length_words]; omega⟩

theorem short_turn {n : Int} {l : List S25} (h1 : n ≤ 64) (hl : l.length ≤ 64) : Short ((List.range n.toNat).map (colr l)) := ⟨by simp; omega, fun x hx => by
  obtain ⟨i, _, rfl⟩ := List.mem_map.1 hx
  unfold colr; rw [length_words]; omega⟩

theorem short_nil : Short [] := ⟨by decide, fun x hx => by simp at hx⟩

end Go.Proofs.YtfcedhejbnoinaaDoor.PureBit
