/- What the printed functions and references of layer 3 tell, of rows as numbers. -/

import Derived.Test.YtfcedhejbnoinaaDoorPureQPEMake
import Derived.Test.YtfcedhejbnoinaaDoorPureQPETell
namespace Go.Proofs.YtfcedhejbnoinaaDoor.PureBit
open Go Go.RowKit Go.Proofs.YtfcedhejbnoinaaDoor.PE Go.Proofs.YtfcedhejbnoinaaDoorW.PrintWords Go.Proofs.YtfcedhejbnoinaaDoorW.PrintLast Go.Proofs.YtfcedhejbnoinaaDoorW.PrintMore Go.Proofs.YtfcedhejbnoinaaDoor.Row

/-- A loop that appends one thing a round. -/
theorem loop_map {α ρ : Type} {g : Nat → Nat → List α → Option ρ} (n : Nat) (F : Nat → α) {r : ρ}
    (step : ∀ i, i < n → ∀ acc : List α, acc.length = i → Ev (fun k => g k (i + 1) (acc ++ [F i])) r → Ev (fun k => g k i acc) r)
    (last : Ev (fun k => g k n ((List.range n).map F)) r) : Ev (fun k => g k 0 []) r := by
  have key : ∀ d i, i + d = n → Ev (fun k => g k i ((List.range i).map F)) r := by
    intro d
    induction d with
    | zero => intro i hi; obtain rfl : i = n := by omega
              exact last
    | succ d ih =>
      intro i hi
      refine step i (by omega) _ (by simp) ?_
      have := ih (i + 1) (by omega)
      rwa [List.range_succ, List.map_append] at this
  simpa using key n 0 (by omega)

/-- A loop that looks for one place. -/
theorem loop_all {g : Nat → Nat → Option Bool} (n : Nat) (p : Nat → Prop) (c : Bool)
    (good : ∀ i, i < n → p i → ∀ r, Ev (fun k => g k (i + 1)) r → Ev (fun k => g k i) r)
    (bad : ∀ i, i < n → ¬ p i → Ev (fun k => g k i) false)
    (last : Ev (fun k => g k n) c) : ∃ t, Ev (fun k => g k 0) t ∧ (t = true ↔ (∀ i, i < n → p i) ∧ c = true) := by
  have key : ∀ d i, i + d = n → ∃ t, Ev (fun k => g k i) t ∧ (t = true ↔ (∀ j, i ≤ j → j < n → p j) ∧ c = true) := by
    intro d
    induction d with
    | zero =>
      intro i hi
      obtain rfl : i = n := by omega
      exact ⟨c, last, ⟨fun h => ⟨fun j h1 h2 => by omega, h⟩, fun h => h.2⟩⟩
    | succ d ih =>
      intro i hi
      by_cases hp : p i
      · obtain ⟨t, h1, h2⟩ := ih (i + 1) (by omega)
        refine ⟨t, good i (by omega) hp t h1, ?_⟩
        rw [h2]
        exact ⟨fun h => ⟨fun j h1 h2 => by
          rcases Nat.eq_or_lt_of_le h1 with rfl | h1
          · exact hp
          · exact h.1 j h1 h2, h.2⟩, fun h => ⟨fun j h1 h2 => h.1 j (by omega) h2, h.2⟩⟩
      · exact ⟨false, bad i (by omega) hp, ⟨fun h => (by cases h), fun h => absurd (h.1 i (Nat.le_refl _) (by omega)) hp⟩⟩
  obtain ⟨t, h1, h2⟩ := key n 0 (by omega)
  exact ⟨t, h1, by rw [h2]; exact ⟨fun h => ⟨fun i hi => h.1 i (Nat.zero_le _) hi, h.2⟩, fun h => ⟨fun i _ hi => h.1 i hi, h.2⟩⟩⟩

/-- A loop that looks for a place where something does not hold. -/
theorem loop_find {g : Nat → Nat → Option Int} (n : Nat) (p : Nat → Prop)
    (good : ∀ i, i < n → p i → ∀ r, Ev (fun k => g k (i + 1)) r → Ev (fun k => g k i) r)
    (bad : ∀ i, i < n → ¬ p i → Ev (fun k => g k i) (i : Int))
    (last : Ev (fun k => g k n) (-1)) : ∃ t, Ev (fun k => g k 0) t ∧ (t ≥ 0 ↔ ¬ ∀ i, i < n → p i) := by
  have key : ∀ d i, i + d = n → ∃ t, Ev (fun k => g k i) t ∧ (t ≥ 0 ↔ ¬ ∀ j, i ≤ j → j < n → p j) := by
    intro d
    induction d with
    | zero =>
      intro i hi
      obtain rfl : i = n := by omega
      exact ⟨-1, last, ⟨fun h => absurd h (by decide), fun h => absurd (fun j h1 h2 => by omega) h⟩⟩
    | succ d ih =>
      intro i hi
      by_cases hp : p i
      · obtain ⟨t, h1, h2⟩ := ih (i + 1) (by omega)
        refine ⟨t, good i (by omega) hp t h1, ?_⟩
        rw [h2]
        exact ⟨fun h g => h fun j h1 h2 => g j (by omega) h2, fun h g => h fun j h1 h2 => by
          rcases Nat.eq_or_lt_of_le h1 with rfl | h1
          · exact hp
          · exact g j h1 h2⟩
      · exact ⟨(i : Int), bad i (by omega) hp, ⟨fun _ h => hp (h i (Nat.le_refl _) (by omega)), fun _ => Int.natCast_nonneg _⟩⟩
  obtain ⟨t, h1, h2⟩ := key n 0 (by omega)
  exact ⟨t, h1, by rw [h2]; exact ⟨fun h g => h fun j _ hj => g j hj, fun h g => h fun j hj => g j (Nat.zero_le _) hj⟩⟩

/-- A row of a matrix. -/
def row (l : List S25) (i : Nat) : S25 := l.getD i z25

theorem rd_row (l : List S25) (i : Nat) : rd_T25 l (i : Int) = row l i := by unfold rd_T25 row; rw [Int.toNat_natCast]

theorem row_mem {l : List S25} {i : Nat} (hi : i < l.length) : row l i ∈ l := by
  unfold row; rw [List.getD_eq_getElem?_getD, List.getElem?_eq_getElem hi]; exact List.getElem_mem hi

theorem row_ext {a b : List S25} (hl : a.length = b.length) (h : ∀ j, j < a.length → row a j = row b j) : a = b := by
  apply List.ext_getElem hl
  intro j h1 h2
  have := h j h1
  unfold row at this
  rw [List.getD_eq_getElem?_getD, List.getD_eq_getElem?_getD, List.getElem?_eq_getElem h1, List.getElem?_eq_getElem h2] at this
  simpa using this

theorem s25_eq {a b : S25} : a = b ↔ a.f0 = b.f0 ∧ a.f1 = b.f1 := by
  cases a; cases b; simp

/-- Rows that may stand in a program's memory, few and short. -/
def Few (l : List S25) : Prop := l.length ≤ 66 ∧ ∀ x ∈ l, Ok x.f1 ∧ x.f1.length ≤ 3

/-- A matrix that may be. -/
def MRt (n : Int) (l : List S25) : Prop := 0 ≤ n ∧ n ≤ 64 ∧ l.length ≤ 64 ∧ ∀ i, i < l.length → (row l i).f0 = n ∧ Rt n (row l i).f1

theorem row_out {l : List S25} {i : Nat} (hi : ¬ i < l.length) : row l i = z25 := by
  unfold row; rw [List.getD_eq_getElem?_getD, List.getElem?_eq_none (by omega)]; rfl

theorem rows_eq_iff {a b : List S25} (hl : a.length = b.length) : (∀ i, i < a.length → (row a i).f0 = (row b i).f0 ∧ (row a i).f1 = (row b i).f1) ↔ a = b :=
  ⟨fun h => row_ext hl fun j hj => s25_eq.2 (h j hj), fun h => by subst h; exact fun _ _ => ⟨rfl, rfl⟩⟩

def Short (l : List S25) : Prop := l.length < 1000000 ∧ ∀ x ∈ l, x.f1.length < 1000000

theorem Few.short {l : List S25} (h : Few l) : Short l := ⟨by have := h.1; omega, fun x hx => by have := (h.2 x hx).2; omega⟩

/-- The numbers below n. -/
def nums (n : Nat) : List Int := (List.range n).map fun (i : Nat) => (i : Int)

theorem nums_get {n i : Nat} (hi : i < n) : rd (nums n) (i : Int) = (i : Int) := by
  rw [rd_eq, Int.toNat_natCast, List.getD_eq_getElem?_getD]; unfold nums
  rw [List.getElem?_map, List.getElem?_range hi]; rfl

theorem loop_acc {σ ρ : Type} {g : Nat → Nat → σ → Option ρ} (n : Nat) (S : Nat → σ) {r : ρ}
    (step : ∀ i, i < n → Ev (fun k => g k (i + 1) (S (i + 1))) r → Ev (fun k => g k i (S i)) r)
    (last : Ev (fun k => g k n (S n)) r) : Ev (fun k => g k 0 (S 0)) r := by
  have key : ∀ d i, i + d = n → Ev (fun k => g k i (S i)) r := by
    intro d
    induction d with
    | zero => intro i hi; obtain rfl : i = n := by omega
              exact last
    | succ d ih => intro i hi; exact step i (by omega) (ih (i + 1) (by omega))
  exact key n 0 (by omega)

/-- The places of a column's bits, among the first rows. -/
def colp (l : List S25) (i j : Nat) : List Int := ((List.range j).filter fun m => (val (row l m).f1).testBit i).map fun (m : Nat) => (m : Int)

theorem colp_succ (l : List S25) (i j : Nat) : colp l i (j + 1) = if (val (row l j).f1).testBit i = true then colp l i j ++ [(j : Int)] else colp l i j := by
  unfold colp
  rw [List.range_succ, List.filter_append, List.map_append]
  cases hb : (val (row l j).f1).testBit i <;> simp [hb]

theorem colp_mem (l : List S25) (i j m : Nat) : (m : Int) ∈ colp l i j ↔ m < j ∧ (val (row l m).f1).testBit i = true := by
  unfold colp
  rw [List.mem_map]
  constructor
  · rintro ⟨x, hx, e⟩
    obtain rfl : x = m := by omega
    rw [List.mem_filter, List.mem_range] at hx
    exact hx
  · rintro ⟨h1, h2⟩
    exact ⟨m, by rw [List.mem_filter, List.mem_range]; exact ⟨h1, h2⟩, rfl⟩

theorem colp_len (l : List S25) (i j : Nat) : (colp l i j).length ≤ j := by
  unfold colp
  rw [List.length_map]
  have := List.length_filter_le (fun m => (val (row l m).f1).testBit i) (List.range j)
  rwa [List.length_range] at this

/-- A column's bits. -/
def colb (l : List S25) (i : Nat) : List Int := (List.range l.length).map fun j => bitI (val (row l j).f1) i

/-- The row of a column. -/
def colr (l : List S25) (i : Nat) : S25 := ⟨(l.length : Int), words ((l.length + 63) / 64) (bn (colb l i))⟩

def oner (n : Int) (i : Nat) : S25 := ⟨n, words ((n + 63) / 64).toNat (2 ^ i)⟩

theorem short_one {n : Int} (h1 : n ≤ 64) : Short ((List.range n.toNat).map (oner n)) := ⟨by simp; omega, fun x hx => by
  obtain ⟨i, _, rfl⟩ := List.mem_map.1 hx
  unfold oner; rw [length_words]; omega⟩

theorem short_turn {n : Int} {l : List S25} (h1 : n ≤ 64) (hl : l.length ≤ 64) : Short ((List.range n.toNat).map (colr l)) := ⟨by simp; omega, fun x hx => by
  obtain ⟨i, _, rfl⟩ := List.mem_map.1 hx
  unfold colr; rw [length_words]; omega⟩

theorem short_nil : Short [] := ⟨by decide, fun x hx => by simp at hx⟩

end Go.Proofs.YtfcedhejbnoinaaDoor.PureBit
