/- Whatever a law's argument reads as, as data, is a value told by its kind: for integers, bools, strings, slices and structs of these. -/
import Derived.Test.YtfcedhejbnoinaaDoorWWords
import Derived.Deep.Slices
import Derived.ChangeArms
import Derived.ChangeShapes
import Derived.WideShapes
import Derived.RowKit
namespace Go.Proofs.YtfcedhejbnoinaaDoor.Opens
open Go.RowKit Go.ChangeShapes Go.WideShapes Go.Deep Go.Proofs.YtfcedhejbnoinaaDoorW.PrintWords

/-- What reads as data of type t in W is an x that kind d tells, and Q holds of it. -/
def Opens (P : Program) (W : World) {α : Type} (d : Kd α) (t : TypeId) (Q : α → Prop) : Prop :=
  ∀ {H : Type} (enc : TypeId × Value → H) (fuel : Nat) (cs : List Value) (y : DataW H × List MemPlace),
    DataW.trod enc P W 0 (fun _ => true) true fuel t cs = some y → ∃ x : α, d.K W x cs ∧ Q x

theorem opens_int {P : Program} {W : World} {t : TypeId} {k : IntKind} (ht : P.underlying t = some (.int k)) : Opens P W (Kd.int k) t (fun x => (Lit.int k x).wf = true) :=
  fun enc fuel cs y h => by obtain ⟨n, rfl, _, hw⟩ := DataW.trod_int ht h; exact ⟨n, rfl, hw⟩
theorem opens_bool {P : Program} {W : World} {t : TypeId} (ht : P.underlying t = some .bool) : Opens P W Kd.bool t (fun _ => True) :=
  fun enc fuel cs y h => by obtain ⟨n, rfl, _⟩ := DataW.trod_bool ht h; exact ⟨n, rfl, trivial⟩
theorem opens_string {P : Program} {W : World} {t : TypeId} (ht : P.underlying t = some .string) : Opens P W Kd.string t (fun s => s.size ≤ maxLen) :=
  fun enc fuel cs y h => by obtain ⟨n, rfl, _, hw⟩ := DataW.trod_string ht h; exact ⟨n, rfl, hw⟩

theorem cells_at {W : World} {a : Addr} {n : Nat} {cs : List Value} (h : W.cells? 0 a n = some cs) : cs.length = n ∧ ∀ i u, cs[i]? = some u → W.cell? (a.add i) = some u := by
  obtain ⟨_, hl, hat⟩ := World.cells?_some h
  refine ⟨hl, fun i u hu => ?_⟩
  have hi := (List.getElem?_eq_some_iff.1 hu).1
  rw [hat i (by omega), hu]

theorem opens_slice {P : Program} {W : World} {α : Type} {d : Kd α} {t e : TypeId} {Q : α → Prop} (ht : P.underlying t = some (.slice e)) (hs : P.cellsOf e = d.sz) (ho : Opens P W d e Q) :
    Opens P W (Kd.slice e d) t (fun xs => xs.length ≤ maxLen ∧ ∀ x, x ∈ xs → Q x) := fun enc fuel cs y h => by
  rcases open_slice ht h with ⟨rfl, _⟩ | ⟨a, len, cap, m, n, D, Pl, rfl, _, hl, hm, hmm, _, hi⟩
  · exact ⟨[], ⟨none, 0, rfl, Nat.le_refl _, ⟨rfl, Nat.zero_le _, fun hp => absurd hp (Nat.lt_irrefl _)⟩⟩, Nat.zero_le _, fun x hx => by cases hx⟩
  · rw [if_pos rfl] at hmm
    subst hmm
    have key : ∀ k, k ≤ len → ∃ xs : List α, xs.length = k ∧ ∀ j x, xs[j]? = some x → (∃ c, W.cells? 0 (a.add (j * d.sz)) d.sz = some c ∧ d.K W x c) ∧ Q x := by
      intro k
      induction k with
      | zero => exact fun _ => ⟨[], rfl, fun j x hx => by simp at hx⟩
      | succ k ih =>
        intro hk
        obtain ⟨xs, hlen, hx⟩ := ih (by omega)
        obtain ⟨c, hc, hd⟩ := hi k (by omega)
        rw [hs] at hc
        obtain ⟨x, hK, hQ⟩ := ho enc n c _ hd
        refine ⟨xs ++ [x], by simp [hlen], fun j z hz => ?_⟩
        rcases Nat.lt_or_ge j xs.length with hj | hj
        · rw [List.getElem?_append_left hj] at hz
          exact hx j z hz
        · have hj' : j = xs.length := by
            have := (List.getElem?_eq_some_iff.1 hz).1
            rw [List.length_append, List.length_singleton] at this
            omega
          subst hj'
          obtain rfl : x = z := by simpa using hz
          rw [hlen]
          exact ⟨⟨c, hc, hK⟩, hQ⟩
    obtain ⟨xs, hlen, hx⟩ := key len (Nat.le_refl _)
    subst hlen
    refine ⟨xs, ⟨some a, m, rfl, hl, ⟨rfl, Nat.le_trans hl hm, fun _ => ⟨a, rfl, fun j p hp => ?_⟩⟩⟩, Nat.le_trans hl hm, fun x hm => ?_⟩
    · obtain ⟨⟨c, hc, hK⟩, _⟩ := hx j p hp
      obtain ⟨h1, h2⟩ := cells_at hc
      refine ⟨c, h1, hK, fun i u hu => ?_⟩
      have := h2 i u hu
      rwa [Go.Deep.add_add] at this
    · obtain ⟨j, hj⟩ := List.getElem?_of_mem hm
      exact (hx j x hj).2

/-- A structure's fields, one behind the other. -/
theorem opens_fields {P : Program} {W : World} {α : Type} {d : Kd α} {t : TypeId} {fs : Array Field} {Q : α → Prop} (ht : P.underlying t = some (.struct fs))
    (h : ∀ {H : Type} (enc : TypeId × Value → H) (n : Nat) (cs : List Value), cs.length = P.cellsOf t → (∀ (i : Nat) (f : Field), fs[i]? = some f → ∃ y, DataW.trod enc P W 0 (fun _ => true) true n f.type ((cs.drop f.offset).take (P.cellsOf f.type)) = some y) → ∃ x : α, d.K W x cs ∧ Q x) :
    Opens P W d t Q := fun enc fuel cs y hd => by
  obtain ⟨xs, n, _, _, hl, hxl, hf⟩ := DataW.trod_struct ht hd
  refine h enc n cs hl fun i f hi => ?_
  have hi' := (Array.getElem?_eq_some_iff.1 hi).1
  exact ⟨_, (hf i f hi).trans (List.getElem?_eq_getElem (by omega))⟩

theorem split_at (cs : List Value) (o k : Nat) : cs.drop o = (cs.drop o).take k ++ cs.drop (o + k) := by
  rw [← List.drop_drop]; exact (List.take_append_drop k _).symm
theorem split_last {cs : List Value} {o k : Nat} (h : cs.length = o + k) : cs.drop o = (cs.drop o).take k := by
  rw [List.take_of_length_le]; rw [List.length_drop]; omega

/-- An argument of the law. -/
theorem Opens.arg {P : Program} {W : World} {α : Type} {d : Kd α} {t : TypeId} {Q : α → Prop} (h : Opens P W d t Q) {H : Type} {enc : TypeId × Value → H} {v : Value} {y : DataW H} {p : List MemPlace}
    (hv : DataW.Trod enc P W 0 (fun _ => true) true t v y p) : ∃ x : α, d.K W x v.cells.toList ∧ Q x := by
  obtain ⟨fuel, hf⟩ := hv
  exact h enc fuel _ _ hf

end Go.Proofs.YtfcedhejbnoinaaDoor.Opens
