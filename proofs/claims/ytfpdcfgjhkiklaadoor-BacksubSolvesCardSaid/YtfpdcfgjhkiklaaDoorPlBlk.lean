/- Blocks of bytes, as rows of whole numbers. No program in sight. -/
import Derived.Test.YtfpdcfgjhkiklaaDoorPmTab
set_option linter.unusedSimpArgs false
set_option linter.unusedVariables false
set_option autoImplicit false
namespace Go.PM.Blk
noncomputable section
open Go Go.PM

def ByteOk (l : List Int) : Prop := ∀ x, x ∈ l → 0 ≤ x ∧ x < 256
theorem bytes_len (s : ByteArray) : (bytesL s).length = s.size := by unfold bytesL; rw [List.length_map, Array.length_toList]; rfl
theorem bytes_ok (s : ByteArray) : ByteOk (bytesL s) := fun x h => by
  unfold bytesL at h
  obtain ⟨c, _, rfl⟩ := List.mem_map.1 h
  have := c.toNat_lt
  omega
theorem txt_bytes (s : ByteArray) : txt (bytesL s) = s := by
  unfold txt bytesL
  rw [List.map_map]
  have : (fun x : Int => UInt8.ofNat x.toNat) ∘ (fun x : UInt8 => (x.toNat : Int)) = id := by
    funext c
    simp
  rw [this, List.map_id]
theorem bytes_txt {l : List Int} (h : ByteOk l) : bytesL (txt l) = l := by
  unfold txt bytesL
  simp only [List.map_map]
  conv => rhs; rw [← List.map_id l]
  refine List.map_congr_left fun x hx => ?_
  have := h x hx
  simp
  omega
theorem txt_size (l : List Int) : (txt l).size = l.length := by
  unfold txt
  show (List.toArray _).size = _
  simp
theorem bytes_inj {a b : ByteArray} (h : bytesL a = bytesL b) : a = b := by rw [← txt_bytes a, h, txt_bytes]
theorem ix_byte (s : ByteArray) (j : Nat) (h : j < s.size) : ∃ c, ix s.data.toList (j : Int) = some c ∧ ((c.toNat : Nat) : Int) = (bytesL s).getD j 0 := by
  have hj : j < s.data.toList.length := by rw [Array.length_toList]; exact h
  refine ⟨s.data.toList[j], (ix_nat _ j).trans (List.getElem?_eq_getElem hj), ?_⟩
  unfold bytesL
  rw [List.getD_eq_getElem?_getD, List.getElem?_map, List.getElem?_eq_getElem hj]
  rfl

theorem bv8 {x : Int} (h0 : 0 ≤ x) (h1 : x < 256) : (BitVec.ofInt 8 x).toNat = x.toNat := by
  rw [BitVec.toNat_ofInt]
  rw [Int.emod_eq_of_lt h0 (by simpa using h1)]
theorem x8_nat {x y : Int} (h0 : 0 ≤ x) (h1 : x < 256) (g0 : 0 ≤ y) (g1 : y < 256) : xorI .u8 x y = ((x.toNat ^^^ y.toNat : Nat) : Int) := by
  have h : xorI .u8 x y = IntKind.u8.wrap ((BitVec.ofInt 8 x ^^^ BitVec.ofInt 8 y).toNat : Int) := rfl
  rw [h, BitVec.toNat_xor, bv8 h0 h1, bv8 g0 g1]
  have := Nat.xor_lt_two_pow (n := 8) (x := x.toNat) (y := y.toNat) (by omega) (by omega)
  exact wrap_u8 (by omega) (by omega)
theorem x8_range {x y : Int} (h0 : 0 ≤ x) (h1 : x < 256) (g0 : 0 ≤ y) (g1 : y < 256) : 0 ≤ xorI .u8 x y ∧ xorI .u8 x y < 256 := by
  rw [x8_nat h0 h1 g0 g1]
  have := Nat.xor_lt_two_pow (n := 8) (x := x.toNat) (y := y.toNat) (by omega) (by omega)
  omega
theorem x8_zero {x : Int} (h0 : 0 ≤ x) (h1 : x < 256) : xorI .u8 0 x = x ∧ xorI .u8 x 0 = x := by
  rw [x8_nat (by omega) (by omega) h0 h1, x8_nat h0 h1 (by omega) (by omega)]
  simp; omega
theorem x8_self {x : Int} (h0 : 0 ≤ x) (h1 : x < 256) : xorI .u8 x x = 0 := by rw [x8_nat h0 h1 h0 h1]; simp

/-- A block xor another one. -/
def xbI (a b : List Int) : List Int := a.zipWith (fun x y => xorI .u8 x y) b
noncomputable def xb : List Int → List Int → List Int := Classical.choose (⟨xbI, rfl⟩ : ∃ f, f = xbI)
theorem xb_eq : xb = xbI := Classical.choose_spec (⟨xbI, rfl⟩ : ∃ f, f = xbI)
theorem xb_len (a b : List Int) : (xb a b).length = min a.length b.length := by rw [xb_eq]; exact List.length_zipWith
theorem xb_ok {a b : List Int} (ha : ByteOk a) (hb : ByteOk b) : ByteOk (xb a b) := by
  rw [xb_eq]
  unfold xbI
  intro x hx
  obtain ⟨i, hi, rfl⟩ := List.getElem_of_mem hx
  rw [List.length_zipWith] at hi
  rw [List.getElem_zipWith]
  have h1 := ha _ (List.getElem_mem (by omega : i < a.length))
  have h2 := hb _ (List.getElem_mem (by omega : i < b.length))
  exact x8_range h1.1 h1.2 h2.1 h2.2
theorem xb_getD {a b : List Int} {i : Nat} (h : i < a.length) (h2 : i < b.length) : (xb a b).getD i 0 = xorI .u8 (a.getD i 0) (b.getD i 0) := by
  rw [xb_eq]
  unfold xbI
  rw [List.getD_eq_getElem?_getD, List.getElem?_zipWith, List.getElem?_eq_getElem h, List.getElem?_eq_getElem h2, List.getD_eq_getElem?_getD, List.getD_eq_getElem?_getD, List.getElem?_eq_getElem h, List.getElem?_eq_getElem h2]
  rfl
theorem ext_getD {a b : List Int} (hl : a.length = b.length) (h : ∀ i, i < a.length → a.getD i 0 = b.getD i 0) : a = b := by
  refine List.ext_getElem hl fun i h1 h2 => ?_
  have := h i h1
  rwa [List.getD_eq_getElem?_getD, List.getD_eq_getElem?_getD, List.getElem?_eq_getElem h1, List.getElem?_eq_getElem h2] at this
theorem getD_ok {a : List Int} (ha : ByteOk a) (i : Nat) : 0 ≤ a.getD i 0 ∧ a.getD i 0 < 256 := by
  rw [List.getD_eq_getElem?_getD]
  cases h : a[i]? with
  | none => simp
  | some x => exact ha x (List.mem_of_getElem? h)
def zb (n : Nat) : List Int := List.replicate n 0
theorem zb_ok (n : Nat) : ByteOk (zb n) := fun x h => by rw [List.eq_of_mem_replicate h]; omega
theorem zb_getD (n i : Nat) : (zb n).getD i 0 = 0 := by
  unfold zb
  rw [List.getD_eq_getElem?_getD, List.getElem?_replicate]
  split <;> rfl
theorem xb_self {a : List Int} (ha : ByteOk a) : xb a a = zb a.length := by
  refine ext_getD (by rw [xb_len]; unfold zb; simp) fun i h => ?_
  rw [xb_len, Nat.min_self] at h
  have := getD_ok ha i
  rw [xb_getD h h, zb_getD, x8_self this.1 this.2]
theorem xb_zero {a : List Int} (ha : ByteOk a) : xb a (zb a.length) = a := by
  have hz : (zb a.length).length = a.length := by unfold zb; simp
  refine ext_getD (by rw [xb_len, hz]; simp) fun i h => ?_
  rw [xb_len, hz, Nat.min_self] at h
  have := getD_ok ha i
  rw [xb_getD h (by omega), zb_getD, (x8_zero this.1 this.2).2]
theorem zero_xb {a : List Int} (ha : ByteOk a) : xb (zb a.length) a = a := by
  have hz : (zb a.length).length = a.length := by unfold zb; simp
  refine ext_getD (by rw [xb_len, hz]; simp) fun i h => ?_
  rw [xb_len, hz, Nat.min_self] at h
  have := getD_ok ha i
  rw [xb_getD (by omega) h, zb_getD, (x8_zero this.1 this.2).1]

/-- Blocks that may be summed. -/
def bokI (n : Int) (l : List ByteArray) : Bool := decide (0 ≤ n) && decide (n ≤ 64) && decide (l.length ≤ 64) && l.all fun s => decide ((s.size : Int) = n)
noncomputable def bok : Int → List ByteArray → Bool := Classical.choose (⟨bokI, rfl⟩ : ∃ f, f = bokI)
theorem bok_eq : bok = bokI := Classical.choose_spec (⟨bokI, rfl⟩ : ∃ f, f = bokI)
theorem bok_iff {n : Int} {l : List ByteArray} : bok n l = true ↔ (0 ≤ n ∧ n ≤ 64) ∧ l.length ≤ 64 ∧ ∀ s, s ∈ l → (s.size : Int) = n := by rw [bok_eq]; unfold bokI; simp [and_assoc]
def errB (n : Int) (l : List ByteArray) : Int := if bok n l = true then 0 else 2
/-- Sums. -/
def sumL (a : List Int) (l : List ByteArray) : List Int := l.foldl (fun a s => xb a (bytesL s)) a
def sumI (n : Int) (l : List ByteArray) : List Int := sumL (zb n.toNat) l
noncomputable def sumS : Int → List ByteArray → List Int := Classical.choose (⟨sumI, rfl⟩ : ∃ f, f = sumI)
theorem sumS_eq : sumS = sumI := Classical.choose_spec (⟨sumI, rfl⟩ : ∃ f, f = sumI)
theorem sumL_ok : ∀ {l : List ByteArray} {a : List Int}, ByteOk a → ByteOk (sumL a l)
  | [], a, h => h
  | s :: l, a, h => sumL_ok (l := l) (xb_ok h (bytes_ok s))
theorem sumL_len : ∀ {l : List ByteArray} {a : List Int}, (∀ s, s ∈ l → s.size = a.length) → (sumL a l).length = a.length
  | [], a, h => rfl
  | s :: l, a, h => by
    have e : (xb a (bytesL s)).length = a.length := by rw [xb_len, bytes_len, h s List.mem_cons_self, Nat.min_self]
    show (sumL (xb a (bytesL s)) l).length = _
    rw [sumL_len (l := l) fun t ht => by rw [e]; exact h t (List.mem_cons_of_mem _ ht), e]
theorem sum_ok (n : Int) (l : List ByteArray) : ByteOk (sumS n l) := by rw [sumS_eq]; exact sumL_ok (zb_ok _)
theorem sum_len {n : Int} {l : List ByteArray} (h : bok n l = true) : ((sumS n l).length : Int) = n := by
  obtain ⟨⟨h0, h1⟩, h2, h3⟩ := bok_iff.1 h
  have hz : (zb n.toNat).length = n.toNat := by unfold zb; simp
  rw [sumS_eq]
  unfold sumI
  rw [sumL_len fun s hs => by have := h3 s hs; omega]
  omega
/-- All bytes are 0. -/
def noughtI (s : ByteArray) : Bool := decide (∀ x, x ∈ bytesL s → x = 0)
noncomputable def nought : ByteArray → Bool := Classical.choose (⟨noughtI, rfl⟩ : ∃ f, f = noughtI)
theorem nought_eq : nought = noughtI := Classical.choose_spec (⟨noughtI, rfl⟩ : ∃ f, f = noughtI)
theorem nought_iff {s : ByteArray} : nought s = true ↔ bytesL s = zb s.size := by
  rw [nought_eq]
  unfold noughtI zb
  rw [decide_eq_true_eq, ← bytes_len]
  constructor
  · intro h; exact List.eq_replicate_iff.2 ⟨rfl, h⟩
  · intro h x hx; rw [h] at hx; exact List.eq_of_mem_replicate hx
theorem eqS_iff {a b : ByteArray} : eqS a b = true ↔ a = b := by
  unfold eqS
  rw [beq_iff_eq, ByteArray.toList_eq, ByteArray.toList_eq]
  constructor
  · intro h
    refine bytes_inj ?_
    unfold bytesL
    rw [h]
  · rintro rfl; rfl
theorem eqS_decide (a b : ByteArray) : eqS a b = decide (a = b) := by
  by_cases h : a = b
  · rw [eqS_iff.2 h, decide_eq_true h]
  · rw [decide_eq_false h, Bool.eq_false_iff]; exact fun g => h (eqS_iff.1 g)
end
end Go.PM.Blk
