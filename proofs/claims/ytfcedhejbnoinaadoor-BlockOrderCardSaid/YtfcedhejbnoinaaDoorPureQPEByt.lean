/- Blocks' bytes as numbers; what block.Xor tells. -/
import Derived.Test.YtfcedhejbnoinaaDoorPEx3
import Derived.Test.YtfcedhejbnoinaaDoorPureQPEBlk
import Derived.Test.YtfcedhejbnoinaaDoorVCopy
namespace Go.Proofs.YtfcedhejbnoinaaDoor.PureBit
open Go Go.RowKit Go.Proofs.YtfcedhejbnoinaaDoor.PE Go.Proofs.YtfcedhejbnoinaaDoorW.PrintWords Go.Proofs.YtfcedhejbnoinaaDoorW.PrintLast Go.Proofs.YtfcedhejbnoinaaDoorW.PrintMore Go.Proofs.YtfcedhejbnoinaaDoor.Row Go.Proofs.YtfcedhejbnoinaaDoor.Bits Go.Proofs.YtfcedhejbnoinaaDoor.Pop

theorem xor_u8 {a b : Nat} (ha : a < 256) (hb : b < 256) : X8 (a : Int) (b : Int) = ((a ^^^ b : Nat) : Int) := by
  have ha' : a % 2 ^ IntKind.u8.bits = a := Nat.mod_eq_of_lt ha
  have hb' : b % 2 ^ IntKind.u8.bits = b := Nat.mod_eq_of_lt hb
  have hx : a ^^^ b < 256 := Nat.xor_lt_two_pow (n := 8) ha hb
  unfold X8
  simp only [bits, BitVec.ofInt_natCast, BitVec.toNat_xor, BitVec.toNat_ofNat, ha', hb']
  simp only [IntKind.wrap, IntKind.bits, IntKind.signed]
  simp
  omega
/-- A block's byte. -/
def byt (s : ByteArray) (j : Nat) : Nat := (bt s (j : Int)).toNat
theorem byt_eq (s : ByteArray) (j : Nat) : bt s (j : Int) = ((byt s j : Nat) : Int) := by unfold byt; have := (bt_range s (j : Int)).1; omega
theorem byt_lt (s : ByteArray) (j : Nat) : byt s j < 256 := by unfold byt; have := bt_range s (j : Int); omega
/-- A byte of the xor of those blocks that a number names. -/
def pkv (l : List ByteArray) (v j : Nat) : Nat → Nat
  | 0 => 0
  | n + 1 => if v.testBit n = true then pkv l v j n ^^^ byt (blk l (n : Int)) j else pkv l v j n
theorem pkv_lt (l : List ByteArray) (v j n : Nat) : pkv l v j n < 256 := by
  induction n with
  | zero => rw [pkv]; omega
  | succ n ih =>
    rw [pkv]
    split
    · exact Nat.xor_lt_two_pow (n := 8) ih (byt_lt _ _)
    · exact ih
theorem pkb_pkv (l : List ByteArray) (v j n : Nat) : pkb l (plc v n) j = ((pkv l v j n : Nat) : Int) := by
  induction n with
  | zero => rfl
  | succ n ih =>
    rw [plc_succ, pkv]
    by_cases hv : v.testBit n = true
    · rw [if_pos hv, if_pos hv, pkb_snoc, ih, byt_eq, xor_u8 (pkv_lt _ _ _ _) (byt_lt _ _)]
    · rw [if_neg hv, if_neg hv, List.append_nil, ih]
theorem pkv_xor (l : List ByteArray) (u v j n : Nat) : pkv l (u ^^^ v) j n = pkv l u j n ^^^ pkv l v j n := by
  induction n with
  | zero => rw [pkv, pkv, pkv, Nat.xor_self]
  | succ n ih =>
    rw [pkv, pkv, pkv, ih, Nat.testBit_xor]
    generalize pkv l u j n = p
    generalize pkv l v j n = q
    generalize byt (blk l (n : Int)) j = b
    have e1 : p ^^^ q ^^^ b = p ^^^ (q ^^^ b) := Nat.xor_assoc _ _ _
    have e2 : p ^^^ q ^^^ b = (p ^^^ b) ^^^ q := by rw [Nat.xor_assoc, Nat.xor_comm q b, ← Nat.xor_assoc]
    have e3 : p ^^^ q = (p ^^^ b) ^^^ (q ^^^ b) := by
      rw [Nat.xor_assoc, Nat.xor_comm b (q ^^^ b), Nat.xor_assoc, Nat.xor_self, Nat.xor_zero]
    cases u.testBit n <;> cases v.testBit n <;> simp
    · exact e1
    · exact e2
    · exact e3
theorem pkv_zero (l : List ByteArray) (j n : Nat) : pkv l 0 j n = 0 := by
  induction n with
  | zero => rfl
  | succ n ih => rw [pkv, ih, Nat.zero_testBit]; rfl

theorem bt_strOf {xs : List Int} {j : Nat} (hj : j < xs.length) (h0 : 0 ≤ xs.getD j 0) (h1 : xs.getD j 0 < 256) : bt (strOfNums xs) (j : Int) = xs.getD j 0 := by
  have hsz : (strOfNums xs).size = xs.length := strOfNums_size xs
  simp only [bt, Int.toNat_natCast]
  rw [dif_pos (by rw [hsz]; exact hj)]
  have e : xs.getD j 0 = xs[j] := by rw [List.getD_eq_getElem?_getD, List.getElem?_eq_getElem hj]; rfl
  rw [e] at h0 h1 ⊢
  show ((((xs.map fun n => UInt8.ofNat n.toNat).toArray)[j]'(by simpa using hj)).toNat : Int) = xs[j]
  simp only [List.getElem_toArray, List.getElem_map, UInt8.toNat_ofNat']
  omega

/-- The xor of all blocks' bytes at a place. -/
def axor (l : List ByteArray) (j : Nat) : Nat := l.foldl (fun a s => a ^^^ byt s j) 0
theorem axor_from (l : List ByteArray) (j a : Nat) : l.foldl (fun a s => a ^^^ byt s j) a = a ^^^ axor l j := by
  induction l generalizing a with
  | nil => simp [axor]
  | cons s l ih =>
    unfold axor
    rw [List.foldl_cons, List.foldl_cons, ih, ih (0 ^^^ byt s j), Nat.zero_xor, Nat.xor_assoc]
theorem axor_append (l m : List ByteArray) (j : Nat) : axor (l ++ m) j = axor l j ^^^ axor m j := by
  unfold axor
  rw [List.foldl_append, axor_from]
  rfl
theorem axor_turn (l : List ByteArray) (i j : Nat) : axor (l.drop i ++ l.take i) j = axor l j := by
  rw [axor_append, Nat.xor_comm, ← axor_append, List.take_append_drop]
theorem axor_twice (x : ByteArray) (l : List ByteArray) (j : Nat) : axor ([x, x] ++ l) j = axor l j := by
  rw [axor_append]
  unfold axor
  simp only [List.foldl_cons, List.foldl_nil]
  rw [Nat.zero_xor, Nat.xor_self, Nat.zero_xor]
theorem axor_lt (l : List ByteArray) (j : Nat) : axor l j < 256 := by
  unfold axor
  have key : ∀ (l : List ByteArray) (a : Nat), a < 256 → l.foldl (fun a s => a ^^^ byt s j) a < 256 := by
    intro l
    induction l with
    | nil => exact fun a h => h
    | cons s l ih => exact fun a h => ih _ (Nat.xor_lt_two_pow (n := 8) h (byt_lt s j))
  exact key l 0 (by omega)
theorem pkb_all (l : List ByteArray) (j : Nat) : ∀ i, i ≤ l.length → pkb l ((List.range i).map fun (i : Nat) => (i : Int)) j = ((axor (l.take i) j : Nat) : Int) := by
  intro i
  induction i with
  | zero => intro _; rfl
  | succ i ih =>
    intro hi
    have hi' : i < l.length := by omega
    rw [List.range_succ, List.map_append, List.map_cons, List.map_nil, pkb_snoc, ih (by omega), byt_eq, xor_u8 (axor_lt _ _) (byt_lt _ _), List.take_succ_eq_append_getElem hi', axor_append]
    have e : blk l (i : Int) = l[i] := by
      unfold blk rdOf
      rw [Int.toNat_natCast, List.getD_eq_getElem?_getD, List.getElem?_eq_getElem hi']
      rfl
    rw [e]
    have e2 : axor [l[i]] j = byt l[i] j := by unfold axor; simp only [List.foldl_cons, List.foldl_nil]; rw [Nat.zero_xor]
    rw [e2]
theorem pk_all {l m : List ByteArray} (n : Nat) (h : ∀ j, axor l j = axor m j) : pk n l ((List.range l.length).map fun (i : Nat) => (i : Int)) = pk n m ((List.range m.length).map fun (i : Nat) => (i : Int)) := by
  unfold pk
  apply List.map_congr_left
  intro j _
  rw [pkb_all l j l.length (Nat.le_refl _), pkb_all m j m.length (Nat.le_refl _), List.take_of_length_le (Nat.le_refl _), List.take_of_length_le (Nat.le_refl _), h j]
theorem blk_mem (l : List ByteArray) (j : Nat) (hj : j < l.length) : blk l (j : Int) ∈ l := by
  unfold blk rdOf
  rw [Int.toNat_natCast, List.getD_eq_getElem?_getD, List.getElem?_eq_getElem hj]
  exact List.getElem_mem hj
theorem bok_iff {n : Int} {l : List ByteArray} : BOk n l ↔ 0 ≤ n ∧ n ≤ 64 ∧ l.length ≤ 64 ∧ ∀ s ∈ l, (s.size : Int) = n := by
  refine ⟨fun h => ⟨h.1, h.2.1, h.2.2.1, fun s hs => ?_⟩, fun h => ⟨h.1, h.2.1, h.2.2.1, fun j hj => h.2.2.2 _ (blk_mem l j hj)⟩⟩
  obtain ⟨j, hj, e⟩ := List.getElem_of_mem hs
  have := h.2.2.2 j hj
  have e2 : blk l (j : Int) = s := by
    unfold blk rdOf
    rw [Int.toNat_natCast, List.getD_eq_getElem?_getD, List.getElem?_eq_getElem hj, ← e]
    rfl
  rwa [e2] at this

theorem textNums_strOf {xs : List Int} (h : ∀ j, j < xs.length → 0 ≤ xs.getD j 0 ∧ xs.getD j 0 < 256) : textNums (strOfNums xs) = xs := by
  refine ext_getD (by rw [length_textNums, strOfNums_size]) fun j hj => ?_
  rw [length_textNums, strOfNums_size] at hj
  obtain ⟨h0, h1⟩ := h j hj
  unfold textNums
  rw [strOfNums_data, List.map_map, List.getD_eq_getElem?_getD, List.getElem?_map, List.getElem?_eq_getElem hj]
  have e : xs.getD j 0 = xs[j] := by rw [List.getD_eq_getElem?_getD, List.getElem?_eq_getElem hj]; rfl
  rw [e] at h0 h1 ⊢
  simp only [Option.map_some, Option.getD_some, Function.comp_apply, UInt8.toNat_ofNat']
  omega
theorem pk_getD {n : Nat} {l : List ByteArray} {v m j : Nat} (hj : j < n) : (pk n l (plc v m)).getD j 0 = ((pkv l v j m : Nat) : Int) := by
  unfold pk
  rw [getD_range, if_pos hj, pkb_pkv]
theorem bxor_ok {n : Nat} (hn : n ≤ 64) {l : List ByteArray} {u v m : Nat} : Ev (fun k => block_Xor.f k (strOfNums (pk n l (plc u m))) (strOfNums (pk n l (plc v m)))) (strOfNums (pk n l (plc (u ^^^ v) m)), 0) := by
  have hsz : ∀ v, (strOfNums (pk n l (plc v m))).size = n := fun v => by rw [strOfNums_size, pk_len]
  have hb : BOk (((strOfNums (pk n l (plc u m))).size : Nat) : Int) [strOfNums (pk n l (plc u m)), strOfNums (pk n l (plc v m))] := by
    rw [bok_iff, hsz]
    refine ⟨by omega, by omega, by simp, fun s hs => ?_⟩
    rcases List.mem_cons.1 hs with rfl | hs
    · rw [hsz]
    · rcases List.mem_cons.1 hs with rfl | hs
      · rw [hsz]
      · cases hs
  have hl2 : ([strOfNums (pk n l (plc u m)), strOfNums (pk n l (plc v m))] : List ByteArray).length < 1000000 := by simp
  unfold block_Xor.f
  refine Ev.bind ((may_spec hl2).1 hb) (Ev.congr (fun k => (if_pos (by first | rfl | trivial)).trans (if_pos (by rw [hsz]; omega))) ?_)
  rw [textNums_strOf (fun j hj => by rw [pk_len] at hj; rw [pk_getD hj]; have := pkv_lt l u j m; omega)]
  have hin := into_spec (x := pk n l (plc u m)) (s := strOfNums (pk n l (plc v m))) (by rw [hsz, pk_len]; exact Nat.le_refl _) (by rw [pk_len]; omega)
  have e : ((List.range (pk n l (plc u m)).length).map fun i => X8 ((pk n l (plc u m)).getD i 0) (bt (strOfNums (pk n l (plc v m))) (i : Int))) = pk n l (plc (u ^^^ v) m) := by
    rw [pk_len]
    refine List.map_congr_left fun j hj => ?_
    have hj' := List.mem_range.1 hj
    have hv := pkv_lt l v j m
    rw [pk_getD hj', bt_strOf (by rw [pk_len]; exact hj') (by rw [pk_getD hj']; omega) (by rw [pk_getD hj']; omega), pk_getD hj', xor_u8 (pkv_lt _ _ _ _) hv, ← pkv_xor, pkb_pkv]
  rw [e] at hin
  exact Ev.bind hin (Ev.now _)
end Go.Proofs.YtfcedhejbnoinaaDoor.PureBit
