/- Blocks: what each function tells. -/
import Derived.Test.YtleagoeimkcekaaDoorPmTab
import Derived.KernelRfl
import Derived.Test.YtleagoeimkcekaaDoorProg
import Derived.Test.YtleagoeimkcekaaDoorPmPut
import Derived.Test.YtleagoeimkcekaaDoorPlBlk
import Derived.Shelf.Strings.Repeat
import Derived.Shelf.Lays
set_option autoImplicit false
set_option maxRecDepth 100000
set_option maxHeartbeats 4000000
set_option linter.unusedVariables false
set_option linter.unusedSimpArgs false
namespace Go.Proofs.YtleagoeimkcekaaDoor
open Go Go.PM Go.Proofs Go.Shelf Go.PM.Blk
def noG : Glob := fun _ => none
theorem hN : namesOk Tryd.prog = true := by kernel_rfl
theorem hM : Tryd.prog.follows .mixedOrders = true := by kernel_rfl
/-! Blocks: what the functions tell. -/
theorem ba_eq {a : ByteArray} {l : List UInt8} (h : a.data.toList = l) : a = ⟨⟨l⟩⟩ := by
  obtain ⟨⟨d⟩⟩ := a
  subst h; rfl
def sz64 (n : Int) : Bool := decide (0 ≤ n) && decide (n ≤ 64)
theorem sz64_iff {n : Int} : sz64 n = true ↔ 0 ≤ n ∧ n ≤ 64 := by unfold sz64; simp
noncomputable def xorTI (a b : ByteArray) : ByteArray := if bok a.size [a, b] = true then txt (xb (bytesL a) (bytesL b)) else ByteArray.empty
noncomputable def xorT : ByteArray → ByteArray → ByteArray := Classical.choose (⟨xorTI, rfl⟩ : ∃ f, f = xorTI)
theorem xorT_eq : xorT = xorTI := Classical.choose_spec (⟨xorTI, rfl⟩ : ∃ f, f = xorTI)
noncomputable def sumTI (n : Int) (l : List ByteArray) : ByteArray := if bok n l = true then txt (sumS n l) else ByteArray.empty
noncomputable def sumT : Int → List ByteArray → ByteArray := Classical.choose (⟨sumTI, rfl⟩ : ∃ f, f = sumTI)
theorem sumT_eq : sumT = sumTI := Classical.choose_spec (⟨sumTI, rfl⟩ : ∃ f, f = sumTI)
noncomputable def zeroTI (n : Int) : ByteArray := if sz64 n = true then txt (zb n.toNat) else ByteArray.empty
noncomputable def zeroT : Int → ByteArray := Classical.choose (⟨zeroTI, rfl⟩ : ∃ f, f = zeroTI)
theorem zeroT_eq : zeroT = zeroTI := Classical.choose_spec (⟨zeroTI, rfl⟩ : ∃ f, f = zeroTI)
noncomputable def trimLI (s : ByteArray) : ByteArray := txt ((bytesL s).dropWhile fun x => decide (x = 0))
noncomputable def trimLS : ByteArray → ByteArray := Classical.choose (⟨trimLI, rfl⟩ : ∃ f, f = trimLI)
theorem trimLS_eq : trimLS = trimLI := Classical.choose_spec (⟨trimLI, rfl⟩ : ∃ f, f = trimLI)
noncomputable def trimRI (s : ByteArray) : ByteArray := txt (((bytesL s).reverse.dropWhile fun x => decide (x = 0)).reverse)
noncomputable def trimRS : ByteArray → ByteArray := Classical.choose (⟨trimRI, rfl⟩ : ∃ f, f = trimRI)
theorem trimRS_eq : trimRS = trimRI := Classical.choose_spec (⟨trimRI, rfl⟩ : ∃ f, f = trimRI)
noncomputable def sumBI (n : Int) (l : List ByteArray) (b : List Int) : List Int := (l.zip b).foldl (fun a p => if p.2 = 1 then xb a (bytesL p.1) else a) (zb n.toNat)
noncomputable def sumBS : Int → List ByteArray → List Int → List Int := Classical.choose (⟨sumBI, rfl⟩ : ∃ f, f = sumBI)
theorem sumBS_eq : sumBS = sumBI := Classical.choose_spec (⟨sumBI, rfl⟩ : ∃ f, f = sumBI)
def ones (k : Nat) : List Int := List.replicate k 1
theorem ones_len (k : Nat) : (ones k).length = k := by unfold ones; simp
def eqTI (a b : List ByteArray) : Bool := decide (a = b)
noncomputable def eqTS : List ByteArray → List ByteArray → Bool := Classical.choose (⟨eqTI, rfl⟩ : ∃ f, f = eqTI)
theorem eqTS_eq : eqTS = eqTI := Classical.choose_spec (⟨eqTI, rfl⟩ : ∃ f, f = eqTI)
theorem empty_bytes : bytesL ByteArray.empty = [] := rfl
theorem eq_empty {s : ByteArray} : s = ByteArray.empty ↔ bytesL s = [] := ⟨fun h => by rw [h]; rfl, fun h => bytes_inj (h.trans empty_bytes.symm)⟩
theorem set_step {a t : List Int} {j : Nat} (hl : t.length = a.length) (hj : j < a.length) : (t.take j ++ a.drop j).set j (t[j]'(by omega)) = t.take (j + 1) ++ a.drop (j + 1) := by
  have h1 : (t.take j).length = j := by rw [List.length_take]; omega
  rw [List.drop_eq_getElem_cons hj, List.set_append_right _ _ (by omega), h1, Nat.sub_self, List.set_cons_zero, List.take_succ_eq_append_getElem (by omega), List.append_assoc]
  rfl
theorem get_step {a t : List Int} {j : Nat} (hl : t.length = a.length) (hj : j < a.length) : (t.take j ++ a.drop j)[0 + j]? = some a[j] := by
  have h1 : (t.take j).length = j := by rw [List.length_take]; omega
  rw [Nat.zero_add, List.getElem?_append_right (by omega), h1, Nat.sub_self, List.drop_eq_getElem_cons hj]
  rfl
theorem getD_get {a : List Int} {j : Nat} (hj : j < a.length) : a.getD j 0 = a[j] := by rw [List.getD_eq_getElem?_getD, List.getElem?_eq_getElem hj]; rfl
theorem fill_eq (a : List Int) (n : Nat) (h : a.length = n) : (List.replicate n (0 : Int)).take 0 ++ (a.take n) ++ (List.replicate n (0 : Int)).drop (0 + (a.take n).length) = a := by
  subst h
  rw [List.take_length, List.take_zero, List.nil_append, List.drop_eq_nil_of_le (by simp), List.append_nil]
def mode1 : FuncId → Nat := fun f => bif Nat.beq f 114 then 2 else 0
/-! downpour/block.sized -/
noncomputable def bsizedF_s1 {R : Type} (n : Int) (c0 : Bool → Option R) : Option R :=
  br (decide (n ≥ 0))
    (c0 (decide (n ≤ 64)))
    (c0 false)
theorem bsizedF_s1_eq (fuel : Nat)  (n : Int) : callN Tryd.prog mode1 Tbl.nil fuel 115 [.s (.int .i64 n)] [] = bsizedF_s1 n (fun (a1 : Bool) => some (.s (.bool a1), [])) := by kernel_rfl
noncomputable def bsizedF {R : Type} (fuel : Nat) (n : Int) (r0 : Bool → Option R) : Option R :=
  (bsizedF_s1 n (fun (a1 : Bool) => r0 a1))
theorem bsizedF_eq (fuel : Nat) (n : Int) : callN Tryd.prog mode1 Tbl.nil fuel 115 [.s (.int .i64 n)] [] = bsizedF fuel n (fun (z0 : Bool) => some (.s (.bool z0), [])) := by
  unfold bsizedF
  exact (bsizedF_s1_eq fuel  n)
theorem bsized_fact (n : Int) : Fact Tryd.prog noG 115 [.s (.int .i64 n)] [] (.s (.bool (sz64 n)), []) := by
  refine callN_fact hN hM nil_ok (n := 0) (mode := mode1) ?_
  rw [bsizedF_eq]
  unfold bsizedF bsizedF_s1 sz64
  rw [br_if]
  by_cases h : n ≥ 0
  · rw [if_pos (by simpa using h), decide_eq_true h, Bool.true_and]
  · rw [if_neg (by simpa using h), decide_eq_false h, Bool.false_and]
noncomputable def bsized_ent : List V → List Blk → Option (Bool × Out)
  | [.s (.int .i64 n)], [] => some (true, (.s (.bool (sz64 n)), []))
  | _, _ => none
theorem bsized_ok : ∀ args bs out, bsized_ent args bs = some (true, out) → Fact Tryd.prog noG 115 args bs out := by
  intro args bs out h
  unfold bsized_ent at h
  split at h
  · rename_i n
    simp only [Option.some.injEq, Prod.mk.injEq] at h
    obtain ⟨_, rfl⟩ := h
    exact bsized_fact n
  · cases h
noncomputable def T_bsized : Tbl := Tbl.cons 115 bsized_ent Tbl.nil
theorem T_bsized_ok : CallOk Tryd.prog noG T_bsized := cons_ok nil_ok bsized_ok
/-! downpour/block.into -/
noncomputable def intoF_s2 {R : Type} (w8 : Int) (w7 : Int) (m : Nat) (w9 : List Int) (s : ByteArray) (c0 : Int → Int → List Int → Option R) (c1 : List Int → Option R) : Option R :=
  br (decide (w8 < w7))
    (bnd (below w8 m) fun j16 =>
    bnd (w9[(0 + j16)]?) fun e17 =>
    bnd (ix s.data.toList w8) fun ub18 =>
    bnd (below w8 m) fun j19 =>
    bnd (w9[(0 + j19)]?) fun e20 =>
    c0 w7 (IntKind.i64.wrap (w8 + 1)) (w9.set (0 + j19) (xorI .u8 e17 ((ub18.toNat : Nat) : Int))))
    (c1 w9)
theorem intoF_s2_eq (fuel : Nat) (k : Nat) (K : Ex → St → Option Out) (w8 : Int) (w7 : Int) (m : Nat) (w9 : List Int) (s : ByteArray) : lpN (sub (bodyOf Tryd.prog 114) [1, 0, 0]) (fnX Tryd.prog mode1 T_bsized fuel 20 1) 0 [0, 1, 6, 7] (k + 1) ⟨[(0, .sl 0 1 0 m), (1, .s (.string s)), (6, .s (.int .i64 w7)), (7, .s (.int .i64 w8))], [(0, some ⟨5, .li .u8 w9, true⟩)], 1, none⟩ K = intoF_s2 w8 w7 m w9 s (fun (a21 : Int) (a22 : Int) (a23 : List Int) => lpN (sub (bodyOf Tryd.prog 114) [1, 0, 0]) (fnX Tryd.prog mode1 T_bsized fuel 20 1) 0 [0, 1, 6, 7] k ⟨[(0, .sl 0 1 0 m), (1, .s (.string s)), (6, .s (.int .i64 a21)), (7, .s (.int .i64 a22))], [(0, some ⟨5, .li .u8 a23, true⟩)], 1, none⟩ K) (fun (a24 : List Int) => K (.exit 0) ⟨[], [(0, some ⟨5, .li .u8 a24, true⟩)], 1, none⟩) := by kernel_rfl
noncomputable def intoF_l1 {R : Type} (fuel : Nat) (m : Nat) (s : ByteArray) (k0 : List Int → Option R) : Nat → Int → Int → List Int → Option R
  | 0, _, _, _ => none
  | k + 1, w7, w8, w9 =>
    (intoF_s2 w8 w7 m w9 s (fun (a21 : Int) (a22 : Int) (a23 : List Int) => ( intoF_l1 fuel m s k0 k a21 a22 a23 )) (fun (a24 : List Int) => k0 a24))
theorem intoF_l1_eq (fuel : Nat) (m : Nat) (s : ByteArray) (K : Ex → St → Option Out) : ∀ (k : Nat) (w7 : Int) (w8 : Int) (w9 : List Int), lpN (sub (bodyOf Tryd.prog 114) [1, 0, 0]) (fnX Tryd.prog mode1 T_bsized fuel 20 1) 0 [0, 1, 6, 7] k ⟨[(0, .sl 0 1 0 m), (1, .s (.string s)), (6, .s (.int .i64 w7)), (7, .s (.int .i64 w8))], [(0, some ⟨5, .li .u8 w9, true⟩)], 1, none⟩ K = intoF_l1 fuel m s (fun (y15 : List Int) => K (.exit 0) ⟨[], [(0, some ⟨5, .li .u8 y15, true⟩)], 1, none⟩) k w7 w8 w9
  | 0, _, _, _ => rfl
  | k + 1, w7, w8, w9 => by
    unfold intoF_l1
    exact (intoF_s2_eq fuel k K w8 w7 m w9 s).trans (congr (congr (Eq.refl (intoF_s2 (R := Out) w8 w7 m w9 s)) (funext fun a21 => funext fun a22 => funext fun a23 => intoF_l1_eq fuel m s K k a21 a22 a23)) (rfl))
noncomputable def intoF_s3 {R : Type} (x28 : List Int) (c0 : List Int → Option R) : Option R :=
  c0 x28
theorem intoF_s3_eq (fuel : Nat)  (x28 : List Int) : (kont (fnX Tryd.prog mode1 T_bsized fuel 20 1) (bodyOf Tryd.prog 114) [1, 0] 0 (endK Tryd.prog 2 1 114)) (.exit 0) ⟨[], [(0, some ⟨5, .li .u8 x28, true⟩)], 1, none⟩ = intoF_s3 x28 (fun (a29 : List Int) => some (.tup [], [some ⟨5, .li .u8 a29, true⟩])) := by kernel_rfl
noncomputable def intoF_s1 {R : Type} (m : Nat) (a : List Int) (s : ByteArray) (c0 : Int → Int → List Int → Option R) : Option R :=
  c0 ((m : Nat) : Int) 0 a
theorem intoF_s1_eq (fuel : Nat)  (m : Nat) (a : List Int) (s : ByteArray) : callN Tryd.prog mode1 T_bsized fuel 114 [.sl 0 1 0 m, .s (.string s)] [⟨5, .li .u8 a, true⟩] = intoF_s1 m a s (fun (a25 : Int) (a26 : Int) (a27 : List Int) => lpN (sub (bodyOf Tryd.prog 114) [1, 0, 0]) (fnX Tryd.prog mode1 T_bsized fuel 20 1) 0 [0, 1, 6, 7] fuel ⟨[(0, .sl 0 1 0 m), (1, .s (.string s)), (6, .s (.int .i64 a25)), (7, .s (.int .i64 a26))], [(0, some ⟨5, .li .u8 a27, true⟩)], 1, none⟩ (kont (fnX Tryd.prog mode1 T_bsized fuel 20 1) (bodyOf Tryd.prog 114) [1, 0] 0 (endK Tryd.prog 2 1 114))) := by kernel_rfl
noncomputable def intoF {R : Type} (fuel : Nat) (m : Nat) (s : ByteArray) (a : List Int) (r0 : List Int → Option R) : Option R :=
  (intoF_s1 m a s (fun (a25 : Int) (a26 : Int) (a27 : List Int) => (intoF_l1 fuel m s (fun (x28 : List Int) => (intoF_s3 x28 (fun (a29 : List Int) => r0 a29))) fuel a25 a26 a27)))
theorem intoF_eq (fuel : Nat) (m : Nat) (s : ByteArray) (a : List Int) : callN Tryd.prog mode1 T_bsized fuel 114 [.sl 0 1 0 m, .s (.string s)] [⟨5, .li .u8 a, true⟩] = intoF fuel m s a (fun (z0 : List Int) => some (.tup [], [some ⟨5, .li .u8 z0, true⟩])) := by
  unfold intoF
  exact (intoF_s1_eq fuel  m a s).trans (congr (Eq.refl (intoF_s1 (R := Out) m a s)) (funext fun a25 => funext fun a26 => funext fun a27 => (intoF_l1_eq fuel m s (kont (fnX Tryd.prog mode1 T_bsized fuel 20 1) (bodyOf Tryd.prog 114) [1, 0] 0 (endK Tryd.prog 2 1 114)) fuel a25 a26 a27).trans (congrFun (congrFun (congrFun (congrFun (congr (Eq.refl (intoF_l1 (R := Out) fuel m s)) (funext fun x28 => (intoF_s3_eq fuel  x28))) fuel) a25) a26) a27)))
theorem into_loop {R : Type} (fuel : Nat) (s : ByteArray) (a : List Int) (hs : a.length ≤ s.size) (hx : a.length ≤ 1000000) (k0 : List Int → Option R) : ∀ (k j : Nat), j ≤ a.length → a.length < j + k → intoF_l1 fuel a.length s k0 k (a.length : Int) (j : Int) ((xb a (bytesL s)).take j ++ a.drop j) = k0 (xb a (bytesL s))
  | 0, j, h1, h2 => by omega
  | k + 1, j, h1, h2 => by
    have hl : (xb a (bytesL s)).length = a.length := by rw [xb_len, bytes_len]; omega
    unfold intoF_l1 intoF_s2
    rw [br_if]
    by_cases hc : j < a.length
    · obtain ⟨c, e1, e2⟩ := ix_byte s j (by omega)
      have hx8 : xorI .u8 a[j] ((c.toNat : Nat) : Int) = (xb a (bytesL s))[j]'(by omega) := by
        rw [← getD_get (a := xb a (bytesL s)) (by omega), xb_getD hc (by rw [bytes_len]; omega), e2, getD_get hc]
      have eb : below (j : Int) a.length = some j := by rw [below_of (by omega) (by omega)]; rfl
      rw [if_pos (by simpa using hc), bnd_of eb, bnd_of (get_step hl hc), bnd_of e1, bnd_of eb, bnd_of (get_step hl hc), hx8, Nat.zero_add, set_step hl hc, wrap_i64 (by omega) (by omega), show (j : Int) + 1 = ((j + 1 : Nat) : Int) by omega]
      exact into_loop fuel s a hs hx k0 k (j + 1) (by omega) (by omega)
    · have e : j = a.length := by omega
      subst e
      rw [if_neg (by simp), List.drop_length, List.append_nil, List.take_of_length_le (by omega)]
theorem into_fact (m : Nat) (s : ByteArray) (a : List Int) (hg : (decide (m = a.length) && decide (a.length ≤ s.size) && decide (a.length ≤ 1000000)) = true) : Fact Tryd.prog noG 114 [.sl 0 1 0 m, .s (.string s)] [⟨5, .li .u8 a, true⟩] (.tup [], [some ⟨5, .li .u8 (xb a (bytesL s)), true⟩]) := by
  simp only [Bool.and_eq_true, decide_eq_true_eq] at hg
  obtain ⟨⟨rfl, hs⟩, hx⟩ := hg
  refine callN_fact hN hM T_bsized_ok (n := a.length + 1) (mode := mode1) ?_
  rw [intoF_eq]
  unfold intoF intoF_s1
  exact into_loop (a.length + 1) s a hs hx _ (a.length + 1) 0 (by omega) (by omega)
noncomputable def into_ent : List V → List Blk → Option (Bool × Out)
  | [.sl 0 1 0 m, .s (.string s)], [⟨5, .li .u8 a, true⟩] => some ((decide (m = a.length) && decide (a.length ≤ s.size) && decide (a.length ≤ 1000000)), (.tup [], [some ⟨5, .li .u8 (xb a (bytesL s)), true⟩]))
  | _, _ => none
theorem into_ok : ∀ args bs out, into_ent args bs = some (true, out) → Fact Tryd.prog noG 114 args bs out := by
  intro args bs out h
  unfold into_ent at h
  split at h
  · rename_i m s a
    simp only [Option.some.injEq, Prod.mk.injEq] at h
    obtain ⟨hg, rfl⟩ := h
    exact into_fact m s a hg
  · cases h
noncomputable def T_into : Tbl := Tbl.cons 114 into_ent T_bsized
theorem T_into_ok : CallOk Tryd.prog noG T_into := cons_ok T_bsized_ok into_ok
/-! downpour/block.may -/
noncomputable def bmayF_s2 {R : Type} (w5 : Int) (w6 : Int) (l : List ByteArray) (n : Int) (c0 : Option R) (c1 : Int → Int → Option R) (c2 : Option R) : Option R :=
  br (decide (w5 < w6))
    (bnd (ix l w5) fun e8 =>
    br (((e8.size : Nat) : Int) != n)
      (c0)
      (c1 w6 (IntKind.i64.wrap (w5 + 1))))
    (c2)
theorem bmayF_s2_eq (fuel : Nat) (k : Nat) (K : Ex → St → Option Out) (w5 : Int) (w6 : Int) (l : List ByteArray) (n : Int) : lpN (sub (bodyOf Tryd.prog 113) [1, 1, 0, 1, 0, 0]) (fnX Tryd.prog mode1 T_into fuel 26 0) 16 [0, 4, 15, 16, 17] (k + 1) ⟨[(0, .s (.int .i64 n)), (4, .s (.int .i64 0)), (15, .ls l), (16, .s (.int .i64 w6)), (17, .s (.int .i64 w5))], [], 0, none⟩ K = bmayF_s2 w5 w6 l n (K .ret ⟨[(4, .s (.int .i64 2))], [], 0, none⟩) (fun (a9 : Int) (a10 : Int) => lpN (sub (bodyOf Tryd.prog 113) [1, 1, 0, 1, 0, 0]) (fnX Tryd.prog mode1 T_into fuel 26 0) 16 [0, 4, 15, 16, 17] k ⟨[(0, .s (.int .i64 n)), (4, .s (.int .i64 0)), (15, .ls l), (16, .s (.int .i64 a9)), (17, .s (.int .i64 a10))], [], 0, none⟩ K) (K (.exit 0) ⟨[(4, .s (.int .i64 0))], [], 0, none⟩) := by kernel_rfl
noncomputable def bmayF_l1 {R : Type} (fuel : Nat) (n : Int) (l : List ByteArray) (k0 : Option R) (k1 : Option R) : Nat → Int → Int → Option R
  | 0, _, _ => none
  | k + 1, w6, w5 =>
    (bmayF_s2 w5 w6 l n (k0) (fun (a9 : Int) (a10 : Int) => ( bmayF_l1 fuel n l k0 k1 k a9 a10 )) (k1))
theorem bmayF_l1_eq (fuel : Nat) (n : Int) (l : List ByteArray) (K : Ex → St → Option Out) : ∀ (k : Nat) (w6 : Int) (w5 : Int), lpN (sub (bodyOf Tryd.prog 113) [1, 1, 0, 1, 0, 0]) (fnX Tryd.prog mode1 T_into fuel 26 0) 16 [0, 4, 15, 16, 17] k ⟨[(0, .s (.int .i64 n)), (4, .s (.int .i64 0)), (15, .ls l), (16, .s (.int .i64 w6)), (17, .s (.int .i64 w5))], [], 0, none⟩ K = bmayF_l1 fuel n l (K .ret ⟨[(4, .s (.int .i64 2))], [], 0, none⟩) (K (.exit 0) ⟨[(4, .s (.int .i64 0))], [], 0, none⟩) k w6 w5
  | 0, _, _ => rfl
  | k + 1, w6, w5 => by
    unfold bmayF_l1
    exact (bmayF_s2_eq fuel k K w5 w6 l n).trans (congr (congr (congr (Eq.refl (bmayF_s2 (R := Out) w5 w6 l n)) (rfl)) (funext fun a9 => funext fun a10 => bmayF_l1_eq fuel n l K k a9 a10)) (rfl))
noncomputable def bmayF_s3 {R : Type}  (c0 : Int → Option R) : Option R :=
  c0 2
theorem bmayF_s3_eq (fuel : Nat)   : (kont (fnX Tryd.prog mode1 T_into fuel 26 0) (bodyOf Tryd.prog 113) [1, 1, 0, 1, 0] 16 (endK Tryd.prog 0 0 113)) .ret ⟨[(4, .s (.int .i64 2))], [], 0, none⟩ = bmayF_s3  (fun (a13 : Int) => some (.s (.int .i64 a13), [])) := by kernel_rfl
noncomputable def bmayF_s4 {R : Type}  (c0 : Int → Option R) : Option R :=
  c0 0
theorem bmayF_s4_eq (fuel : Nat)   : (kont (fnX Tryd.prog mode1 T_into fuel 26 0) (bodyOf Tryd.prog 113) [1, 1, 0, 1, 0] 16 (endK Tryd.prog 0 0 113)) (.exit 0) ⟨[(4, .s (.int .i64 0))], [], 0, none⟩ = bmayF_s4  (fun (a14 : Int) => some (.s (.int .i64 a14), [])) := by kernel_rfl
noncomputable def bmayF_s1 {R : Type} (n : Int) (l : List ByteArray) (c0 : Int → Option R) (c1 : Int → Int → Option R) : Option R :=
  br (!(sz64 n))
    (c0 2)
    (br (decide ((((l.length : Nat) : Int) : Int) > 64))
      (c0 2)
      (c1 ((l.length : Nat) : Int) 0))
theorem bmayF_s1_eq (fuel : Nat)  (n : Int) (l : List ByteArray) : callN Tryd.prog mode1 T_into fuel 113 [.s (.int .i64 n), .ls l] [] = bmayF_s1 n l (fun (a1 : Int) => some (.s (.int .i64 a1), [])) (fun (a11 : Int) (a12 : Int) => lpN (sub (bodyOf Tryd.prog 113) [1, 1, 0, 1, 0, 0]) (fnX Tryd.prog mode1 T_into fuel 26 0) 16 [0, 4, 15, 16, 17] fuel ⟨[(0, .s (.int .i64 n)), (4, .s (.int .i64 0)), (15, .ls l), (16, .s (.int .i64 a11)), (17, .s (.int .i64 a12))], [], 0, none⟩ (kont (fnX Tryd.prog mode1 T_into fuel 26 0) (bodyOf Tryd.prog 113) [1, 1, 0, 1, 0] 16 (endK Tryd.prog 0 0 113))) := by kernel_rfl
noncomputable def bmayF {R : Type} (fuel : Nat) (n : Int) (l : List ByteArray) (r0 : Int → Option R) : Option R :=
  (bmayF_s1 n l (fun (a1 : Int) => r0 a1) (fun (a11 : Int) (a12 : Int) => (bmayF_l1 fuel n l ((bmayF_s3 (fun (a13 : Int) => r0 a13))) ((bmayF_s4 (fun (a14 : Int) => r0 a14))) fuel a11 a12)))
theorem bmayF_eq (fuel : Nat) (n : Int) (l : List ByteArray) : callN Tryd.prog mode1 T_into fuel 113 [.s (.int .i64 n), .ls l] [] = bmayF fuel n l (fun (z0 : Int) => some (.s (.int .i64 z0), [])) := by
  unfold bmayF
  exact (bmayF_s1_eq fuel  n l).trans (congr (congr (Eq.refl (bmayF_s1 (R := Out) n l)) (rfl)) (funext fun a11 => funext fun a12 => (bmayF_l1_eq fuel n l (kont (fnX Tryd.prog mode1 T_into fuel 26 0) (bodyOf Tryd.prog 113) [1, 1, 0, 1, 0] 16 (endK Tryd.prog 0 0 113)) fuel a11 a12).trans (congrFun (congrFun (congrFun (congr (congr (Eq.refl (bmayF_l1 (R := Out) fuel n l)) ((bmayF_s3_eq fuel  ))) ((bmayF_s4_eq fuel  ))) fuel) a11) a12)))
theorem bmay_loop {R : Type} (fuel : Nat) (n : Int) (l : List ByteArray) (hx : l.length ≤ 1000000) (k0 k1 : Option R) : ∀ (k j : Nat), j ≤ l.length → l.length < j + k → bmayF_l1 fuel n l k0 k1 k (l.length : Int) (j : Int) = if (∀ s ∈ l.drop j, (s.size : Int) = n) then k1 else k0
  | 0, j, h1, h2 => by omega
  | k + 1, j, h1, h2 => by
    unfold bmayF_l1 bmayF_s2
    rw [br_if]
    by_cases hc : j < l.length
    · rw [if_pos (by simpa using hc), bnd_of ((ix_nat l j).trans (List.getElem?_eq_getElem hc)), br_if, List.drop_eq_getElem_cons hc, wrap_i64 (by omega) (by omega), show (j : Int) + 1 = ((j + 1 : Nat) : Int) by omega]
      dsimp only
      rw [bmay_loop fuel n l hx k0 k1 k (j + 1) (by omega) (by omega)]
      generalize l[j] = x
      generalize l.drop (j + 1) = t
      by_cases he : ((x.size : Nat) : Int) = n <;> simp [he]
    · rw [if_neg (by simpa using hc), List.drop_eq_nil_of_le (by omega)]
      simp
theorem bmay_fact (n : Int) (l : List ByteArray) : Fact Tryd.prog noG 113 [.s (.int .i64 n), .ls l] [] (.s (.int .i64 (errB n l)), []) := by
  refine callN_fact hN hM T_into_ok (n := 66) (mode := mode1) ?_
  rw [bmayF_eq]
  unfold bmayF bmayF_s1 errB
  have hno : ∀ h : ¬ bok n l = true, bok n l = false := fun h => by rw [Bool.eq_false_iff]; exact h
  rw [br_if]
  by_cases hs : sz64 n = true
  · obtain ⟨h0, h1⟩ := sz64_iff.1 hs
    rw [if_neg (by simp [hs]), br_if]
    by_cases hx : l.length ≤ 64
    · rw [if_neg (by simp; omega)]
      have := bmay_loop (R := Out) 66 n l (by omega)
      dsimp only
      rw [show (0 : Int) = ((0 : Nat) : Int) from rfl, this _ _ 66 0 (by omega) (by omega), List.drop_zero]
      by_cases ha : ∀ s ∈ l, (s.size : Int) = n
      · rw [if_pos ha, if_pos (bok_iff.2 ⟨⟨h0, h1⟩, hx, ha⟩)]; rfl
      · rw [if_neg ha, hno fun h => ha (bok_iff.1 h).2.2]; rfl
    · rw [if_pos (by simp; omega), hno fun h => hx (bok_iff.1 h).2.1]; rfl
  · rw [if_pos (by simp [hs]), hno fun h => hs (sz64_iff.2 (bok_iff.1 h).1)]; rfl
noncomputable def bmay_ent : List V → List Blk → Option (Bool × Out)
  | [.s (.int .i64 n), w0], [] => (asSl .str w0).bind fun l => some (true, (.s (.int .i64 (errB n l)), []))
  | _, _ => none
theorem bmay_ok : ∀ args bs out, bmay_ent args bs = some (true, out) → Fact Tryd.prog noG 113 args bs out := by
  intro args bs out h
  unfold bmay_ent at h
  split at h
  · rename_i n w0
    obtain ⟨l, h_l, h⟩ := Option.bind_eq_some_iff.1 h
    simp only [Option.some.injEq, Prod.mk.injEq] at h
    obtain ⟨_, rfl⟩ := h
    exact (bmay_fact n l).args (fun _ _ _ => fun _ h => RVs_two (fun _ h => h) (fun _ h => RVs_two (fun _ h => RV_ls h_l h) (fun _ h => h) h) h)
  · cases h
noncomputable def T_bmay : Tbl := Tbl.cons 113 bmay_ent T_into
theorem T_bmay_ok : CallOk Tryd.prog noG T_bmay := cons_ok T_into_ok bmay_ok
/-! downpour/block.Xor -/
noncomputable def BxorF_s1 {R : Type} (a : ByteArray) (b : ByteArray) (c0 : ByteArray → Int → Option R) : Option R :=
  br (((errB ((a.size : Nat) : Int) ([a, b])) : Int) != 0)
    (c0 ByteArray.empty (errB ((a.size : Nat) : Int) ([a, b])))
    (bnd (mkN ((a.size : Nat) : Int) ((a.size : Nat) : Int) 1) fun n3 =>
    grd (decide (n3 = ((List.replicate n3 (0 : Int)).take 0 ++ ((bytesL a).take n3) ++ (List.replicate n3 (0 : Int)).drop (0 + ((bytesL a).take n3).length)).length) && decide (((List.replicate n3 (0 : Int)).take 0 ++ ((bytesL a).take n3) ++ (List.replicate n3 (0 : Int)).drop (0 + ((bytesL a).take n3).length)).length ≤ b.size) && decide (((List.replicate n3 (0 : Int)).take 0 ++ ((bytesL a).take n3) ++ (List.replicate n3 (0 : Int)).drop (0 + ((bytesL a).take n3).length)).length ≤ 1000000)) <|
    grd (Nat.ble (0 + n3) ((xb ((List.replicate n3 (0 : Int)).take 0 ++ ((bytesL a).take n3) ++ (List.replicate n3 (0 : Int)).drop (0 + ((bytesL a).take n3).length)) (bytesL b)).length)) <|
    c0 (txt ((((xb ((List.replicate n3 (0 : Int)).take 0 ++ ((bytesL a).take n3) ++ (List.replicate n3 (0 : Int)).drop (0 + ((bytesL a).take n3).length)) (bytesL b))).drop 0).take n3)) 0)
theorem BxorF_s1_eq (fuel : Nat)  (a : ByteArray) (b : ByteArray) : callN Tryd.prog mode1 T_bmay fuel 58 [.s (.string a), .s (.string b)] [] = BxorF_s1 a b (fun (a1 : ByteArray) (a2 : Int) => some (.tup [.s (.string a1), .s (.int .i64 a2)], [])) := by kernel_rfl
noncomputable def BxorF {R : Type} (fuel : Nat) (a : ByteArray) (b : ByteArray) (r0 : ByteArray → Int → Option R) : Option R :=
  (BxorF_s1 a b (fun (a1 : ByteArray) (a2 : Int) => r0 a1 a2))
theorem BxorF_eq (fuel : Nat) (a : ByteArray) (b : ByteArray) : callN Tryd.prog mode1 T_bmay fuel 58 [.s (.string a), .s (.string b)] [] = BxorF fuel a b (fun (z0 : ByteArray) (z1 : Int) => some (.tup [.s (.string z0), .s (.int .i64 z1)], [])) := by
  unfold BxorF
  exact (BxorF_s1_eq fuel  a b)
theorem Bxor_fact (a : ByteArray) (b : ByteArray) : Fact Tryd.prog noG 58 [.s (.string a), .s (.string b)] [] (.tup [.s (.string (xorT a b)), .s (.int .i64 (errB ((a.size : Nat) : Int) [a, b]))], []) := by
  refine callN_fact hN hM T_bmay_ok (n := 0) (mode := mode1) ?_
  rw [BxorF_eq]
  unfold BxorF BxorF_s1
  rw [br_if, xorT_eq]
  unfold xorTI errB
  by_cases hb : bok ((a.size : Nat) : Int) [a, b] = true
  · obtain ⟨⟨h0, h1⟩, h2, h3⟩ := bok_iff.1 hb
    have hba := h3 b (by simp)
    have hl : (xb (bytesL a) (bytesL b)).length = a.size := by rw [xb_len, bytes_len, bytes_len]; omega
    rw [if_pos hb, if_pos hb, if_neg (by decide), bnd_of (mkN_of (by omega) (by omega) (by omega)), Int.toNat_natCast, fill_eq (bytesL a) a.size (bytes_len a), grd_of (by simp [bytes_len]; omega), grd_of (by rw [hl]; simp), List.drop_zero, ← hl, List.take_length]
  · rw [if_neg hb, if_neg hb, if_pos (by decide)]
noncomputable def Bxor_ent : List V → List Blk → Option (Bool × Out)
  | [.s (.string a), .s (.string b)], [] => some (true, (.tup [.s (.string (xorT a b)), .s (.int .i64 (errB ((a.size : Nat) : Int) [a, b]))], []))
  | _, _ => none
theorem Bxor_ok : ∀ args bs out, Bxor_ent args bs = some (true, out) → Fact Tryd.prog noG 58 args bs out := by
  intro args bs out h
  unfold Bxor_ent at h
  split at h
  · rename_i a b
    simp only [Option.some.injEq, Prod.mk.injEq] at h
    obtain ⟨_, rfl⟩ := h
    exact Bxor_fact a b
  · cases h
noncomputable def T_Bxor : Tbl := Tbl.cons 58 Bxor_ent T_bmay
theorem T_Bxor_ok : CallOk Tryd.prog noG T_Bxor := cons_ok T_bmay_ok Bxor_ok
/-! downpour/block.Sum -/
noncomputable def BsumF_s2 {R : Type} (w7 : Int) (w8 : Int) (l : List ByteArray) (n3 : Nat) (w9 : List Int) (c0 : Int → Int → List Int → Option R) (c1 : List Int → Option R) : Option R :=
  br (decide (w7 < w8))
    (bnd (ix l w7) fun e12 =>
    grd (decide (n3 = w9.length) && decide (w9.length ≤ e12.size) && decide (w9.length ≤ 1000000)) <|
    c0 w8 (IntKind.i64.wrap (w7 + 1)) (xb w9 (bytesL e12)))
    (c1 w9)
theorem BsumF_s2_eq (fuel : Nat) (k : Nat) (K : Ex → St → Option Out) (w7 : Int) (w8 : Int) (l : List ByteArray) (n3 : Nat) (w9 : List Int) : lpN (sub (bodyOf Tryd.prog 59) [1, 1, 1, 0, 1, 0, 0]) (fnX Tryd.prog mode1 T_Bxor fuel 30 0) 805306544 [4, 5, 7, 18, 19, 20] (k + 1) ⟨[(4, .s (.string ByteArray.empty)), (5, .s (.int .i64 0)), (7, .sl 0 1 0 n3), (18, .ls l), (19, .s (.int .i64 w8)), (20, .s (.int .i64 w7))], [(0, some ⟨5, .li .u8 w9, true⟩)], 1, none⟩ K = BsumF_s2 w7 w8 l n3 w9 (fun (a13 : Int) (a14 : Int) (a15 : List Int) => lpN (sub (bodyOf Tryd.prog 59) [1, 1, 1, 0, 1, 0, 0]) (fnX Tryd.prog mode1 T_Bxor fuel 30 0) 805306544 [4, 5, 7, 18, 19, 20] k ⟨[(4, .s (.string ByteArray.empty)), (5, .s (.int .i64 0)), (7, .sl 0 1 0 n3), (18, .ls l), (19, .s (.int .i64 a13)), (20, .s (.int .i64 a14))], [(0, some ⟨5, .li .u8 a15, true⟩)], 1, none⟩ K) (fun (a16 : List Int) => K (.exit 0) ⟨[(4, .s (.string ByteArray.empty)), (5, .s (.int .i64 0)), (7, .sl 0 1 0 n3)], [(0, some ⟨5, .li .u8 a16, true⟩)], 1, none⟩) := by kernel_rfl
noncomputable def BsumF_l1 {R : Type} (fuel : Nat) (n3 : Nat) (l : List ByteArray) (k0 : List Int → Option R) : Nat → Int → Int → List Int → Option R
  | 0, _, _, _ => none
  | k + 1, w8, w7, w9 =>
    (BsumF_s2 w7 w8 l n3 w9 (fun (a13 : Int) (a14 : Int) (a15 : List Int) => ( BsumF_l1 fuel n3 l k0 k a13 a14 a15 )) (fun (a16 : List Int) => k0 a16))
theorem BsumF_l1_eq (fuel : Nat) (n3 : Nat) (l : List ByteArray) (K : Ex → St → Option Out) : ∀ (k : Nat) (w8 : Int) (w7 : Int) (w9 : List Int), lpN (sub (bodyOf Tryd.prog 59) [1, 1, 1, 0, 1, 0, 0]) (fnX Tryd.prog mode1 T_Bxor fuel 30 0) 805306544 [4, 5, 7, 18, 19, 20] k ⟨[(4, .s (.string ByteArray.empty)), (5, .s (.int .i64 0)), (7, .sl 0 1 0 n3), (18, .ls l), (19, .s (.int .i64 w8)), (20, .s (.int .i64 w7))], [(0, some ⟨5, .li .u8 w9, true⟩)], 1, none⟩ K = BsumF_l1 fuel n3 l (fun (y11 : List Int) => K (.exit 0) ⟨[(4, .s (.string ByteArray.empty)), (5, .s (.int .i64 0)), (7, .sl 0 1 0 n3)], [(0, some ⟨5, .li .u8 y11, true⟩)], 1, none⟩) k w8 w7 w9
  | 0, _, _, _ => rfl
  | k + 1, w8, w7, w9 => by
    unfold BsumF_l1
    exact (BsumF_s2_eq fuel k K w7 w8 l n3 w9).trans (congr (congr (Eq.refl (BsumF_s2 (R := Out) w7 w8 l n3 w9)) (funext fun a13 => funext fun a14 => funext fun a15 => BsumF_l1_eq fuel n3 l K k a13 a14 a15)) (rfl))
noncomputable def BsumF_s3 {R : Type} (n3 : Nat) (x20 : List Int) (c0 : ByteArray → Int → Option R) : Option R :=
  grd (Nat.ble (0 + n3) x20.length) <|
  c0 (txt (((x20).drop 0).take n3)) 0
theorem BsumF_s3_eq (fuel : Nat)  (n3 : Nat) (x20 : List Int) : (kont (fnX Tryd.prog mode1 T_Bxor fuel 30 0) (bodyOf Tryd.prog 59) [1, 1, 1, 0, 1, 0] 48 (endK Tryd.prog 0 0 59)) (.exit 0) ⟨[(4, .s (.string ByteArray.empty)), (5, .s (.int .i64 0)), (7, .sl 0 1 0 n3)], [(0, some ⟨5, .li .u8 x20, true⟩)], 1, none⟩ = BsumF_s3 n3 x20 (fun (a21 : ByteArray) (a22 : Int) => some (.tup [.s (.string a21), .s (.int .i64 a22)], [])) := by kernel_rfl
noncomputable def BsumF_s1 {R : Type} (n : Int) (l : List ByteArray) (c0 : ByteArray → Int → Option R) (c1 : Int → Int → List Int → Nat → Option R) : Option R :=
  br (((errB n l) : Int) != 0)
    (c0 ByteArray.empty (errB n l))
    (bnd (mkN n n 1) fun n3 =>
    c1 ((l.length : Nat) : Int) 0 (List.replicate n3 (0 : Int)) n3)
theorem BsumF_s1_eq (fuel : Nat)  (n : Int) (l : List ByteArray) : callN Tryd.prog mode1 T_Bxor fuel 59 [.s (.int .i64 n), .ls l] [] = BsumF_s1 n l (fun (a1 : ByteArray) (a2 : Int) => some (.tup [.s (.string a1), .s (.int .i64 a2)], [])) (fun (a17 : Int) (a18 : Int) (a19 : List Int) (n3 : Nat) => lpN (sub (bodyOf Tryd.prog 59) [1, 1, 1, 0, 1, 0, 0]) (fnX Tryd.prog mode1 T_Bxor fuel 30 0) 805306544 [4, 5, 7, 18, 19, 20] fuel ⟨[(4, .s (.string ByteArray.empty)), (5, .s (.int .i64 0)), (7, .sl 0 1 0 n3), (18, .ls l), (19, .s (.int .i64 a17)), (20, .s (.int .i64 a18))], [(0, some ⟨5, .li .u8 a19, true⟩)], 1, none⟩ (kont (fnX Tryd.prog mode1 T_Bxor fuel 30 0) (bodyOf Tryd.prog 59) [1, 1, 1, 0, 1, 0] 48 (endK Tryd.prog 0 0 59))) := by kernel_rfl
noncomputable def BsumF {R : Type} (fuel : Nat) (n : Int) (l : List ByteArray) (r0 : ByteArray → Int → Option R) : Option R :=
  (BsumF_s1 n l (fun (a1 : ByteArray) (a2 : Int) => r0 a1 a2) (fun (a17 : Int) (a18 : Int) (a19 : List Int) (n3 : Nat) => (BsumF_l1 fuel n3 l (fun (x20 : List Int) => (BsumF_s3 n3 x20 (fun (a21 : ByteArray) (a22 : Int) => r0 a21 a22))) fuel a17 a18 a19)))
theorem BsumF_eq (fuel : Nat) (n : Int) (l : List ByteArray) : callN Tryd.prog mode1 T_Bxor fuel 59 [.s (.int .i64 n), .ls l] [] = BsumF fuel n l (fun (z0 : ByteArray) (z1 : Int) => some (.tup [.s (.string z0), .s (.int .i64 z1)], [])) := by
  unfold BsumF
  exact (BsumF_s1_eq fuel  n l).trans (congr (congr (Eq.refl (BsumF_s1 (R := Out) n l)) (rfl)) (funext fun a17 => funext fun a18 => funext fun a19 => funext fun n3 => (BsumF_l1_eq fuel n3 l (kont (fnX Tryd.prog mode1 T_Bxor fuel 30 0) (bodyOf Tryd.prog 59) [1, 1, 1, 0, 1, 0] 48 (endK Tryd.prog 0 0 59)) fuel a17 a18 a19).trans (congrFun (congrFun (congrFun (congrFun (congr (Eq.refl (BsumF_l1 (R := Out) fuel n3 l)) (funext fun x20 => (BsumF_s3_eq fuel  n3 x20))) fuel) a17) a18) a19)))
theorem Bsum_loop {R : Type} (fuel m : Nat) (l : List ByteArray) (hm : m ≤ 64) (hx : l.length ≤ 64) (hs : ∀ s ∈ l, s.size = m) (k0 : List Int → Option R) : ∀ (k j : Nat), j ≤ l.length → l.length < j + k → BsumF_l1 fuel m l k0 k (l.length : Int) (j : Int) (sumL (zb m) (l.take j)) = k0 (sumL (zb m) l)
  | 0, j, h1, h2 => by omega
  | k + 1, j, h1, h2 => by
    have hz : (zb m).length = m := by unfold zb; simp
    have hl : (sumL (zb m) (l.take j)).length = m := by rw [sumL_len fun s h => by rw [hz]; exact hs s (List.mem_of_mem_take h), hz]
    unfold BsumF_l1 BsumF_s2
    rw [br_if]
    by_cases hc : j < l.length
    · have h3 := hs _ (List.getElem_mem hc)
      rw [if_pos (by simpa using hc), bnd_of ((ix_nat l j).trans (List.getElem?_eq_getElem hc)), grd_of (by simp [hl]; omega), wrap_i64 (by omega) (by omega), show (j : Int) + 1 = ((j + 1 : Nat) : Int) by omega]
      have e : xb (sumL (zb m) (l.take j)) (bytesL l[j]) = sumL (zb m) (l.take (j + 1)) := by
        rw [List.take_succ_eq_append_getElem hc]; unfold sumL; rw [List.foldl_append]; rfl
      rw [e]
      exact Bsum_loop fuel m l hm hx hs k0 k (j + 1) (by omega) (by omega)
    · have e : j = l.length := by omega
      subst e
      rw [if_neg (by simp), List.take_length]
theorem Bsum_fact (n : Int) (l : List ByteArray) : Fact Tryd.prog noG 59 [.s (.int .i64 n), .ls l] [] (.tup [.s (.string (sumT n l)), .s (.int .i64 (errB n l))], []) := by
  refine callN_fact hN hM T_Bxor_ok (n := 66) (mode := mode1) ?_
  rw [BsumF_eq]
  unfold BsumF BsumF_s1
  rw [br_if, sumT_eq]
  unfold sumTI errB
  by_cases hb : bok n l = true
  · obtain ⟨⟨h0, h1⟩, h2, h3⟩ := bok_iff.1 hb
    have hl := sum_len hb
    rw [if_pos hb, if_pos hb, if_neg (by decide), bnd_of (mkN_of (by omega) (by omega) (by omega))]
    have := Bsum_loop (R := Out) 66 n.toNat l (by omega) h2 (fun s h => by have := h3 s h; omega)
    have e : List.replicate n.toNat (0 : Int) = sumL (zb n.toNat) (l.take 0) := rfl
    dsimp only
    rw [e, show (0 : Int) = ((0 : Nat) : Int) from rfl, this _ 66 0 (by omega) (by omega), sumS_eq]
    unfold BsumF_s3
    rw [sumS_eq] at hl
    unfold sumI at hl ⊢
    rw [grd_of (by rw [Nat.ble_eq]; omega), List.drop_zero, List.take_of_length_le (by omega)]
    rfl
  · rw [if_neg hb, if_neg hb, if_pos (by decide)]
noncomputable def Bsum_ent : List V → List Blk → Option (Bool × Out)
  | [.s (.int .i64 n), w0], [] => (asSl .str w0).bind fun l => some (true, (.tup [.s (.string (sumT n l)), .s (.int .i64 (errB n l))], []))
  | _, _ => none
theorem Bsum_ok : ∀ args bs out, Bsum_ent args bs = some (true, out) → Fact Tryd.prog noG 59 args bs out := by
  intro args bs out h
  unfold Bsum_ent at h
  split at h
  · rename_i n w0
    obtain ⟨l, h_l, h⟩ := Option.bind_eq_some_iff.1 h
    simp only [Option.some.injEq, Prod.mk.injEq] at h
    obtain ⟨_, rfl⟩ := h
    exact (Bsum_fact n l).args (fun _ _ _ => fun _ h => RVs_two (fun _ h => h) (fun _ h => RVs_two (fun _ h => RV_ls h_l h) (fun _ h => h) h) h)
  · cases h
noncomputable def T_Bsum : Tbl := Tbl.cons 59 Bsum_ent T_Bxor
theorem T_Bsum_ok : CallOk Tryd.prog noG T_Bsum := cons_ok T_Bxor_ok Bsum_ok
/-! strings.trimLeftByte -/
noncomputable def trimLF_s2 {R : Type} (w3 : ByteArray) (c0 : ByteArray → Option R) (c1 : ByteArray → Option R) (c2 : ByteArray → Option R) : Option R :=
  br (decide ((((w3.size : Nat) : Int) : Int) > 0))
    (bnd (ix w3.data.toList 0) fun ub7 =>
    br ((((ub7.toNat : Nat) : Int) : Int) == 0)
      (bnd (upTo 1 w3.size) fun j8 =>
      c0 (w3.extract j8 w3.size))
      (c1 w3))
    (c2 w3)
theorem trimLF_s2_eq (fuel : Nat) (k : Nat) (K : Ex → St → Option Out) (w3 : ByteArray) : lpN (sub (bodyOf Tryd.prog 164) [1, 0, 0, 0]) (fnX Tryd.prog mode1 T_Bsum fuel 17 0) 65553 [0, 1, 4] (k + 1) ⟨[(0, .s (.string w3)), (1, .s (.int .u8 0)), (4, .s (.string ByteArray.empty))], [], 0, none⟩ K = trimLF_s2 w3 (fun (a9 : ByteArray) => lpN (sub (bodyOf Tryd.prog 164) [1, 0, 0, 0]) (fnX Tryd.prog mode1 T_Bsum fuel 17 0) 65553 [0, 1, 4] k ⟨[(0, .s (.string a9)), (1, .s (.int .u8 0)), (4, .s (.string ByteArray.empty))], [], 0, none⟩ K) (fun (a10 : ByteArray) => K (.exit 0) ⟨[(0, .s (.string a10)), (4, .s (.string ByteArray.empty))], [], 0, none⟩) (fun (a11 : ByteArray) => K (.exit 0) ⟨[(0, .s (.string a11)), (4, .s (.string ByteArray.empty))], [], 0, none⟩) := by kernel_rfl
noncomputable def trimLF_l1 {R : Type} (fuel : Nat)  (k0 : ByteArray → Option R) : Nat → ByteArray → Option R
  | 0, _ => none
  | k + 1, w3 =>
    (trimLF_s2 w3 (fun (a9 : ByteArray) => ( trimLF_l1 fuel k0 k a9 )) (fun (a10 : ByteArray) => k0 a10) (fun (a11 : ByteArray) => k0 a11))
theorem trimLF_l1_eq (fuel : Nat)  (K : Ex → St → Option Out) : ∀ (k : Nat) (w3 : ByteArray), lpN (sub (bodyOf Tryd.prog 164) [1, 0, 0, 0]) (fnX Tryd.prog mode1 T_Bsum fuel 17 0) 65553 [0, 1, 4] k ⟨[(0, .s (.string w3)), (1, .s (.int .u8 0)), (4, .s (.string ByteArray.empty))], [], 0, none⟩ K = trimLF_l1 fuel  (fun (y6 : ByteArray) => K (.exit 0) ⟨[(0, .s (.string y6)), (4, .s (.string ByteArray.empty))], [], 0, none⟩) k w3
  | 0, _ => rfl
  | k + 1, w3 => by
    unfold trimLF_l1
    exact (trimLF_s2_eq fuel k K w3).trans (congr (congr (congr (Eq.refl (trimLF_s2 (R := Out) w3)) (funext fun a9 => trimLF_l1_eq fuel  K k a9)) (rfl)) (rfl))
noncomputable def trimLF_s3 {R : Type} (x13 : ByteArray) (c0 : ByteArray → Option R) : Option R :=
  c0 x13
theorem trimLF_s3_eq (fuel : Nat)  (x13 : ByteArray) : (kont (fnX Tryd.prog mode1 T_Bsum fuel 17 0) (bodyOf Tryd.prog 164) [1, 0, 0] 16 (endK Tryd.prog 0 0 164)) (.exit 0) ⟨[(0, .s (.string x13)), (4, .s (.string ByteArray.empty))], [], 0, none⟩ = trimLF_s3 x13 (fun (a14 : ByteArray) => some (.s (.string a14), [])) := by kernel_rfl
noncomputable def trimLF_s1 {R : Type} (s : ByteArray) (c0 : ByteArray → Option R) : Option R :=
  c0 s
theorem trimLF_s1_eq (fuel : Nat)  (s : ByteArray) : callN Tryd.prog mode1 T_Bsum fuel 164 [.s (.string s), .s (.int .u8 0)] [] = trimLF_s1 s (fun (a12 : ByteArray) => lpN (sub (bodyOf Tryd.prog 164) [1, 0, 0, 0]) (fnX Tryd.prog mode1 T_Bsum fuel 17 0) 65553 [0, 1, 4] fuel ⟨[(0, .s (.string a12)), (1, .s (.int .u8 0)), (4, .s (.string ByteArray.empty))], [], 0, none⟩ (kont (fnX Tryd.prog mode1 T_Bsum fuel 17 0) (bodyOf Tryd.prog 164) [1, 0, 0] 16 (endK Tryd.prog 0 0 164))) := by kernel_rfl
noncomputable def trimLF {R : Type} (fuel : Nat) (s : ByteArray) (r0 : ByteArray → Option R) : Option R :=
  (trimLF_s1 s (fun (a12 : ByteArray) => (trimLF_l1 fuel (fun (x13 : ByteArray) => (trimLF_s3 x13 (fun (a14 : ByteArray) => r0 a14))) fuel a12)))
theorem trimLF_eq (fuel : Nat) (s : ByteArray) : callN Tryd.prog mode1 T_Bsum fuel 164 [.s (.string s), .s (.int .u8 0)] [] = trimLF fuel s (fun (z0 : ByteArray) => some (.s (.string z0), [])) := by
  unfold trimLF
  exact (trimLF_s1_eq fuel  s).trans (congr (Eq.refl (trimLF_s1 (R := Out) s)) (funext fun a12 => (trimLF_l1_eq fuel  (kont (fnX Tryd.prog mode1 T_Bsum fuel 17 0) (bodyOf Tryd.prog 164) [1, 0, 0] 16 (endK Tryd.prog 0 0 164)) fuel a12).trans (congrFun (congrFun (congr (Eq.refl (trimLF_l1 (R := Out) fuel )) (funext fun x13 => (trimLF_s3_eq fuel  x13))) fuel) a12)))
theorem trimL_loop {R : Type} (fuel : Nat) (k0 : ByteArray → Option R) : ∀ (k : Nat) (s : ByteArray), s.size < k → trimLF_l1 fuel k0 k s = k0 (trimLS s)
  | 0, s, h => by omega
  | k + 1, s, h => by
    unfold trimLF_l1 trimLF_s2
    rw [br_if, trimLS_eq]
    unfold trimLI
    by_cases hc : 0 < s.size
    · obtain ⟨c, e1, e2⟩ := ix_byte s 0 hc
      have e1 : ix s.data.toList 0 = some c := e1
      have hb : bytesL s = (bytesL s).getD 0 0 :: (bytesL s).drop 1 := by
        have hl := bytes_len s
        cases h3 : bytesL s with
        | nil => rw [h3] at hl; simp at hl; omega
        | cons x t => rfl
      rw [if_pos (by simp; omega), bnd_of e1, br_if, e2]
      by_cases hz : (bytesL s).getD 0 0 = 0
      · have hu : upTo 1 s.size = some 1 := by rw [upTo_of (by omega) (by omega)]; rfl
        rw [if_pos (by simpa using hz), bnd_of hu]
        dsimp only
        rw [trimL_loop fuel k0 k _ (by rw [ByteArray.size_extract]; omega), trimLS_eq]
        unfold trimLI
        have hd : bytesL (s.extract 1 s.size) = (bytesL s).drop 1 := by
          unfold bytesL
          rw [ByteArray.data_extract, Array.toList_extract, ← List.map_drop, List.extract_eq_take_drop, List.take_of_length_le (by rw [List.length_drop, Array.length_toList]; exact Nat.le_refl _)]
        rw [hd]
        conv => rhs; rw [hb]
        rw [List.dropWhile_cons_of_pos (by simpa using hz)]
      · rw [if_neg (by simpa using hz)]
        congr 1
        conv => rhs; rw [hb]
        rw [List.dropWhile_cons_of_neg (by simpa using hz), ← hb, txt_bytes]
    · rw [if_neg (by rw [decide_eq_true_eq]; omega)]
      have : bytesL s = [] := List.eq_nil_of_length_eq_zero (by rw [bytes_len]; omega)
      rw [this, eq_empty.2 this]; rfl
theorem trimL_fact (s : ByteArray) : Fact Tryd.prog noG 164 [.s (.string s), .s (.int .u8 0)] [] (.s (.string (trimLS s)), []) := by
  refine callN_fact hN hM T_Bsum_ok (n := s.size + 1) (mode := mode1) ?_
  rw [trimLF_eq]
  unfold trimLF trimLF_s1
  dsimp only
  rw [trimL_loop _ _ _ _ (by omega)]
  rfl
noncomputable def trimL_ent : List V → List Blk → Option (Bool × Out)
  | [.s (.string s), .s (.int .u8 0)], [] => some (true, (.s (.string (trimLS s)), []))
  | _, _ => none
theorem trimL_ok : ∀ args bs out, trimL_ent args bs = some (true, out) → Fact Tryd.prog noG 164 args bs out := by
  intro args bs out h
  unfold trimL_ent at h
  split at h
  · rename_i s
    simp only [Option.some.injEq, Prod.mk.injEq] at h
    obtain ⟨_, rfl⟩ := h
    exact trimL_fact s
  · cases h
noncomputable def T_trimL : Tbl := Tbl.cons 164 trimL_ent T_Bsum
theorem T_trimL_ok : CallOk Tryd.prog noG T_trimL := cons_ok T_Bsum_ok trimL_ok
/-! strings.trimRightByte -/
noncomputable def trimRF_s2 {R : Type} (w3 : ByteArray) (c0 : ByteArray → Option R) (c1 : ByteArray → Option R) (c2 : ByteArray → Option R) : Option R :=
  br (decide ((((w3.size : Nat) : Int) : Int) > 0))
    (bnd (ix w3.data.toList (IntKind.i64.wrap (((w3.size : Nat) : Int) - 1))) fun ub7 =>
    br ((((ub7.toNat : Nat) : Int) : Int) == 0)
      (bnd (upTo (IntKind.i64.wrap (((w3.size : Nat) : Int) - 1)) w3.size) fun j8 =>
      c0 (w3.extract 0 j8))
      (c1 w3))
    (c2 w3)
theorem trimRF_s2_eq (fuel : Nat) (k : Nat) (K : Ex → St → Option Out) (w3 : ByteArray) : lpN (sub (bodyOf Tryd.prog 165) [1, 0, 0, 0]) (fnX Tryd.prog mode1 T_trimL fuel 23 0) 4194321 [0, 1, 4] (k + 1) ⟨[(0, .s (.string w3)), (1, .s (.int .u8 0)), (4, .s (.string ByteArray.empty))], [], 0, none⟩ K = trimRF_s2 w3 (fun (a9 : ByteArray) => lpN (sub (bodyOf Tryd.prog 165) [1, 0, 0, 0]) (fnX Tryd.prog mode1 T_trimL fuel 23 0) 4194321 [0, 1, 4] k ⟨[(0, .s (.string a9)), (1, .s (.int .u8 0)), (4, .s (.string ByteArray.empty))], [], 0, none⟩ K) (fun (a10 : ByteArray) => K (.exit 0) ⟨[(0, .s (.string a10)), (4, .s (.string ByteArray.empty))], [], 0, none⟩) (fun (a11 : ByteArray) => K (.exit 0) ⟨[(0, .s (.string a11)), (4, .s (.string ByteArray.empty))], [], 0, none⟩) := by kernel_rfl
noncomputable def trimRF_l1 {R : Type} (fuel : Nat)  (k0 : ByteArray → Option R) : Nat → ByteArray → Option R
  | 0, _ => none
  | k + 1, w3 =>
    (trimRF_s2 w3 (fun (a9 : ByteArray) => ( trimRF_l1 fuel k0 k a9 )) (fun (a10 : ByteArray) => k0 a10) (fun (a11 : ByteArray) => k0 a11))
theorem trimRF_l1_eq (fuel : Nat)  (K : Ex → St → Option Out) : ∀ (k : Nat) (w3 : ByteArray), lpN (sub (bodyOf Tryd.prog 165) [1, 0, 0, 0]) (fnX Tryd.prog mode1 T_trimL fuel 23 0) 4194321 [0, 1, 4] k ⟨[(0, .s (.string w3)), (1, .s (.int .u8 0)), (4, .s (.string ByteArray.empty))], [], 0, none⟩ K = trimRF_l1 fuel  (fun (y6 : ByteArray) => K (.exit 0) ⟨[(0, .s (.string y6)), (4, .s (.string ByteArray.empty))], [], 0, none⟩) k w3
  | 0, _ => rfl
  | k + 1, w3 => by
    unfold trimRF_l1
    exact (trimRF_s2_eq fuel k K w3).trans (congr (congr (congr (Eq.refl (trimRF_s2 (R := Out) w3)) (funext fun a9 => trimRF_l1_eq fuel  K k a9)) (rfl)) (rfl))
noncomputable def trimRF_s3 {R : Type} (x13 : ByteArray) (c0 : ByteArray → Option R) : Option R :=
  c0 x13
theorem trimRF_s3_eq (fuel : Nat)  (x13 : ByteArray) : (kont (fnX Tryd.prog mode1 T_trimL fuel 23 0) (bodyOf Tryd.prog 165) [1, 0, 0] 16 (endK Tryd.prog 0 0 165)) (.exit 0) ⟨[(0, .s (.string x13)), (4, .s (.string ByteArray.empty))], [], 0, none⟩ = trimRF_s3 x13 (fun (a14 : ByteArray) => some (.s (.string a14), [])) := by kernel_rfl
noncomputable def trimRF_s1 {R : Type} (s : ByteArray) (c0 : ByteArray → Option R) : Option R :=
  c0 s
theorem trimRF_s1_eq (fuel : Nat)  (s : ByteArray) : callN Tryd.prog mode1 T_trimL fuel 165 [.s (.string s), .s (.int .u8 0)] [] = trimRF_s1 s (fun (a12 : ByteArray) => lpN (sub (bodyOf Tryd.prog 165) [1, 0, 0, 0]) (fnX Tryd.prog mode1 T_trimL fuel 23 0) 4194321 [0, 1, 4] fuel ⟨[(0, .s (.string a12)), (1, .s (.int .u8 0)), (4, .s (.string ByteArray.empty))], [], 0, none⟩ (kont (fnX Tryd.prog mode1 T_trimL fuel 23 0) (bodyOf Tryd.prog 165) [1, 0, 0] 16 (endK Tryd.prog 0 0 165))) := by kernel_rfl
noncomputable def trimRF {R : Type} (fuel : Nat) (s : ByteArray) (r0 : ByteArray → Option R) : Option R :=
  (trimRF_s1 s (fun (a12 : ByteArray) => (trimRF_l1 fuel (fun (x13 : ByteArray) => (trimRF_s3 x13 (fun (a14 : ByteArray) => r0 a14))) fuel a12)))
theorem trimRF_eq (fuel : Nat) (s : ByteArray) : callN Tryd.prog mode1 T_trimL fuel 165 [.s (.string s), .s (.int .u8 0)] [] = trimRF fuel s (fun (z0 : ByteArray) => some (.s (.string z0), [])) := by
  unfold trimRF
  exact (trimRF_s1_eq fuel  s).trans (congr (Eq.refl (trimRF_s1 (R := Out) s)) (funext fun a12 => (trimRF_l1_eq fuel  (kont (fnX Tryd.prog mode1 T_trimL fuel 23 0) (bodyOf Tryd.prog 165) [1, 0, 0] 16 (endK Tryd.prog 0 0 165)) fuel a12).trans (congrFun (congrFun (congr (Eq.refl (trimRF_l1 (R := Out) fuel )) (funext fun x13 => (trimRF_s3_eq fuel  x13))) fuel) a12)))
theorem trimR_loop {R : Type} (fuel : Nat) (k0 : ByteArray → Option R) : ∀ (k : Nat) (s : ByteArray), s.size < k → s.size ≤ 1000000000000 → trimRF_l1 fuel k0 k s = k0 (trimRS s)
  | 0, s, h, _ => by omega
  | k + 1, s, h, hx => by
    unfold trimRF_l1 trimRF_s2
    rw [br_if, trimRS_eq]
    unfold trimRI
    by_cases hc : 0 < s.size
    · obtain ⟨c, e1, e2⟩ := ix_byte s (s.size - 1) (by omega)
      have hl := bytes_len s
      have hb : bytesL s = (bytesL s).take (s.size - 1) ++ [(bytesL s).getD (s.size - 1) 0] := by
        conv => lhs; rw [← List.take_length (l := bytesL s), hl, show s.size = (s.size - 1) + 1 by omega, List.take_succ_eq_append_getElem (by omega)]
        rw [getD_get (by omega)]
      rw [if_pos (by simp; omega), wrap_i64 (by omega) (by omega), show ((s.size : Nat) : Int) - 1 = ((s.size - 1 : Nat) : Int) by omega, bnd_of e1, br_if, e2]
      by_cases hz : (bytesL s).getD (s.size - 1) 0 = 0
      · have hu : upTo ((s.size - 1 : Nat) : Int) s.size = some (s.size - 1) := by rw [upTo_of (by omega) (by omega)]; rfl
        have hsz : (s.extract 0 (s.size - 1)).size = s.size - 1 := by rw [ByteArray.size_extract]; omega
        rw [if_pos (by simpa using hz), bnd_of hu]
        dsimp only
        rw [trimR_loop fuel k0 k _ (by omega) (by omega), trimRS_eq]
        unfold trimRI
        have hd : bytesL (s.extract 0 (s.size - 1)) = (bytesL s).take (s.size - 1) := by
          unfold bytesL
          rw [ByteArray.data_extract, Array.toList_extract, ← List.map_take, List.extract_eq_take_drop, List.drop_zero, Nat.sub_zero]
        rw [hd]
        conv => rhs; rw [hb]
        rw [List.reverse_append, List.reverse_singleton, List.singleton_append, List.dropWhile_cons_of_pos (by simpa using hz)]
      · rw [if_neg (by simpa using hz)]
        congr 1
        conv => rhs; rw [hb]
        rw [List.reverse_append, List.reverse_singleton, List.singleton_append, List.dropWhile_cons_of_neg (by simpa using hz), ← List.singleton_append, ← List.reverse_singleton, ← List.reverse_append, ← hb, List.reverse_reverse, txt_bytes]
    · rw [if_neg (by rw [decide_eq_true_eq]; omega)]
      have : bytesL s = [] := List.eq_nil_of_length_eq_zero (by rw [bytes_len]; omega)
      rw [this, eq_empty.2 this]; rfl
theorem trimR_fact (s : ByteArray) (hg : (decide (s.size ≤ 1000000000000)) = true) : Fact Tryd.prog noG 165 [.s (.string s), .s (.int .u8 0)] [] (.s (.string (trimRS s)), []) := by
  refine callN_fact hN hM T_trimL_ok (n := s.size + 1) (mode := mode1) ?_
  rw [trimRF_eq]
  unfold trimRF trimRF_s1
  dsimp only
  rw [trimR_loop _ _ _ _ (by omega) (by simpa using hg)]
  rfl
noncomputable def trimR_ent : List V → List Blk → Option (Bool × Out)
  | [.s (.string s), .s (.int .u8 0)], [] => some ((decide (s.size ≤ 1000000000000)), (.s (.string (trimRS s)), []))
  | _, _ => none
theorem trimR_ok : ∀ args bs out, trimR_ent args bs = some (true, out) → Fact Tryd.prog noG 165 args bs out := by
  intro args bs out h
  unfold trimR_ent at h
  split at h
  · rename_i s
    simp only [Option.some.injEq, Prod.mk.injEq] at h
    obtain ⟨hg, rfl⟩ := h
    exact trimR_fact s hg
  · cases h
noncomputable def T_trimR : Tbl := Tbl.cons 165 trimR_ent T_trimL
theorem T_trimR_ok : CallOk Tryd.prog noG T_trimR := cons_ok T_trimL_ok trimR_ok
/-! strings.Trim -/
noncomputable def trimF_s1 {R : Type} (s : ByteArray) (c0 : ByteArray → Option R) : Option R :=
  br (eqS s ByteArray.empty)
    (c0 s)
    (grd (decide (s.size ≤ 1000000000000)) <|
    c0 (trimLS (trimRS s)))
theorem trimF_s1_eq (fuel : Nat)  (s : ByteArray) : callN Tryd.prog mode1 T_trimR fuel 117 [.s (.string s), .s (.string (⟨#[0]⟩ : ByteArray))] [] = trimF_s1 s (fun (a1 : ByteArray) => some (.s (.string a1), [])) := by kernel_rfl
noncomputable def trimF {R : Type} (fuel : Nat) (s : ByteArray) (r0 : ByteArray → Option R) : Option R :=
  (trimF_s1 s (fun (a1 : ByteArray) => r0 a1))
theorem trimF_eq (fuel : Nat) (s : ByteArray) : callN Tryd.prog mode1 T_trimR fuel 117 [.s (.string s), .s (.string (⟨#[0]⟩ : ByteArray))] [] = trimF fuel s (fun (z0 : ByteArray) => some (.s (.string z0), [])) := by
  unfold trimF
  exact (trimF_s1_eq fuel  s)
theorem trim_fact (s : ByteArray) (hg : (decide (s.size ≤ 1000000000000)) = true) : Fact Tryd.prog noG 117 [.s (.string s), .s (.string (⟨#[0]⟩ : ByteArray))] [] (.s (.string (trimLS (trimRS s))), []) := by
  refine callN_fact hN hM T_trimR_ok (n := 0) (mode := mode1) ?_
  rw [trimF_eq]
  unfold trimF trimF_s1
  rw [br_if]
  by_cases h : s = ByteArray.empty
  · rw [if_pos (eqS_iff.2 h)]
    subst h
    have e1 : trimRS ByteArray.empty = ByteArray.empty := by rw [trimRS_eq]; rfl
    have e2 : trimLS ByteArray.empty = ByteArray.empty := by rw [trimLS_eq]; rfl
    rw [e1, e2]
  · rw [if_neg (fun e => h (eqS_iff.1 e)), grd_of hg]
noncomputable def trim_ent : List V → List Blk → Option (Bool × Out)
  | [.s (.string s), .s (.string y0)], [] => bif decide (y0.data.toList = [0]) then some ((decide (s.size ≤ 1000000000000)), (.s (.string (trimLS (trimRS s))), [])) else none
  | _, _ => none
theorem trim_ok : ∀ args bs out, trim_ent args bs = some (true, out) → Fact Tryd.prog noG 117 args bs out := by
  intro args bs out h
  unfold trim_ent at h
  split at h
  · rename_i s y0
    replace h := cond_eq.1 h
    obtain ⟨e_y0, h⟩ := h
    obtain rfl := ba_eq (of_decide_eq_true e_y0)
    simp only [Option.some.injEq, Prod.mk.injEq] at h
    obtain ⟨hg, rfl⟩ := h
    exact trim_fact s hg
  · cases h
noncomputable def T_trim : Tbl := Tbl.cons 117 trim_ent T_trimR
theorem T_trim_ok : CallOk Tryd.prog noG T_trim := cons_ok T_trimR_ok trim_ok
/-! downpour/block.Nought -/
noncomputable def NoughtF_s1 {R : Type} (s : ByteArray) (c0 : Bool → Option R) : Option R :=
  grd (decide (s.size ≤ 1000000000000)) <|
  c0 (eqS (trimLS (trimRS s)) ByteArray.empty)
theorem NoughtF_s1_eq (fuel : Nat)  (s : ByteArray) : callN Tryd.prog mode1 T_trim fuel 60 [.s (.string s)] [] = NoughtF_s1 s (fun (a1 : Bool) => some (.s (.bool a1), [])) := by kernel_rfl
noncomputable def NoughtF {R : Type} (fuel : Nat) (s : ByteArray) (r0 : Bool → Option R) : Option R :=
  (NoughtF_s1 s (fun (a1 : Bool) => r0 a1))
theorem NoughtF_eq (fuel : Nat) (s : ByteArray) : callN Tryd.prog mode1 T_trim fuel 60 [.s (.string s)] [] = NoughtF fuel s (fun (z0 : Bool) => some (.s (.bool z0), [])) := by
  unfold NoughtF
  exact (NoughtF_s1_eq fuel  s)
theorem dw_nil {l : List Int} : (l.dropWhile fun x => decide (x = 0)) = [] ↔ ∀ x, x ∈ l → x = 0 := by
  induction l with
  | nil => simp
  | cons x t ih =>
    by_cases h : x = 0
    · rw [List.dropWhile_cons_of_pos (by simpa using h), ih]; simp [h]
    · rw [List.dropWhile_cons_of_neg (by simpa using h)]; simp [h]
theorem nought_trim (s : ByteArray) : eqS (trimLS (trimRS s)) ByteArray.empty = nought s := by
  rw [nought_eq, eqS_decide]
  unfold noughtI
  rw [decide_eq_decide, eq_empty, trimLS_eq, trimRS_eq]
  unfold trimLI trimRI
  have h1 : ByteOk ((bytesL s).reverse.dropWhile fun x => decide (x = 0)).reverse := fun x hx => bytes_ok s x (List.mem_reverse.1 ((List.dropWhile_sublist _).subset (List.mem_reverse.1 hx)))
  rw [bytes_txt h1]
  rw [bytes_txt fun x hx => h1 x ((List.dropWhile_sublist _).subset hx), dw_nil]
  constructor
  · intro h x hx
    refine Classical.byContradiction fun hn => ?_
    have hne : (bytesL s).reverse.dropWhile (fun x => decide (x = 0)) ≠ [] := fun e => hn (dw_nil.1 e x (List.mem_reverse.2 hx))
    have := List.head_dropWhile_not (fun x : Int => decide (x = 0)) hne
    have hm := h _ (List.mem_reverse.2 (List.head_mem hne))
    rw [hm] at this
    simp at this
  · intro h x hx
    exact h x (List.mem_reverse.1 ((List.dropWhile_sublist _).subset (List.mem_reverse.1 hx)))
theorem Nought_fact (s : ByteArray) (hg : (decide (s.size ≤ 1000000000000)) = true) : Fact Tryd.prog noG 60 [.s (.string s)] [] (.s (.bool (nought s)), []) := by
  refine callN_fact hN hM T_trim_ok (n := 0) (mode := mode1) ?_
  rw [NoughtF_eq]
  unfold NoughtF NoughtF_s1
  rw [grd_of hg, nought_trim]
noncomputable def Nought_ent : List V → List Blk → Option (Bool × Out)
  | [.s (.string s)], [] => some ((decide (s.size ≤ 1000000000000)), (.s (.bool (nought s)), []))
  | _, _ => none
theorem Nought_ok : ∀ args bs out, Nought_ent args bs = some (true, out) → Fact Tryd.prog noG 60 args bs out := by
  intro args bs out h
  unfold Nought_ent at h
  split at h
  · rename_i s
    simp only [Option.some.injEq, Prod.mk.injEq] at h
    obtain ⟨hg, rfl⟩ := h
    exact Nought_fact s hg
  · cases h
noncomputable def T_Nought : Tbl := Tbl.cons 60 Nought_ent T_trim
theorem T_Nought_ok : CallOk Tryd.prog noG T_Nought := cons_ok T_trim_ok Nought_ok
def mode2 : FuncId → Nat := fun f => 0
/-! strings.Repeat -/
def laysRep_ren : Go.Shelf.Ren := ⟨fun | 105 => 116 | 212 => 158 | 99 => 159 | 165 => 160 | 166 => 161 | 170 => 162 | 169 => 163 | 263 => 186 | 264 => 187 | 206 => 188 | 240 => 189 | 241 => 190 | 276 => 201 | 277 => 202 | n => n, fun | 9 => 9 | 3 => 3 | 4 => 4 | 20 => 20 | 0 => 0 | 46 => 191 | 109 => 192 | 5 => 5 | 72 => 197 | 76 => 201 | 51 => 222 | 146 => 223 | 53 => 22 | 148 => 160 | 70 => 195 | 37 => 73 | 75 => 200 | 127 => 226 | 164 => 236 | 80 => 204 | n => n, fun | n => n⟩
theorem laysRep : Go.Proofs.Lays.n105 Tryd.prog laysRep_ren where
  mixed := by kernel_rfl
  f99 := Tryd.func159.trans (congrArg some (by kernel_rfl))
  f105 := Tryd.func116.trans (congrArg some (by kernel_rfl))
  f165 := Tryd.func160.trans (congrArg some (by kernel_rfl))
  f166 := Tryd.func161.trans (congrArg some (by kernel_rfl))
  f169 := Tryd.func163.trans (congrArg some (by kernel_rfl))
  f170 := Tryd.func162.trans (congrArg some (by kernel_rfl))
  f206 := Tryd.func188.trans (congrArg some (by kernel_rfl))
  f212 := Tryd.func158.trans (congrArg some (by kernel_rfl))
  f240 := Tryd.func189.trans (congrArg some (by kernel_rfl))
  f241 := Tryd.func190.trans (congrArg some (by kernel_rfl))
  f263 := Tryd.func186.trans (congrArg some (by kernel_rfl))
  f264 := Tryd.func187.trans (congrArg some (by kernel_rfl))
  f276 := Tryd.func201.trans (congrArg some (by kernel_rfl))
  f277 := Tryd.func202.trans (congrArg some (by kernel_rfl))
  t0 := Tryd.underlying0
  a0 := Tryd.isAgg0
  z0 := Tryd.sizeOf0
  v0 := Tryd.zeroValue0
  t3 := Tryd.underlying3
  a3 := Tryd.isAgg3
  z3 := Tryd.sizeOf3
  v3 := Tryd.zeroValue3
  t4 := Tryd.underlying4
  a4 := Tryd.isAgg4
  z4 := Tryd.sizeOf4
  v4 := Tryd.zeroValue4
  t5 := Tryd.underlying5
  a5 := Tryd.isAgg5
  z5 := Tryd.sizeOf5
  v5 := Tryd.zeroValue5
  t9 := Tryd.underlying9
  a9 := Tryd.isAgg9
  z9 := Tryd.sizeOf9
  v9 := Tryd.zeroValue9
  t20 := Tryd.underlying20
  a20 := Tryd.isAgg20
  z20 := Tryd.sizeOf20
  v20 := Tryd.zeroValue20
  t37 := Tryd.underlying73
  a37 := Tryd.isAgg73
  z37 := Tryd.sizeOf73
  v37 := Tryd.zeroValue73
  t46 := Tryd.underlying191
  a46 := Tryd.isAgg191
  z46 := Tryd.sizeOf191
  v46 := Tryd.zeroValue191
  t51 := Tryd.underlying222
  a51 := Tryd.isAgg222
  z51 := Tryd.sizeOf222
  v51 := Tryd.zeroValue222
  t53 := Tryd.underlying22
  a53 := Tryd.isAgg22
  z53 := Tryd.sizeOf22
  v53 := Tryd.zeroValue22
  t70 := Tryd.underlying195
  a70 := Tryd.isAgg195
  z70 := Tryd.sizeOf195
  v70 := Tryd.zeroValue195
  t72 := Tryd.underlying197
  a72 := Tryd.isAgg197
  z72 := Tryd.sizeOf197
  v72 := Tryd.zeroValue197
  t75 := Tryd.underlying200
  a75 := Tryd.isAgg200
  z75 := Tryd.sizeOf200
  v75 := Tryd.zeroValue200
  t76 := Tryd.underlying201
  a76 := Tryd.isAgg201
  z76 := Tryd.sizeOf201
  v76 := Tryd.zeroValue201
  t109 := Tryd.underlying192
  a109 := Tryd.isAgg192
  z109 := Tryd.sizeOf192
  v109 := Tryd.zeroValue192
  t127 := Tryd.underlying226
  a127 := Tryd.isAgg226
  z127 := Tryd.sizeOf226
  v127 := Tryd.zeroValue226
  t146 := Tryd.underlying223
  a146 := Tryd.isAgg223
  z146 := Tryd.sizeOf223
  v146 := Tryd.zeroValue223
  t148 := Tryd.underlying160
  a148 := Tryd.isAgg160
  z148 := Tryd.sizeOf160
  v148 := Tryd.zeroValue160
  t164 := Tryd.underlying236
  a164 := Tryd.isAgg236
  z164 := Tryd.sizeOf236
  v164 := Tryd.zeroValue236
theorem repX : Builder.Extra Tryd.prog laysRep_ren where
  sizeBuilder := by kernel_rfl
  liesBuilder := by kernel_rfl
  t5 := Tryd.underlying5
  a5 := Tryd.isAgg5
  z5 := Tryd.sizeOf5
  v5 := Tryd.zeroValue5
  infoByte := by kernel_rfl
  cellsByte := by kernel_rfl
  sizeByte := by kernel_rfl
  neB5 := by decide
theorem rep_zero (m : Nat) : (⟨(Lib.repeatL (⟨#[0]⟩ : ByteArray).data.toList m).toArray⟩ : ByteArray) = txt (zb m) := by
  have h : Lib.repeatL (⟨#[0]⟩ : ByteArray).data.toList m = List.replicate m 0 := by
    induction m with
    | zero => rfl
    | succ m ih => show _ ++ Lib.repeatL _ m = _; rw [ih]; rfl
  rw [h]
  unfold txt zb
  rw [List.map_replicate]
  rfl
theorem repeat_fact (n : Int) (hg : (sz64 n) = true) : Fact Tryd.prog noG 116 [.s (.string (⟨#[0]⟩ : ByteArray)), .s (.int .i64 n)] [] (.s (.string (txt (zb (n).toNat))), []) := by
  obtain ⟨h0, h1⟩ := sz64_iff.1 hg
  refine fact_below (Go.PM.enters_of (by kernel_rfl)) fun w ρ I xs hG hr => ?_
  simp only [RVs, RV] at hr
  obtain ⟨y, r, rfl, rfl, z, r2, rfl, rfl, rfl⟩ := hr
  obtain ⟨m, rfl⟩ : ∃ m : Nat, n = (m : Int) := ⟨n.toNat, by omega⟩
  have h := Any.strings_Repeat laysRep repX (⟨#[0]⟩ : ByteArray) m w (by omega) (by show 1 * m ≤ _; omega)
  refine h.mono fun e w' ⟨he, hw⟩ => ⟨_, he, hw, ?_⟩
  simp only [RV]
  rw [rep_zero, Int.toNat_natCast]
noncomputable def repeat_ent : List V → List Blk → Option (Bool × Out)
  | [.s (.string y0), .s (.int .i64 n)], [] => bif decide (y0.data.toList = [0]) then some ((sz64 n), (.s (.string (txt (zb (n).toNat))), [])) else none
  | _, _ => none
theorem repeat_ok : ∀ args bs out, repeat_ent args bs = some (true, out) → Fact Tryd.prog noG 116 args bs out := by
  intro args bs out h
  unfold repeat_ent at h
  split at h
  · rename_i y0 n
    replace h := cond_eq.1 h
    obtain ⟨e_y0, h⟩ := h
    obtain rfl := ba_eq (of_decide_eq_true e_y0)
    simp only [Option.some.injEq, Prod.mk.injEq] at h
    obtain ⟨hg, rfl⟩ := h
    exact repeat_fact n hg
  · cases h
noncomputable def T_repeat : Tbl := Tbl.cons 116 repeat_ent T_Nought
theorem T_repeat_ok : CallOk Tryd.prog noG T_repeat := cons_ok T_Nought_ok repeat_ok
/-! downpour/block.Zero -/
noncomputable def BzeroF_s1 {R : Type} (n : Int) (c0 : ByteArray → Int → Option R) : Option R :=
  br (!(sz64 n))
    (c0 ByteArray.empty 2)
    (grd (sz64 n) <|
    c0 (txt (zb (n).toNat)) 0)
theorem BzeroF_s1_eq (fuel : Nat)  (n : Int) : callN Tryd.prog mode2 T_repeat fuel 57 [.s (.int .i64 n)] [] = BzeroF_s1 n (fun (a1 : ByteArray) (a2 : Int) => some (.tup [.s (.string a1), .s (.int .i64 a2)], [])) := by kernel_rfl
noncomputable def BzeroF {R : Type} (fuel : Nat) (n : Int) (r0 : ByteArray → Int → Option R) : Option R :=
  (BzeroF_s1 n (fun (a1 : ByteArray) (a2 : Int) => r0 a1 a2))
theorem BzeroF_eq (fuel : Nat) (n : Int) : callN Tryd.prog mode2 T_repeat fuel 57 [.s (.int .i64 n)] [] = BzeroF fuel n (fun (z0 : ByteArray) (z1 : Int) => some (.tup [.s (.string z0), .s (.int .i64 z1)], [])) := by
  unfold BzeroF
  exact (BzeroF_s1_eq fuel  n)
theorem Bzero_fact (n : Int) : Fact Tryd.prog noG 57 [.s (.int .i64 n)] [] (.tup [.s (.string (zeroT n)), .s (.int .i64 (if sz64 n = true then 0 else 2))], []) := by
  refine callN_fact hN hM T_repeat_ok (n := 0) (mode := mode2) ?_
  rw [BzeroF_eq]
  unfold BzeroF BzeroF_s1
  rw [br_if, zeroT_eq]
  unfold zeroTI
  by_cases h : sz64 n = true
  · rw [if_neg (by simp [h]), grd_of h, if_pos h, if_pos h]
  · rw [if_pos (by simp [h]), if_neg h, if_neg h]
noncomputable def Bzero_ent : List V → List Blk → Option (Bool × Out)
  | [.s (.int .i64 n)], [] => some (true, (.tup [.s (.string (zeroT n)), .s (.int .i64 (if sz64 n = true then 0 else 2))], []))
  | _, _ => none
theorem Bzero_ok : ∀ args bs out, Bzero_ent args bs = some (true, out) → Fact Tryd.prog noG 57 args bs out := by
  intro args bs out h
  unfold Bzero_ent at h
  split at h
  · rename_i n
    simp only [Option.some.injEq, Prod.mk.injEq] at h
    obtain ⟨_, rfl⟩ := h
    exact Bzero_fact n
  · cases h
noncomputable def T_Bzero : Tbl := Tbl.cons 57 Bzero_ent T_repeat
theorem T_Bzero_ok : CallOk Tryd.prog noG T_Bzero := cons_ok T_repeat_ok Bzero_ok
def mode3 : FuncId → Nat := fun f => 0
/-! downpour/downpourref02.Why -/
noncomputable def refWhyF_s2 {R : Type} (w6 : Int) (w7 : Int) (l : List ByteArray) (n : Int) (c0 : Option R) (c1 : Int → Int → Option R) (c2 : Option R) : Option R :=
  br (decide (w6 < w7))
    (bnd (ix l w6) fun e9 =>
    br (((e9.size : Nat) : Int) != n)
      (c0)
      (c1 w7 (IntKind.i64.wrap (w6 + 1))))
    (c2)
theorem refWhyF_s2_eq (fuel : Nat) (k : Nat) (K : Ex → St → Option Out) (w6 : Int) (w7 : Int) (l : List ByteArray) (n : Int) : lpN (sub (bodyOf Tryd.prog 65) [1, 1, 0, 1, 0, 0]) (fnX Tryd.prog mode3 T_Bzero fuel 29 0) 16 [0, 4, 18, 19, 20] (k + 1) ⟨[(0, .s (.int .i64 n)), (4, .s (.int .i64 0)), (18, .ls l), (19, .s (.int .i64 w7)), (20, .s (.int .i64 w6))], [], 0, none⟩ K = refWhyF_s2 w6 w7 l n (K .ret ⟨[(4, .s (.int .i64 2))], [], 0, none⟩) (fun (a10 : Int) (a11 : Int) => lpN (sub (bodyOf Tryd.prog 65) [1, 1, 0, 1, 0, 0]) (fnX Tryd.prog mode3 T_Bzero fuel 29 0) 16 [0, 4, 18, 19, 20] k ⟨[(0, .s (.int .i64 n)), (4, .s (.int .i64 0)), (18, .ls l), (19, .s (.int .i64 a10)), (20, .s (.int .i64 a11))], [], 0, none⟩ K) (K (.exit 0) ⟨[(4, .s (.int .i64 0))], [], 0, none⟩) := by kernel_rfl
noncomputable def refWhyF_l1 {R : Type} (fuel : Nat) (n : Int) (l : List ByteArray) (k0 : Option R) (k1 : Option R) : Nat → Int → Int → Option R
  | 0, _, _ => none
  | k + 1, w7, w6 =>
    (refWhyF_s2 w6 w7 l n (k0) (fun (a10 : Int) (a11 : Int) => ( refWhyF_l1 fuel n l k0 k1 k a10 a11 )) (k1))
theorem refWhyF_l1_eq (fuel : Nat) (n : Int) (l : List ByteArray) (K : Ex → St → Option Out) : ∀ (k : Nat) (w7 : Int) (w6 : Int), lpN (sub (bodyOf Tryd.prog 65) [1, 1, 0, 1, 0, 0]) (fnX Tryd.prog mode3 T_Bzero fuel 29 0) 16 [0, 4, 18, 19, 20] k ⟨[(0, .s (.int .i64 n)), (4, .s (.int .i64 0)), (18, .ls l), (19, .s (.int .i64 w7)), (20, .s (.int .i64 w6))], [], 0, none⟩ K = refWhyF_l1 fuel n l (K .ret ⟨[(4, .s (.int .i64 2))], [], 0, none⟩) (K (.exit 0) ⟨[(4, .s (.int .i64 0))], [], 0, none⟩) k w7 w6
  | 0, _, _ => rfl
  | k + 1, w7, w6 => by
    unfold refWhyF_l1
    exact (refWhyF_s2_eq fuel k K w6 w7 l n).trans (congr (congr (congr (Eq.refl (refWhyF_s2 (R := Out) w6 w7 l n)) (rfl)) (funext fun a10 => funext fun a11 => refWhyF_l1_eq fuel n l K k a10 a11)) (rfl))
noncomputable def refWhyF_s3 {R : Type}  (c0 : Int → Option R) : Option R :=
  c0 2
theorem refWhyF_s3_eq (fuel : Nat)   : (kont (fnX Tryd.prog mode3 T_Bzero fuel 29 0) (bodyOf Tryd.prog 65) [1, 1, 0, 1, 0] 16 (endK Tryd.prog 0 0 65)) .ret ⟨[(4, .s (.int .i64 2))], [], 0, none⟩ = refWhyF_s3  (fun (a14 : Int) => some (.s (.int .i64 a14), [])) := by kernel_rfl
noncomputable def refWhyF_s4 {R : Type}  (c0 : Int → Option R) : Option R :=
  c0 0
theorem refWhyF_s4_eq (fuel : Nat)   : (kont (fnX Tryd.prog mode3 T_Bzero fuel 29 0) (bodyOf Tryd.prog 65) [1, 1, 0, 1, 0] 16 (endK Tryd.prog 0 0 65)) (.exit 0) ⟨[(4, .s (.int .i64 0))], [], 0, none⟩ = refWhyF_s4  (fun (a15 : Int) => some (.s (.int .i64 a15), [])) := by kernel_rfl
noncomputable def refWhyF_s1 {R : Type} (n : Int) (l : List ByteArray) (c0 : Int → Option R) (c1 : Int → Int → Option R) : Option R :=
  br (decide (n < 0))
    (c0 2)
    (br (decide (n > 64))
      (c0 2)
      (br (decide ((((l.length : Nat) : Int) : Int) > 64))
        (c0 2)
        (c1 ((l.length : Nat) : Int) 0)))
theorem refWhyF_s1_eq (fuel : Nat)  (n : Int) (l : List ByteArray) : callN Tryd.prog mode3 T_Bzero fuel 65 [.s (.int .i64 n), .ls l] [] = refWhyF_s1 n l (fun (a1 : Int) => some (.s (.int .i64 a1), [])) (fun (a12 : Int) (a13 : Int) => lpN (sub (bodyOf Tryd.prog 65) [1, 1, 0, 1, 0, 0]) (fnX Tryd.prog mode3 T_Bzero fuel 29 0) 16 [0, 4, 18, 19, 20] fuel ⟨[(0, .s (.int .i64 n)), (4, .s (.int .i64 0)), (18, .ls l), (19, .s (.int .i64 a12)), (20, .s (.int .i64 a13))], [], 0, none⟩ (kont (fnX Tryd.prog mode3 T_Bzero fuel 29 0) (bodyOf Tryd.prog 65) [1, 1, 0, 1, 0] 16 (endK Tryd.prog 0 0 65))) := by kernel_rfl
noncomputable def refWhyF {R : Type} (fuel : Nat) (n : Int) (l : List ByteArray) (r0 : Int → Option R) : Option R :=
  (refWhyF_s1 n l (fun (a1 : Int) => r0 a1) (fun (a12 : Int) (a13 : Int) => (refWhyF_l1 fuel n l ((refWhyF_s3 (fun (a14 : Int) => r0 a14))) ((refWhyF_s4 (fun (a15 : Int) => r0 a15))) fuel a12 a13)))
theorem refWhyF_eq (fuel : Nat) (n : Int) (l : List ByteArray) : callN Tryd.prog mode3 T_Bzero fuel 65 [.s (.int .i64 n), .ls l] [] = refWhyF fuel n l (fun (z0 : Int) => some (.s (.int .i64 z0), [])) := by
  unfold refWhyF
  exact (refWhyF_s1_eq fuel  n l).trans (congr (congr (Eq.refl (refWhyF_s1 (R := Out) n l)) (rfl)) (funext fun a12 => funext fun a13 => (refWhyF_l1_eq fuel n l (kont (fnX Tryd.prog mode3 T_Bzero fuel 29 0) (bodyOf Tryd.prog 65) [1, 1, 0, 1, 0] 16 (endK Tryd.prog 0 0 65)) fuel a12 a13).trans (congrFun (congrFun (congrFun (congr (congr (Eq.refl (refWhyF_l1 (R := Out) fuel n l)) ((refWhyF_s3_eq fuel  ))) ((refWhyF_s4_eq fuel  ))) fuel) a12) a13)))
theorem refWhy_loop {R : Type} (fuel : Nat) (n : Int) (l : List ByteArray) (hx : l.length ≤ 1000000) (k0 k1 : Option R) : ∀ (k j : Nat), j ≤ l.length → l.length < j + k → refWhyF_l1 fuel n l k0 k1 k (l.length : Int) (j : Int) = if (∀ s ∈ l.drop j, (s.size : Int) = n) then k1 else k0
  | 0, j, h1, h2 => by omega
  | k + 1, j, h1, h2 => by
    unfold refWhyF_l1 refWhyF_s2
    rw [br_if]
    by_cases hc : j < l.length
    · rw [if_pos (by simpa using hc), bnd_of ((ix_nat l j).trans (List.getElem?_eq_getElem hc)), br_if, List.drop_eq_getElem_cons hc, wrap_i64 (by omega) (by omega), show (j : Int) + 1 = ((j + 1 : Nat) : Int) by omega]
      dsimp only
      rw [refWhy_loop fuel n l hx k0 k1 k (j + 1) (by omega) (by omega)]
      generalize l[j] = x
      generalize l.drop (j + 1) = t
      by_cases he : ((x.size : Nat) : Int) = n <;> simp [he]
    · rw [if_neg (by simpa using hc), List.drop_eq_nil_of_le (by omega)]
      simp
theorem refWhy_fact (n : Int) (l : List ByteArray) : Fact Tryd.prog noG 65 [.s (.int .i64 n), .ls l] [] (.s (.int .i64 (errB n l)), []) := by
  refine callN_fact hN hM T_Bzero_ok (n := 66) (mode := mode3) ?_
  rw [refWhyF_eq]
  unfold refWhyF refWhyF_s1 errB
  have hno : ∀ h : ¬ bok n l = true, bok n l = false := fun h => by rw [Bool.eq_false_iff]; exact h
  rw [br_if]
  by_cases h0 : n < 0
  · rw [if_pos (by simpa using h0), hno fun h => by have := (bok_iff.1 h).1; omega]; rfl
  · rw [if_neg (by simpa using h0), br_if]
    by_cases h1 : n > 64
    · rw [if_pos (by simpa using h1), hno fun h => by have := (bok_iff.1 h).1; omega]; rfl
    · rw [if_neg (by simpa using h1), br_if]
      by_cases hx : l.length ≤ 64
      · rw [if_neg (by simp; omega)]
        have := refWhy_loop (R := Out) 66 n l (by omega)
        dsimp only
        rw [show (0 : Int) = ((0 : Nat) : Int) from rfl, this _ _ 66 0 (by omega) (by omega), List.drop_zero]
        by_cases ha : ∀ s ∈ l, (s.size : Int) = n
        · rw [if_pos ha, if_pos (bok_iff.2 ⟨⟨by omega, by omega⟩, hx, ha⟩)]; rfl
        · rw [if_neg ha, hno fun h => ha (bok_iff.1 h).2.2]; rfl
      · rw [if_pos (by simp; omega), hno fun h => hx (bok_iff.1 h).2.1]; rfl
noncomputable def refWhy_ent : List V → List Blk → Option (Bool × Out)
  | [.s (.int .i64 n), w0], [] => (asSl .str w0).bind fun l => some (true, (.s (.int .i64 (errB n l)), []))
  | _, _ => none
theorem refWhy_ok : ∀ args bs out, refWhy_ent args bs = some (true, out) → Fact Tryd.prog noG 65 args bs out := by
  intro args bs out h
  unfold refWhy_ent at h
  split at h
  · rename_i n w0
    obtain ⟨l, h_l, h⟩ := Option.bind_eq_some_iff.1 h
    simp only [Option.some.injEq, Prod.mk.injEq] at h
    obtain ⟨_, rfl⟩ := h
    exact (refWhy_fact n l).args (fun _ _ _ => fun _ h => RVs_two (fun _ h => h) (fun _ h => RVs_two (fun _ h => RV_ls h_l h) (fun _ h => h) h) h)
  · cases h
noncomputable def T_refWhy : Tbl := Tbl.cons 65 refWhy_ent T_Bzero
theorem T_refWhy_ok : CallOk Tryd.prog noG T_refWhy := cons_ok T_Bzero_ok refWhy_ok
/-! downpour/downpourref02.Sum -/
noncomputable def refSumF_s3 {R : Type} (w64 : Int) (w66 : Int) (l : List ByteArray) (b : List Int) (w28 : Int) (w63 : Int) (w65 : Bool) (n : Int) (w27 : Nat) (w29 : List Int) (c0 : Int → Bool → Int → Int → Option R) (c1 : Int → Bool → Int → Int → Option R) (c2 : Int → Bool → Int → Int → Bool → Option R) : Option R :=
  br (decide (w64 < w66))
    (bnd (ix l w64) fun e75 =>
    bnd (ix b w64) fun e76 =>
    br (e76 == 1)
      (bnd (ix e75.data.toList w28) fun ub77 =>
      c0 (xorI .u8 w63 ((ub77.toNat : Nat) : Int)) w65 w66 (IntKind.i64.wrap (w64 + 1)))
      (c1 w63 w65 w66 (IntKind.i64.wrap (w64 + 1))))
    (c2 w63 w65 w66 w64 (decide (w64 < w66)))
theorem refSumF_s3_eq (fuel : Nat) (k : Nat) (K : Ex → St → Option Out) (w64 : Int) (w66 : Int) (l : List ByteArray) (b : List Int) (w28 : Int) (w63 : Int) (w65 : Bool) (n : Int) (w27 : Nat) (w29 : List Int) : lpN (sub (sub (bodyOf Tryd.prog 63) [1, 1, 0, 1, 0, 0]) [1, 0, 0, 1, 0, 1, 0, 0]) (fnX Tryd.prog mode3 T_refWhy fuel 42 0) 4398046506951 [0, 1, 2, 6, 7, 8, 9, 13, 14, 15, 18, 19, 20] (k + 1) ⟨[(0, .s (.int .i64 n)), (1, .ls l), (2, .li .i64 b), (6, .s (.string ByteArray.empty)), (7, .sl 0 1 0 w27), (8, .s (.int .i64 w28)), (9, .s (.int .u8 w63)), (13, .s (.int .i64 w28)), (14, .s (.int .i64 n)), (15, .s (.bool w65)), (18, .ls l), (19, .s (.int .i64 w66)), (20, .s (.int .i64 w64))], [(0, some ⟨5, .li .u8 w29, true⟩)], 1, none⟩ K = refSumF_s3 w64 w66 l b w28 w63 w65 n w27 w29 (fun (a78 : Int) (a79 : Bool) (a80 : Int) (a81 : Int) => lpN (sub (sub (bodyOf Tryd.prog 63) [1, 1, 0, 1, 0, 0]) [1, 0, 0, 1, 0, 1, 0, 0]) (fnX Tryd.prog mode3 T_refWhy fuel 42 0) 4398046506951 [0, 1, 2, 6, 7, 8, 9, 13, 14, 15, 18, 19, 20] k ⟨[(0, .s (.int .i64 n)), (1, .ls l), (2, .li .i64 b), (6, .s (.string ByteArray.empty)), (7, .sl 0 1 0 w27), (8, .s (.int .i64 w28)), (9, .s (.int .u8 a78)), (13, .s (.int .i64 w28)), (14, .s (.int .i64 n)), (15, .s (.bool a79)), (18, .ls l), (19, .s (.int .i64 a80)), (20, .s (.int .i64 a81))], [(0, some ⟨5, .li .u8 w29, true⟩)], 1, none⟩ K) (fun (a82 : Int) (a83 : Bool) (a84 : Int) (a85 : Int) => lpN (sub (sub (bodyOf Tryd.prog 63) [1, 1, 0, 1, 0, 0]) [1, 0, 0, 1, 0, 1, 0, 0]) (fnX Tryd.prog mode3 T_refWhy fuel 42 0) 4398046506951 [0, 1, 2, 6, 7, 8, 9, 13, 14, 15, 18, 19, 20] k ⟨[(0, .s (.int .i64 n)), (1, .ls l), (2, .li .i64 b), (6, .s (.string ByteArray.empty)), (7, .sl 0 1 0 w27), (8, .s (.int .i64 w28)), (9, .s (.int .u8 a82)), (13, .s (.int .i64 w28)), (14, .s (.int .i64 n)), (15, .s (.bool a83)), (18, .ls l), (19, .s (.int .i64 a84)), (20, .s (.int .i64 a85))], [(0, some ⟨5, .li .u8 w29, true⟩)], 1, none⟩ K) (fun (a86 : Int) (a87 : Bool) (a88 : Int) (a89 : Int) (a90 : Bool) => K (.exit 2) ⟨[(0, .s (.int .i64 n)), (1, .ls l), (2, .li .i64 b), (6, .s (.string ByteArray.empty)), (7, .sl 0 1 0 w27), (8, .s (.int .i64 w28)), (9, .s (.int .u8 a86)), (13, .s (.int .i64 w28)), (14, .s (.int .i64 n)), (15, .s (.bool a87)), (18, .ls l), (19, .s (.int .i64 a88)), (20, .s (.int .i64 a89)), (21, .s (.bool a90))], [(0, some ⟨5, .li .u8 w29, true⟩)], 1, none⟩) := by kernel_rfl
noncomputable def refSumF_l2 {R : Type} (fuel : Nat) (n : Int) (l : List ByteArray) (b : List Int) (w27 : Nat) (w28 : Int) (w29 : List Int) (k0 : Int → Bool → Int → Int → Bool → Option R) : Nat → Int → Bool → Int → Int → Option R
  | 0, _, _, _, _ => none
  | k + 1, w63, w65, w66, w64 =>
    (refSumF_s3 w64 w66 l b w28 w63 w65 n w27 w29 (fun (a78 : Int) (a79 : Bool) (a80 : Int) (a81 : Int) => ( refSumF_l2 fuel n l b w27 w28 w29 k0 k a78 a79 a80 a81 )) (fun (a82 : Int) (a83 : Bool) (a84 : Int) (a85 : Int) => ( refSumF_l2 fuel n l b w27 w28 w29 k0 k a82 a83 a84 a85 )) (fun (a86 : Int) (a87 : Bool) (a88 : Int) (a89 : Int) (a90 : Bool) => k0 a86 a87 a88 a89 a90))
theorem refSumF_l2_eq (fuel : Nat) (n : Int) (l : List ByteArray) (b : List Int) (w27 : Nat) (w28 : Int) (w29 : List Int) (K : Ex → St → Option Out) : ∀ (k : Nat) (w63 : Int) (w65 : Bool) (w66 : Int) (w64 : Int), lpN (sub (sub (bodyOf Tryd.prog 63) [1, 1, 0, 1, 0, 0]) [1, 0, 0, 1, 0, 1, 0, 0]) (fnX Tryd.prog mode3 T_refWhy fuel 42 0) 4398046506951 [0, 1, 2, 6, 7, 8, 9, 13, 14, 15, 18, 19, 20] k ⟨[(0, .s (.int .i64 n)), (1, .ls l), (2, .li .i64 b), (6, .s (.string ByteArray.empty)), (7, .sl 0 1 0 w27), (8, .s (.int .i64 w28)), (9, .s (.int .u8 w63)), (13, .s (.int .i64 w28)), (14, .s (.int .i64 n)), (15, .s (.bool w65)), (18, .ls l), (19, .s (.int .i64 w66)), (20, .s (.int .i64 w64))], [(0, some ⟨5, .li .u8 w29, true⟩)], 1, none⟩ K = refSumF_l2 fuel n l b w27 w28 w29 (fun (y70 : Int) (y71 : Bool) (y72 : Int) (y73 : Int) (y74 : Bool) => K (.exit 2) ⟨[(0, .s (.int .i64 n)), (1, .ls l), (2, .li .i64 b), (6, .s (.string ByteArray.empty)), (7, .sl 0 1 0 w27), (8, .s (.int .i64 w28)), (9, .s (.int .u8 y70)), (13, .s (.int .i64 w28)), (14, .s (.int .i64 n)), (15, .s (.bool y71)), (18, .ls l), (19, .s (.int .i64 y72)), (20, .s (.int .i64 y73)), (21, .s (.bool y74))], [(0, some ⟨5, .li .u8 w29, true⟩)], 1, none⟩) k w63 w65 w66 w64
  | 0, _, _, _, _ => rfl
  | k + 1, w63, w65, w66, w64 => by
    unfold refSumF_l2
    exact (refSumF_s3_eq fuel k K w64 w66 l b w28 w63 w65 n w27 w29).trans (congr (congr (congr (Eq.refl (refSumF_s3 (R := Out) w64 w66 l b w28 w63 w65 n w27 w29)) (funext fun a78 => funext fun a79 => funext fun a80 => funext fun a81 => refSumF_l2_eq fuel n l b w27 w28 w29 K k a78 a79 a80 a81)) (funext fun a82 => funext fun a83 => funext fun a84 => funext fun a85 => refSumF_l2_eq fuel n l b w27 w28 w29 K k a82 a83 a84 a85)) (rfl))
noncomputable def refSumF_s4 {R : Type} (w29 : List Int) (w27 : Nat) (x95 : Int) (w28 : Int) (n : Int) (l : List ByteArray) (b : List Int) (x96 : Bool) (x97 : Int) (x98 : Int) (x99 : Bool) (c0 : Nat → Int → List Int → Option R) : Option R :=
  grd (Nat.beq w29.length w27) <|
  grd (okN (w27 + 1) 1) <|
  c0 ((w29 ++ [x95]).length) (IntKind.i64.wrap (w28 + 1)) (w29 ++ [x95])
theorem refSumF_s4_eq (fuel : Nat) (k : Nat) (K : Ex → St → Option Out) (w29 : List Int) (w27 : Nat) (x95 : Int) (w28 : Int) (n : Int) (l : List ByteArray) (b : List Int) (x96 : Bool) (x97 : Int) (x98 : Int) (x99 : Bool) : (kont (fnX Tryd.prog mode3 T_refWhy fuel 42 0) (sub (bodyOf Tryd.prog 63) [1, 1, 0, 1, 0, 0]) [1, 0, 0, 1, 0, 1, 0] 4398046506951 (rdK (sub (bodyOf Tryd.prog 63) [1, 1, 0, 1, 0, 0]) (fnX Tryd.prog mode3 T_refWhy fuel 42 0) 3298534883520 [0, 1, 2, 6, 7, 8] k K)) (.exit 2) ⟨[(0, .s (.int .i64 n)), (1, .ls l), (2, .li .i64 b), (6, .s (.string ByteArray.empty)), (7, .sl 0 1 0 w27), (8, .s (.int .i64 w28)), (9, .s (.int .u8 x95)), (13, .s (.int .i64 w28)), (14, .s (.int .i64 n)), (15, .s (.bool x96)), (18, .ls l), (19, .s (.int .i64 x97)), (20, .s (.int .i64 x98)), (21, .s (.bool x99))], [(0, some ⟨5, .li .u8 w29, true⟩)], 1, none⟩ = refSumF_s4 w29 w27 x95 w28 n l b x96 x97 x98 x99 (fun (a100 : Nat) (a101 : Int) (a102 : List Int) => lpN (sub (bodyOf Tryd.prog 63) [1, 1, 0, 1, 0, 0]) (fnX Tryd.prog mode3 T_refWhy fuel 42 0) 3298534883520 [0, 1, 2, 6, 7, 8] k ⟨[(0, .s (.int .i64 n)), (1, .ls l), (2, .li .i64 b), (6, .s (.string ByteArray.empty)), (7, .sl 0 1 0 a100), (8, .s (.int .i64 a101))], [(0, some ⟨5, .li .u8 a102, true⟩)], 1, none⟩ K) := by kernel_rfl
noncomputable def refSumF_s2 {R : Type} (w28 : Int) (n : Int) (l : List ByteArray) (w27 : Nat) (w29 : List Int) (b : List Int) (c0 : Int → Bool → Int → Int → Option R) (c1 : Nat → List Int → Option R) : Option R :=
  br (decide (w28 < n))
    (c0 0 (decide (w28 < n)) ((l.length : Nat) : Int) 0)
    (c1 w27 w29)
theorem refSumF_s2_eq (fuel : Nat) (k : Nat) (K : Ex → St → Option Out) (w28 : Int) (n : Int) (l : List ByteArray) (w27 : Nat) (w29 : List Int) (b : List Int) : lpN (sub (bodyOf Tryd.prog 63) [1, 1, 0, 1, 0, 0]) (fnX Tryd.prog mode3 T_refWhy fuel 42 0) 3298534883520 [0, 1, 2, 6, 7, 8] (k + 1) ⟨[(0, .s (.int .i64 n)), (1, .ls l), (2, .li .i64 b), (6, .s (.string ByteArray.empty)), (7, .sl 0 1 0 w27), (8, .s (.int .i64 w28))], [(0, some ⟨5, .li .u8 w29, true⟩)], 1, none⟩ K = refSumF_s2 w28 n l w27 w29 b (fun (a91 : Int) (a92 : Bool) (a93 : Int) (a94 : Int) => lpN (sub (sub (bodyOf Tryd.prog 63) [1, 1, 0, 1, 0, 0]) [1, 0, 0, 1, 0, 1, 0, 0]) (fnX Tryd.prog mode3 T_refWhy fuel 42 0) 4398046506951 [0, 1, 2, 6, 7, 8, 9, 13, 14, 15, 18, 19, 20] fuel ⟨[(0, .s (.int .i64 n)), (1, .ls l), (2, .li .i64 b), (6, .s (.string ByteArray.empty)), (7, .sl 0 1 0 w27), (8, .s (.int .i64 w28)), (9, .s (.int .u8 a91)), (13, .s (.int .i64 w28)), (14, .s (.int .i64 n)), (15, .s (.bool a92)), (18, .ls l), (19, .s (.int .i64 a93)), (20, .s (.int .i64 a94))], [(0, some ⟨5, .li .u8 w29, true⟩)], 1, none⟩ (kont (fnX Tryd.prog mode3 T_refWhy fuel 42 0) (sub (bodyOf Tryd.prog 63) [1, 1, 0, 1, 0, 0]) [1, 0, 0, 1, 0, 1, 0] 4398046506951 (rdK (sub (bodyOf Tryd.prog 63) [1, 1, 0, 1, 0, 0]) (fnX Tryd.prog mode3 T_refWhy fuel 42 0) 3298534883520 [0, 1, 2, 6, 7, 8] k K))) (fun (a103 : Nat) (a104 : List Int) => K (.exit 0) ⟨[(6, .s (.string ByteArray.empty)), (7, .sl 0 1 0 a103)], [(0, some ⟨5, .li .u8 a104, true⟩)], 1, none⟩) := by kernel_rfl
noncomputable def refSumF_l1 {R : Type} (fuel : Nat) (n : Int) (l : List ByteArray) (b : List Int) (k0 : Nat → List Int → Option R) : Nat → Nat → Int → List Int → Option R
  | 0, _, _, _ => none
  | k + 1, w27, w28, w29 =>
    (refSumF_s2 w28 n l w27 w29 b (fun (a91 : Int) (a92 : Bool) (a93 : Int) (a94 : Int) => (refSumF_l2 fuel n l b w27 w28 w29 (fun (x95 : Int) (x96 : Bool) (x97 : Int) (x98 : Int) (x99 : Bool) => (refSumF_s4 w29 w27 x95 w28 n l b x96 x97 x98 x99 (fun (a100 : Nat) (a101 : Int) (a102 : List Int) => ( refSumF_l1 fuel n l b k0 k a100 a101 a102 )))) fuel a91 a92 a93 a94)) (fun (a103 : Nat) (a104 : List Int) => k0 a103 a104))
theorem refSumF_l1_eq (fuel : Nat) (n : Int) (l : List ByteArray) (b : List Int) (K : Ex → St → Option Out) : ∀ (k : Nat) (w27 : Nat) (w28 : Int) (w29 : List Int), lpN (sub (bodyOf Tryd.prog 63) [1, 1, 0, 1, 0, 0]) (fnX Tryd.prog mode3 T_refWhy fuel 42 0) 3298534883520 [0, 1, 2, 6, 7, 8] k ⟨[(0, .s (.int .i64 n)), (1, .ls l), (2, .li .i64 b), (6, .s (.string ByteArray.empty)), (7, .sl 0 1 0 w27), (8, .s (.int .i64 w28))], [(0, some ⟨5, .li .u8 w29, true⟩)], 1, none⟩ K = refSumF_l1 fuel n l b (fun (y56 : Nat) (y57 : List Int) => K (.exit 0) ⟨[(6, .s (.string ByteArray.empty)), (7, .sl 0 1 0 y56)], [(0, some ⟨5, .li .u8 y57, true⟩)], 1, none⟩) k w27 w28 w29
  | 0, _, _, _ => rfl
  | k + 1, w27, w28, w29 => by
    unfold refSumF_l1
    exact (refSumF_s2_eq fuel k K w28 n l w27 w29 b).trans (congr (congr (Eq.refl (refSumF_s2 (R := Out) w28 n l w27 w29 b)) (funext fun a91 => funext fun a92 => funext fun a93 => funext fun a94 => (refSumF_l2_eq fuel n l b w27 w28 w29 (kont (fnX Tryd.prog mode3 T_refWhy fuel 42 0) (sub (bodyOf Tryd.prog 63) [1, 1, 0, 1, 0, 0]) [1, 0, 0, 1, 0, 1, 0] 4398046506951 (rdK (sub (bodyOf Tryd.prog 63) [1, 1, 0, 1, 0, 0]) (fnX Tryd.prog mode3 T_refWhy fuel 42 0) 3298534883520 [0, 1, 2, 6, 7, 8] k K)) fuel a91 a92 a93 a94).trans (congrFun (congrFun (congrFun (congrFun (congrFun (congr (Eq.refl (refSumF_l2 (R := Out) fuel n l b w27 w28 w29)) (funext fun x95 => funext fun x96 => funext fun x97 => funext fun x98 => funext fun x99 => (refSumF_s4_eq fuel k K w29 w27 x95 w28 n l b x96 x97 x98 x99).trans (congr (Eq.refl (refSumF_s4 (R := Out) w29 w27 x95 w28 n l b x96 x97 x98 x99)) (funext fun a100 => funext fun a101 => funext fun a102 => refSumF_l1_eq fuel n l b K k a100 a101 a102)))) fuel) a91) a92) a93) a94))) (rfl))
noncomputable def refSumF_s5 {R : Type} (x108 : Nat) (x109 : List Int) (c0 : ByteArray → Option R) : Option R :=
  grd (Nat.ble (0 + x108) x109.length) <|
  c0 (txt (((x109).drop 0).take x108))
theorem refSumF_s5_eq (fuel : Nat)  (x108 : Nat) (x109 : List Int) : (kont (fnX Tryd.prog mode3 T_refWhy fuel 42 0) (bodyOf Tryd.prog 63) [1, 1, 0, 1, 0] 64 (endK Tryd.prog 0 0 63)) (.exit 0) ⟨[(6, .s (.string ByteArray.empty)), (7, .sl 0 1 0 x108)], [(0, some ⟨5, .li .u8 x109, true⟩)], 1, none⟩ = refSumF_s5 x108 x109 (fun (a110 : ByteArray) => some (.s (.string a110), [])) := by kernel_rfl
noncomputable def refSumF_s1 {R : Type} (n : Int) (l : List ByteArray) (b : List Int) (c0 : Nat → Int → List Int → Option R) : Option R :=
  c0 0 0 ([])
theorem refSumF_s1_eq (fuel : Nat)  (n : Int) (l : List ByteArray) (b : List Int) : callN Tryd.prog mode3 T_refWhy fuel 63 [.s (.int .i64 n), .ls l, .li .i64 b] [] = refSumF_s1 n l b (fun (a105 : Nat) (a106 : Int) (a107 : List Int) => lpN (sub (bodyOf Tryd.prog 63) [1, 1, 0, 1, 0, 0]) (fnX Tryd.prog mode3 T_refWhy fuel 42 0) 3298534883520 [0, 1, 2, 6, 7, 8] fuel ⟨[(0, .s (.int .i64 n)), (1, .ls l), (2, .li .i64 b), (6, .s (.string ByteArray.empty)), (7, .sl 0 1 0 a105), (8, .s (.int .i64 a106))], [(0, some ⟨5, .li .u8 a107, true⟩)], 1, none⟩ (kont (fnX Tryd.prog mode3 T_refWhy fuel 42 0) (bodyOf Tryd.prog 63) [1, 1, 0, 1, 0] 64 (endK Tryd.prog 0 0 63))) := by kernel_rfl
noncomputable def refSumF {R : Type} (fuel : Nat) (n : Int) (l : List ByteArray) (b : List Int) (r0 : ByteArray → Option R) : Option R :=
  (refSumF_s1 n l b (fun (a105 : Nat) (a106 : Int) (a107 : List Int) => (refSumF_l1 fuel n l b (fun (x108 : Nat) (x109 : List Int) => (refSumF_s5 x108 x109 (fun (a110 : ByteArray) => r0 a110))) fuel a105 a106 a107)))
theorem refSumF_eq (fuel : Nat) (n : Int) (l : List ByteArray) (b : List Int) : callN Tryd.prog mode3 T_refWhy fuel 63 [.s (.int .i64 n), .ls l, .li .i64 b] [] = refSumF fuel n l b (fun (z0 : ByteArray) => some (.s (.string z0), [])) := by
  unfold refSumF
  exact (refSumF_s1_eq fuel  n l b).trans (congr (Eq.refl (refSumF_s1 (R := Out) n l b)) (funext fun a105 => funext fun a106 => funext fun a107 => (refSumF_l1_eq fuel n l b (kont (fnX Tryd.prog mode3 T_refWhy fuel 42 0) (bodyOf Tryd.prog 63) [1, 1, 0, 1, 0] 64 (endK Tryd.prog 0 0 63)) fuel a105 a106 a107).trans (congrFun (congrFun (congrFun (congrFun (congr (Eq.refl (refSumF_l1 (R := Out) fuel n l b)) (funext fun x108 => funext fun x109 => (refSumF_s5_eq fuel  x108 x109))) fuel) a105) a106) a107)))
/-- A byte of a sum of those blocks whose bits are 1. -/
def byteL (i : Nat) : Int → List (ByteArray × Int) → Int
  | a, [] => a
  | a, p :: t => byteL i (if p.2 = 1 then xorI .u8 a ((bytesL p.1).getD i 0) else a) t
noncomputable def sumBL (a : List Int) (l : List (ByteArray × Int)) : List Int := l.foldl (fun a p => if p.2 = 1 then xb a (bytesL p.1) else a) a
theorem sumBL_len : ∀ (l : List (ByteArray × Int)) (a : List Int), (∀ p, p ∈ l → p.1.size = a.length) → (sumBL a l).length = a.length
  | [], a, h => rfl
  | p :: t, a, h => by
    have h1 := h p List.mem_cons_self
    have e : (if p.2 = 1 then xb a (bytesL p.1) else a).length = a.length := by
      split
      · rw [xb_len, bytes_len]; omega
      · rfl
    show (sumBL _ t).length = _
    rw [sumBL_len t _ fun q hq => by rw [e]; exact h q (List.mem_cons_of_mem _ hq), e]
theorem byteL_eq (i : Nat) : ∀ (l : List (ByteArray × Int)) (a : List Int), i < a.length → (∀ p, p ∈ l → p.1.size = a.length) → (sumBL a l).getD i 0 = byteL i (a.getD i 0) l
  | [], a, hi, h => rfl
  | p :: t, a, hi, h => by
    have h1 := h p List.mem_cons_self
    have e : (if p.2 = 1 then xb a (bytesL p.1) else a).length = a.length := by
      split
      · rw [xb_len, bytes_len]; omega
      · rfl
    show (sumBL (if p.2 = 1 then xb a (bytesL p.1) else a) t).getD i 0 = _
    rw [byteL_eq i t _ (by omega) fun q hq => by rw [e]; exact h q (List.mem_cons_of_mem _ hq), byteL]
    congr 1
    split
    · rw [xb_getD hi (by rw [bytes_len]; omega)]
    · rfl
theorem byteL_snoc (i : Nat) : ∀ (l : List (ByteArray × Int)) (a : Int) (p : ByteArray × Int), byteL i a (l ++ [p]) = if p.2 = 1 then xorI .u8 (byteL i a l) ((bytesL p.1).getD i 0) else byteL i a l
  | [], a, p => rfl
  | q :: t, a, p => by
    show byteL i _ (t ++ [p]) = _
    rw [byteL_snoc i t _ p]
    rfl
theorem zip_take {l : List ByteArray} {b : List Int} {j : Nat} (h : j < l.length) (h2 : j < b.length) : (l.take (j + 1)).zip (b.take (j + 1)) = (l.take j).zip (b.take j) ++ [(l[j], b[j])] := by
  rw [List.take_succ_eq_append_getElem h, List.take_succ_eq_append_getElem h2, List.zip_append (by rw [List.length_take, List.length_take]; omega)]
  rfl
theorem refSum_in {R : Type} (fuel n : Nat) (l : List ByteArray) (b : List Int) (hb : b.length = l.length) (hx : l.length ≤ 64) (hs : ∀ s, s ∈ l → s.size = n) (w27 i : Nat) (hi : i < n) (w29 : List Int) (k0 : Int → Bool → Int → Int → Bool → Option R) (v : Bool) : ∀ (k j : Nat), j ≤ l.length → l.length < j + k →
    refSumF_l2 fuel (n : Int) l b w27 (i : Int) w29 k0 k (byteL i 0 ((l.take j).zip (b.take j))) v (l.length : Int) (j : Int) = k0 (byteL i 0 (l.zip b)) v (l.length : Int) (l.length : Int) false
  | 0, j, h1, h2 => by omega
  | k + 1, j, h1, h2 => by
    unfold refSumF_l2 refSumF_s3
    rw [br_if]
    by_cases hc : j < l.length
    · have hcb : j < b.length := by omega
      have h3 := hs _ (List.getElem_mem hc)
      have ih := refSum_in fuel n l b hb hx hs w27 i hi w29 k0 v k (j + 1) (by omega) (by omega)
      rw [zip_take hc hcb, byteL_snoc] at ih
      rw [if_pos (by simpa using hc), bnd_of ((ix_nat l j).trans (List.getElem?_eq_getElem hc)), bnd_of ((ix_nat b j).trans (List.getElem?_eq_getElem hcb)), br_if, wrap_i64 (by omega) (by omega), show (j : Int) + 1 = ((j + 1 : Nat) : Int) by omega]
      by_cases hz : b[j] = 1
      · obtain ⟨c, e1, e2⟩ := ix_byte l[j] i (by omega)
        rw [if_pos (by simpa using hz), bnd_of e1, e2]
        rw [if_pos hz] at ih
        exact ih
      · rw [if_neg (by simpa using hz)]
        rw [if_neg hz] at ih
        exact ih
    · have e : j = l.length := by omega
      subst e
      rw [if_neg (by simp), List.take_length, ← hb, List.take_length, hb, decide_eq_false (by omega)]
theorem take_getD {t : List Int} {i : Nat} (h : i < t.length) : t.take i ++ [t.getD i 0] = t.take (i + 1) := by
  rw [List.take_succ_eq_append_getElem h, List.getD_eq_getElem?_getD, List.getElem?_eq_getElem h]; rfl
theorem refSum_out {R : Type} (fuel n : Nat) (l : List ByteArray) (b : List Int) (hb : b.length = l.length) (hx : l.length ≤ 64) (hf : 64 < fuel) (hn : n ≤ 64) (hs : ∀ s, s ∈ l → s.size = n) (k0 : Nat → List Int → Option R) : ∀ (k i : Nat), i ≤ n → n < i + k →
    refSumF_l1 fuel (n : Int) l b k0 k i (i : Int) ((sumBL (zb n) (l.zip b)).take i) = k0 n (sumBL (zb n) (l.zip b))
  | 0, i, h1, h2 => by omega
  | k + 1, i, h1, h2 => by
    have hz : (zb n).length = n := by unfold zb; simp
    have hs' : ∀ p, p ∈ l.zip b → p.1.size = (zb n).length := fun p hp => by rw [hz]; exact hs _ (List.of_mem_zip hp).1
    have hl : (sumBL (zb n) (l.zip b)).length = n := by rw [sumBL_len _ _ hs', hz]
    have ht : ((sumBL (zb n) (l.zip b)).take i).length = i := by rw [List.length_take]; omega
    unfold refSumF_l1 refSumF_s2
    rw [br_if]
    by_cases hc : i < n
    · rw [if_pos (by simpa using hc)]
      dsimp only
      have := refSum_in (R := R) fuel n l b hb hx hs i i hc ((sumBL (zb n) (l.zip b)).take i)
      refine (this _ _ fuel 0 (by omega) (by omega)).trans ?_
      unfold refSumF_s4
      have e := byteL_eq i (l.zip b) (zb n) (by omega) hs'
      rw [zb_getD] at e
      rw [grd_of (by rw [ht]; exact beq_self i), grd_of (okN_of (by omega) (by omega)), ← e, take_getD (by omega), wrap_i64 (by omega) (by omega), show (i : Int) + 1 = ((i + 1 : Nat) : Int) by omega]
      have ht1 : ((sumBL (zb n) (l.zip b)).take (i + 1)).length = i + 1 := by rw [List.length_take]; omega
      rw [ht1]
      exact refSum_out fuel n l b hb hx hf hn hs k0 k (i + 1) (by omega) (by omega)
    · have e : i = n := by omega
      subst e
      rw [if_neg (by simp), List.take_of_length_le (by omega)]
theorem refSum_fact (n : Int) (l : List ByteArray) (b : List Int) (hg : (bok n l && decide (b.length = l.length)) = true) : Fact Tryd.prog noG 63 [.s (.int .i64 n), .ls l, .li .i64 b] [] (.s (.string (txt (sumBS n l b))), []) := by
  rw [Bool.and_eq_true] at hg
  obtain ⟨hg, hb⟩ := hg
  have hb := of_decide_eq_true hb
  obtain ⟨⟨h0, h1⟩, h2, h3⟩ := bok_iff.1 hg
  obtain ⟨m, rfl⟩ : ∃ m : Nat, n = (m : Int) := ⟨n.toNat, by omega⟩
  have hs : ∀ s, s ∈ l → s.size = m := fun s h => by have := h3 s h; omega
  have hz : (zb m).length = m := by unfold zb; simp
  have hl : (sumBL (zb m) (l.zip b)).length = m := by rw [sumBL_len _ _ fun p hp => by rw [hz]; exact hs _ (List.of_mem_zip hp).1, hz]
  refine callN_fact hN hM T_refWhy_ok (n := 66) (mode := mode3) ?_
  rw [refSumF_eq]
  unfold refSumF refSumF_s1
  dsimp only
  have := refSum_out (R := Out) 66 m l b hb h2 (by omega) (by omega) hs
  rw [show ([] : List Int) = (sumBL (zb m) (l.zip b)).take 0 from rfl, show (0 : Int) = ((0 : Nat) : Int) from rfl, this _ 66 0 (by omega) (by omega)]
  unfold refSumF_s5
  rw [grd_of (by rw [hl]; simp), List.drop_zero, List.take_of_length_le (by omega), sumBS_eq]
  unfold sumBI
  rw [Int.toNat_natCast]
  rfl
noncomputable def refSum_ent : List V → List Blk → Option (Bool × Out)
  | [.s (.int .i64 n), w0, w1], [] => (asSl .str w0).bind fun l => (asSl (.int .i64) w1).bind fun b => some ((bok n l && decide (b.length = l.length)), (.s (.string (txt (sumBS n l b))), []))
  | _, _ => none
theorem refSum_ok : ∀ args bs out, refSum_ent args bs = some (true, out) → Fact Tryd.prog noG 63 args bs out := by
  intro args bs out h
  unfold refSum_ent at h
  split at h
  · rename_i n w0 w1
    obtain ⟨l, h_l, h⟩ := Option.bind_eq_some_iff.1 h
    obtain ⟨b, h_b, h⟩ := Option.bind_eq_some_iff.1 h
    simp only [Option.some.injEq, Prod.mk.injEq] at h
    obtain ⟨hg, rfl⟩ := h
    exact (refSum_fact n l b hg).args (fun _ _ _ => fun _ h => RVs_two (fun _ h => h) (fun _ h => RVs_two (fun _ h => RV_ls h_l h) (fun _ h => RVs_two (fun _ h => RV_li h_b h) (fun _ h => h) h) h) h)
  · cases h
noncomputable def T_refSum : Tbl := Tbl.cons 63 refSum_ent T_refWhy
theorem T_refSum_ok : CallOk Tryd.prog noG T_refSum := cons_ok T_refWhy_ok refSum_ok
/-! downpour/downpourref02.Ones -/
noncomputable def refOnesF_s2 {R : Type} (w2 : Int) (n : Int) (w3 : List Int) (w1 : Nat) (c0 : Nat → Int → List Int → Option R) (c1 : Nat → List Int → Option R) : Option R :=
  br (decide (w2 < n))
    (grd (Nat.beq w3.length w1) <|
    grd (okN (w1 + 1) 8) <|
    c0 ((w3 ++ [1]).length) (IntKind.i64.wrap (w2 + 1)) (w3 ++ [1]))
    (c1 w1 w3)
theorem refOnesF_s2_eq (fuel : Nat) (k : Nat) (K : Ex → St → Option Out) (w2 : Int) (n : Int) (w3 : List Int) (w1 : Nat) : lpN (sub (bodyOf Tryd.prog 64) [1, 1, 0, 1, 0, 0]) (fnX Tryd.prog mode3 T_refSum fuel 15 0) 16396 [0, 2, 3, 4] (k + 1) ⟨[(0, .s (.int .i64 n)), (2, .s (.slice none 0 0)), (3, .sl 0 1 0 w1), (4, .s (.int .i64 w2))], [(0, some ⟨3, .li .i64 w3, true⟩)], 1, none⟩ K = refOnesF_s2 w2 n w3 w1 (fun (a6 : Nat) (a7 : Int) (a8 : List Int) => lpN (sub (bodyOf Tryd.prog 64) [1, 1, 0, 1, 0, 0]) (fnX Tryd.prog mode3 T_refSum fuel 15 0) 16396 [0, 2, 3, 4] k ⟨[(0, .s (.int .i64 n)), (2, .s (.slice none 0 0)), (3, .sl 0 1 0 a6), (4, .s (.int .i64 a7))], [(0, some ⟨3, .li .i64 a8, true⟩)], 1, none⟩ K) (fun (a9 : Nat) (a10 : List Int) => K (.exit 0) ⟨[(2, .s (.slice none 0 0)), (3, .sl 0 1 0 a9)], [(0, some ⟨3, .li .i64 a10, true⟩)], 1, none⟩) := by kernel_rfl
noncomputable def refOnesF_l1 {R : Type} (fuel : Nat) (n : Int) (k0 : Nat → List Int → Option R) : Nat → Nat → Int → List Int → Option R
  | 0, _, _, _ => none
  | k + 1, w1, w2, w3 =>
    (refOnesF_s2 w2 n w3 w1 (fun (a6 : Nat) (a7 : Int) (a8 : List Int) => ( refOnesF_l1 fuel n k0 k a6 a7 a8 )) (fun (a9 : Nat) (a10 : List Int) => k0 a9 a10))
theorem refOnesF_l1_eq (fuel : Nat) (n : Int) (K : Ex → St → Option Out) : ∀ (k : Nat) (w1 : Nat) (w2 : Int) (w3 : List Int), lpN (sub (bodyOf Tryd.prog 64) [1, 1, 0, 1, 0, 0]) (fnX Tryd.prog mode3 T_refSum fuel 15 0) 16396 [0, 2, 3, 4] k ⟨[(0, .s (.int .i64 n)), (2, .s (.slice none 0 0)), (3, .sl 0 1 0 w1), (4, .s (.int .i64 w2))], [(0, some ⟨3, .li .i64 w3, true⟩)], 1, none⟩ K = refOnesF_l1 fuel n (fun (y4 : Nat) (y5 : List Int) => K (.exit 0) ⟨[(2, .s (.slice none 0 0)), (3, .sl 0 1 0 y4)], [(0, some ⟨3, .li .i64 y5, true⟩)], 1, none⟩) k w1 w2 w3
  | 0, _, _, _ => rfl
  | k + 1, w1, w2, w3 => by
    unfold refOnesF_l1
    exact (refOnesF_s2_eq fuel k K w2 n w3 w1).trans (congr (congr (Eq.refl (refOnesF_s2 (R := Out) w2 n w3 w1)) (funext fun a6 => funext fun a7 => funext fun a8 => refOnesF_l1_eq fuel n K k a6 a7 a8)) (rfl))
noncomputable def refOnesF_s3 {R : Type} (x15 : List Int) (x14 : Nat) (c0 : List Int → Option R) : Option R :=
  c0 ((x15.drop 0).take x14)
theorem refOnesF_s3_eq (fuel : Nat)  (x15 : List Int) (x14 : Nat) : (kont (fnX Tryd.prog mode3 T_refSum fuel 15 0) (bodyOf Tryd.prog 64) [1, 1, 0, 1, 0] 4 (endK Tryd.prog 0 0 64)) (.exit 0) ⟨[(2, .s (.slice none 0 0)), (3, .sl 0 1 0 x14)], [(0, some ⟨3, .li .i64 x15, true⟩)], 1, none⟩ = refOnesF_s3 x15 x14 (fun (a16 : List Int) => some (.li .i64 a16, [])) := by kernel_rfl
noncomputable def refOnesF_s1 {R : Type} (n : Int) (c0 : Nat → Int → List Int → Option R) : Option R :=
  c0 0 0 ([])
theorem refOnesF_s1_eq (fuel : Nat)  (n : Int) : callN Tryd.prog mode3 T_refSum fuel 64 [.s (.int .i64 n)] [] = refOnesF_s1 n (fun (a11 : Nat) (a12 : Int) (a13 : List Int) => lpN (sub (bodyOf Tryd.prog 64) [1, 1, 0, 1, 0, 0]) (fnX Tryd.prog mode3 T_refSum fuel 15 0) 16396 [0, 2, 3, 4] fuel ⟨[(0, .s (.int .i64 n)), (2, .s (.slice none 0 0)), (3, .sl 0 1 0 a11), (4, .s (.int .i64 a12))], [(0, some ⟨3, .li .i64 a13, true⟩)], 1, none⟩ (kont (fnX Tryd.prog mode3 T_refSum fuel 15 0) (bodyOf Tryd.prog 64) [1, 1, 0, 1, 0] 4 (endK Tryd.prog 0 0 64))) := by kernel_rfl
noncomputable def refOnesF {R : Type} (fuel : Nat) (n : Int) (r0 : List Int → Option R) : Option R :=
  (refOnesF_s1 n (fun (a11 : Nat) (a12 : Int) (a13 : List Int) => (refOnesF_l1 fuel n (fun (x14 : Nat) (x15 : List Int) => (refOnesF_s3 x15 x14 (fun (a16 : List Int) => r0 a16))) fuel a11 a12 a13)))
theorem refOnesF_eq (fuel : Nat) (n : Int) : callN Tryd.prog mode3 T_refSum fuel 64 [.s (.int .i64 n)] [] = refOnesF fuel n (fun (z0 : List Int) => some (.li .i64 z0, [])) := by
  unfold refOnesF
  exact (refOnesF_s1_eq fuel  n).trans (congr (Eq.refl (refOnesF_s1 (R := Out) n)) (funext fun a11 => funext fun a12 => funext fun a13 => (refOnesF_l1_eq fuel n (kont (fnX Tryd.prog mode3 T_refSum fuel 15 0) (bodyOf Tryd.prog 64) [1, 1, 0, 1, 0] 4 (endK Tryd.prog 0 0 64)) fuel a11 a12 a13).trans (congrFun (congrFun (congrFun (congrFun (congr (Eq.refl (refOnesF_l1 (R := Out) fuel n)) (funext fun x14 => funext fun x15 => (refOnesF_s3_eq fuel  x15 x14))) fuel) a11) a12) a13)))
theorem refOnes_loop {R : Type} (fuel : Nat) (n : Nat) (hn : n ≤ 1000000) (k0 : Nat → List Int → Option R) : ∀ (k j : Nat), j ≤ n → n < j + k → refOnesF_l1 fuel (n : Int) k0 k j (j : Int) (ones j) = k0 n (ones n)
  | 0, j, h1, h2 => by omega
  | k + 1, j, h1, h2 => by
    unfold refOnesF_l1 refOnesF_s2
    rw [br_if]
    by_cases hc : j < n
    · have e : ones j ++ [1] = ones (j + 1) := by unfold ones; rw [List.replicate_succ']
      rw [if_pos (by simpa using hc), grd_of (by rw [ones_len]; exact beq_self j), grd_of (okN_of (by omega) (by omega)), e, ones_len, wrap_i64 (by omega) (by omega), show (j : Int) + 1 = ((j + 1 : Nat) : Int) by omega]
      exact refOnes_loop fuel n hn k0 k (j + 1) (by omega) (by omega)
    · have e : j = n := by omega
      subst e
      rw [if_neg (by simp)]
theorem refOnes_fact (n : Int) (hg : (decide ((0 : Int) ≤ n) && decide ((n : Int) ≤ 1000000)) = true) : Fact Tryd.prog noG 64 [.s (.int .i64 n)] [] (.li .i64 (ones (Int.toNat n)), []) := by
  simp only [Bool.and_eq_true, decide_eq_true_eq] at hg
  obtain ⟨m, rfl⟩ : ∃ m : Nat, n = (m : Int) := ⟨n.toNat, by omega⟩
  refine callN_fact hN hM T_refSum_ok (n := m + 1) (mode := mode3) ?_
  rw [refOnesF_eq]
  unfold refOnesF refOnesF_s1
  dsimp only
  rw [show ([] : List Int) = ones 0 from rfl, show (0 : Int) = ((0 : Nat) : Int) from rfl, refOnes_loop (m + 1) m (by omega) _ (m + 1) 0 (by omega) (by omega)]
  unfold refOnesF_s3
  rw [List.drop_zero, Int.toNat_natCast, List.take_of_length_le (by rw [ones_len]; exact Nat.le_refl _)]
noncomputable def refOnes_ent : List V → List Blk → Option (Bool × Out)
  | [.s (.int .i64 n)], [] => some ((decide ((0 : Int) ≤ n) && decide ((n : Int) ≤ 1000000)), (.li .i64 (ones (Int.toNat n)), []))
  | _, _ => none
theorem refOnes_ok : ∀ args bs out, refOnes_ent args bs = some (true, out) → Fact Tryd.prog noG 64 args bs out := by
  intro args bs out h
  unfold refOnes_ent at h
  split at h
  · rename_i n
    simp only [Option.some.injEq, Prod.mk.injEq] at h
    obtain ⟨hg, rfl⟩ := h
    exact refOnes_fact n hg
  · cases h
noncomputable def T_refOnes : Tbl := Tbl.cons 64 refOnes_ent T_refSum
theorem T_refOnes_ok : CallOk Tryd.prog noG T_refOnes := cons_ok T_refSum_ok refOnes_ok
/-! downpour/downpourref02.Nought -/
noncomputable def refNoughtF_s2 {R : Type} (w2 : Int) (s : ByteArray) (c0 : Option R) (c1 : Int → Option R) (c2 : Option R) : Option R :=
  br (decide (w2 < ((s.size : Nat) : Int)))
    (bnd (ix s.data.toList w2) fun ub4 =>
    br ((((ub4.toNat : Nat) : Int) : Int) != 0)
      (c0)
      (c1 (IntKind.i64.wrap (w2 + 1))))
    (c2)
theorem refNoughtF_s2_eq (fuel : Nat) (k : Nat) (K : Ex → St → Option Out) (w2 : Int) (s : ByteArray) : lpN (sub (bodyOf Tryd.prog 61) [1, 0, 1, 0, 0]) (fnX Tryd.prog mode3 T_refOnes fuel 14 0) 4 [0, 2, 3] (k + 1) ⟨[(0, .s (.string s)), (2, .s (.bool false)), (3, .s (.int .i64 w2))], [], 0, none⟩ K = refNoughtF_s2 w2 s (K .ret ⟨[(2, .s (.bool false))], [], 0, none⟩) (fun (a5 : Int) => lpN (sub (bodyOf Tryd.prog 61) [1, 0, 1, 0, 0]) (fnX Tryd.prog mode3 T_refOnes fuel 14 0) 4 [0, 2, 3] k ⟨[(0, .s (.string s)), (2, .s (.bool false)), (3, .s (.int .i64 a5))], [], 0, none⟩ K) (K (.exit 0) ⟨[(2, .s (.bool false))], [], 0, none⟩) := by kernel_rfl
noncomputable def refNoughtF_l1 {R : Type} (fuel : Nat) (s : ByteArray) (k0 : Option R) (k1 : Option R) : Nat → Int → Option R
  | 0, _ => none
  | k + 1, w2 =>
    (refNoughtF_s2 w2 s (k0) (fun (a5 : Int) => ( refNoughtF_l1 fuel s k0 k1 k a5 )) (k1))
theorem refNoughtF_l1_eq (fuel : Nat) (s : ByteArray) (K : Ex → St → Option Out) : ∀ (k : Nat) (w2 : Int), lpN (sub (bodyOf Tryd.prog 61) [1, 0, 1, 0, 0]) (fnX Tryd.prog mode3 T_refOnes fuel 14 0) 4 [0, 2, 3] k ⟨[(0, .s (.string s)), (2, .s (.bool false)), (3, .s (.int .i64 w2))], [], 0, none⟩ K = refNoughtF_l1 fuel s (K .ret ⟨[(2, .s (.bool false))], [], 0, none⟩) (K (.exit 0) ⟨[(2, .s (.bool false))], [], 0, none⟩) k w2
  | 0, _ => rfl
  | k + 1, w2 => by
    unfold refNoughtF_l1
    exact (refNoughtF_s2_eq fuel k K w2 s).trans (congr (congr (congr (Eq.refl (refNoughtF_s2 (R := Out) w2 s)) (rfl)) (funext fun a5 => refNoughtF_l1_eq fuel s K k a5)) (rfl))
noncomputable def refNoughtF_s3 {R : Type}  (c0 : Bool → Option R) : Option R :=
  c0 false
theorem refNoughtF_s3_eq (fuel : Nat)   : (kont (fnX Tryd.prog mode3 T_refOnes fuel 14 0) (bodyOf Tryd.prog 61) [1, 0, 1, 0] 4 (endK Tryd.prog 0 0 61)) .ret ⟨[(2, .s (.bool false))], [], 0, none⟩ = refNoughtF_s3  (fun (a7 : Bool) => some (.s (.bool a7), [])) := by kernel_rfl
noncomputable def refNoughtF_s4 {R : Type}  (c0 : Bool → Option R) : Option R :=
  c0 true
theorem refNoughtF_s4_eq (fuel : Nat)   : (kont (fnX Tryd.prog mode3 T_refOnes fuel 14 0) (bodyOf Tryd.prog 61) [1, 0, 1, 0] 4 (endK Tryd.prog 0 0 61)) (.exit 0) ⟨[(2, .s (.bool false))], [], 0, none⟩ = refNoughtF_s4  (fun (a8 : Bool) => some (.s (.bool a8), [])) := by kernel_rfl
noncomputable def refNoughtF_s1 {R : Type} (s : ByteArray) (c0 : Int → Option R) : Option R :=
  c0 0
theorem refNoughtF_s1_eq (fuel : Nat)  (s : ByteArray) : callN Tryd.prog mode3 T_refOnes fuel 61 [.s (.string s)] [] = refNoughtF_s1 s (fun (a6 : Int) => lpN (sub (bodyOf Tryd.prog 61) [1, 0, 1, 0, 0]) (fnX Tryd.prog mode3 T_refOnes fuel 14 0) 4 [0, 2, 3] fuel ⟨[(0, .s (.string s)), (2, .s (.bool false)), (3, .s (.int .i64 a6))], [], 0, none⟩ (kont (fnX Tryd.prog mode3 T_refOnes fuel 14 0) (bodyOf Tryd.prog 61) [1, 0, 1, 0] 4 (endK Tryd.prog 0 0 61))) := by kernel_rfl
noncomputable def refNoughtF {R : Type} (fuel : Nat) (s : ByteArray) (r0 : Bool → Option R) : Option R :=
  (refNoughtF_s1 s (fun (a6 : Int) => (refNoughtF_l1 fuel s ((refNoughtF_s3 (fun (a7 : Bool) => r0 a7))) ((refNoughtF_s4 (fun (a8 : Bool) => r0 a8))) fuel a6)))
theorem refNoughtF_eq (fuel : Nat) (s : ByteArray) : callN Tryd.prog mode3 T_refOnes fuel 61 [.s (.string s)] [] = refNoughtF fuel s (fun (z0 : Bool) => some (.s (.bool z0), [])) := by
  unfold refNoughtF
  exact (refNoughtF_s1_eq fuel  s).trans (congr (Eq.refl (refNoughtF_s1 (R := Out) s)) (funext fun a6 => (refNoughtF_l1_eq fuel s (kont (fnX Tryd.prog mode3 T_refOnes fuel 14 0) (bodyOf Tryd.prog 61) [1, 0, 1, 0] 4 (endK Tryd.prog 0 0 61)) fuel a6).trans (congrFun (congrFun (congr (congr (Eq.refl (refNoughtF_l1 (R := Out) fuel s)) ((refNoughtF_s3_eq fuel  ))) ((refNoughtF_s4_eq fuel  ))) fuel) a6)))
theorem refNought_loop {R : Type} (fuel : Nat) (s : ByteArray) (hx : s.size ≤ 1000000) (k0 k1 : Option R) : ∀ (k j : Nat), j ≤ s.size → s.size < j + k → refNoughtF_l1 fuel s k0 k1 k (j : Int) = if (∀ x ∈ (bytesL s).drop j, x = 0) then k1 else k0
  | 0, j, h1, h2 => by omega
  | k + 1, j, h1, h2 => by
    have hl := bytes_len s
    unfold refNoughtF_l1 refNoughtF_s2
    rw [br_if]
    by_cases hc : j < s.size
    · obtain ⟨c, e1, e2⟩ := ix_byte s j hc
      have hj : j < (bytesL s).length := by omega
      rw [if_pos (by simpa using hc), bnd_of e1, br_if, e2, getD_get hj, List.drop_eq_getElem_cons hj, wrap_i64 (by omega) (by omega), show (j : Int) + 1 = ((j + 1 : Nat) : Int) by omega]
      dsimp only
      rw [refNought_loop fuel s hx k0 k1 k (j + 1) (by omega) (by omega)]
      generalize (bytesL s)[j] = x
      generalize (bytesL s).drop (j + 1) = t
      by_cases he : x = 0 <;> simp [he]
    · rw [if_neg (by simpa using hc), List.drop_eq_nil_of_le (by omega)]
      simp
theorem refNought_fact (s : ByteArray) (hg : (decide (s.size ≤ 1000000)) = true) : Fact Tryd.prog noG 61 [.s (.string s)] [] (.s (.bool (nought s)), []) := by
  have hg := of_decide_eq_true hg
  refine callN_fact hN hM T_refOnes_ok (n := s.size + 1) (mode := mode3) ?_
  rw [refNoughtF_eq]
  unfold refNoughtF refNoughtF_s1
  dsimp only
  rw [show (0 : Int) = ((0 : Nat) : Int) from rfl, refNought_loop (s.size + 1) s hg _ _ (s.size + 1) 0 (by omega) (by omega), List.drop_zero, nought_eq]
  unfold noughtI refNoughtF_s3 refNoughtF_s4
  by_cases h : ∀ x ∈ bytesL s, x = 0
  · rw [if_pos h, decide_eq_true h]
  · rw [if_neg h, decide_eq_false h]
noncomputable def refNought_ent : List V → List Blk → Option (Bool × Out)
  | [.s (.string s)], [] => some ((decide (s.size ≤ 1000000)), (.s (.bool (nought s)), []))
  | _, _ => none
theorem refNought_ok : ∀ args bs out, refNought_ent args bs = some (true, out) → Fact Tryd.prog noG 61 args bs out := by
  intro args bs out h
  unfold refNought_ent at h
  split at h
  · rename_i s
    simp only [Option.some.injEq, Prod.mk.injEq] at h
    obtain ⟨hg, rfl⟩ := h
    exact refNought_fact s hg
  · cases h
noncomputable def T_refNought : Tbl := Tbl.cons 61 refNought_ent T_refOnes
theorem T_refNought_ok : CallOk Tryd.prog noG T_refNought := cons_ok T_refOnes_ok refNought_ok
/-! downpour/downpourref02.Texts -/
noncomputable def refTextsF_s2 {R : Type} (w6 : Int) (w5 : Int) (a : List ByteArray) (b : List ByteArray) (c0 : Option R) (c1 : Int → Int → Option R) (c2 : Option R) : Option R :=
  br (decide (w6 < w5))
    (bnd (ix a w6) fun e9 =>
    bnd (ix b w6) fun e10 =>
    br (!(eqS e9 e10))
      (c0)
      (c1 w5 (IntKind.i64.wrap (w6 + 1))))
    (c2)
theorem refTextsF_s2_eq (fuel : Nat) (k : Nat) (K : Ex → St → Option Out) (w6 : Int) (w5 : Int) (a : List ByteArray) (b : List ByteArray) : lpN (sub (bodyOf Tryd.prog 44) [1, 1, 0, 1, 0, 0]) (fnX Tryd.prog mode3 T_refNought fuel 26 0) 16 [0, 1, 4, 12, 13] (k + 1) ⟨[(0, .ls a), (1, .ls b), (4, .s (.bool false)), (12, .s (.int .i64 w5)), (13, .s (.int .i64 w6))], [], 0, none⟩ K = refTextsF_s2 w6 w5 a b (K .ret ⟨[(4, .s (.bool false))], [], 0, none⟩) (fun (a11 : Int) (a12 : Int) => lpN (sub (bodyOf Tryd.prog 44) [1, 1, 0, 1, 0, 0]) (fnX Tryd.prog mode3 T_refNought fuel 26 0) 16 [0, 1, 4, 12, 13] k ⟨[(0, .ls a), (1, .ls b), (4, .s (.bool false)), (12, .s (.int .i64 a11)), (13, .s (.int .i64 a12))], [], 0, none⟩ K) (K (.exit 0) ⟨[(4, .s (.bool false))], [], 0, none⟩) := by kernel_rfl
noncomputable def refTextsF_l1 {R : Type} (fuel : Nat) (a : List ByteArray) (b : List ByteArray) (k0 : Option R) (k1 : Option R) : Nat → Int → Int → Option R
  | 0, _, _ => none
  | k + 1, w5, w6 =>
    (refTextsF_s2 w6 w5 a b (k0) (fun (a11 : Int) (a12 : Int) => ( refTextsF_l1 fuel a b k0 k1 k a11 a12 )) (k1))
theorem refTextsF_l1_eq (fuel : Nat) (a : List ByteArray) (b : List ByteArray) (K : Ex → St → Option Out) : ∀ (k : Nat) (w5 : Int) (w6 : Int), lpN (sub (bodyOf Tryd.prog 44) [1, 1, 0, 1, 0, 0]) (fnX Tryd.prog mode3 T_refNought fuel 26 0) 16 [0, 1, 4, 12, 13] k ⟨[(0, .ls a), (1, .ls b), (4, .s (.bool false)), (12, .s (.int .i64 w5)), (13, .s (.int .i64 w6))], [], 0, none⟩ K = refTextsF_l1 fuel a b (K .ret ⟨[(4, .s (.bool false))], [], 0, none⟩) (K (.exit 0) ⟨[(4, .s (.bool false))], [], 0, none⟩) k w5 w6
  | 0, _, _ => rfl
  | k + 1, w5, w6 => by
    unfold refTextsF_l1
    exact (refTextsF_s2_eq fuel k K w6 w5 a b).trans (congr (congr (congr (Eq.refl (refTextsF_s2 (R := Out) w6 w5 a b)) (rfl)) (funext fun a11 => funext fun a12 => refTextsF_l1_eq fuel a b K k a11 a12)) (rfl))
noncomputable def refTextsF_s3 {R : Type}  (c0 : Bool → Option R) : Option R :=
  c0 false
theorem refTextsF_s3_eq (fuel : Nat)   : (kont (fnX Tryd.prog mode3 T_refNought fuel 26 0) (bodyOf Tryd.prog 44) [1, 1, 0, 1, 0] 16 (endK Tryd.prog 0 0 44)) .ret ⟨[(4, .s (.bool false))], [], 0, none⟩ = refTextsF_s3  (fun (a15 : Bool) => some (.s (.bool a15), [])) := by kernel_rfl
noncomputable def refTextsF_s4 {R : Type}  (c0 : Bool → Option R) : Option R :=
  c0 true
theorem refTextsF_s4_eq (fuel : Nat)   : (kont (fnX Tryd.prog mode3 T_refNought fuel 26 0) (bodyOf Tryd.prog 44) [1, 1, 0, 1, 0] 16 (endK Tryd.prog 0 0 44)) (.exit 0) ⟨[(4, .s (.bool false))], [], 0, none⟩ = refTextsF_s4  (fun (a16 : Bool) => some (.s (.bool a16), [])) := by kernel_rfl
noncomputable def refTextsF_s1 {R : Type} (a : List ByteArray) (b : List ByteArray) (c0 : Bool → Option R) (c1 : Int → Int → Option R) : Option R :=
  br ((((a.length : Nat) : Int) : Int) != ((b.length : Nat) : Int))
    (c0 false)
    (c1 ((a.length : Nat) : Int) 0)
theorem refTextsF_s1_eq (fuel : Nat)  (a : List ByteArray) (b : List ByteArray) : callN Tryd.prog mode3 T_refNought fuel 44 [.ls a, .ls b] [] = refTextsF_s1 a b (fun (a1 : Bool) => some (.s (.bool a1), [])) (fun (a13 : Int) (a14 : Int) => lpN (sub (bodyOf Tryd.prog 44) [1, 1, 0, 1, 0, 0]) (fnX Tryd.prog mode3 T_refNought fuel 26 0) 16 [0, 1, 4, 12, 13] fuel ⟨[(0, .ls a), (1, .ls b), (4, .s (.bool false)), (12, .s (.int .i64 a13)), (13, .s (.int .i64 a14))], [], 0, none⟩ (kont (fnX Tryd.prog mode3 T_refNought fuel 26 0) (bodyOf Tryd.prog 44) [1, 1, 0, 1, 0] 16 (endK Tryd.prog 0 0 44))) := by kernel_rfl
noncomputable def refTextsF {R : Type} (fuel : Nat) (a : List ByteArray) (b : List ByteArray) (r0 : Bool → Option R) : Option R :=
  (refTextsF_s1 a b (fun (a1 : Bool) => r0 a1) (fun (a13 : Int) (a14 : Int) => (refTextsF_l1 fuel a b ((refTextsF_s3 (fun (a15 : Bool) => r0 a15))) ((refTextsF_s4 (fun (a16 : Bool) => r0 a16))) fuel a13 a14)))
theorem refTextsF_eq (fuel : Nat) (a : List ByteArray) (b : List ByteArray) : callN Tryd.prog mode3 T_refNought fuel 44 [.ls a, .ls b] [] = refTextsF fuel a b (fun (z0 : Bool) => some (.s (.bool z0), [])) := by
  unfold refTextsF
  exact (refTextsF_s1_eq fuel  a b).trans (congr (congr (Eq.refl (refTextsF_s1 (R := Out) a b)) (rfl)) (funext fun a13 => funext fun a14 => (refTextsF_l1_eq fuel a b (kont (fnX Tryd.prog mode3 T_refNought fuel 26 0) (bodyOf Tryd.prog 44) [1, 1, 0, 1, 0] 16 (endK Tryd.prog 0 0 44)) fuel a13 a14).trans (congrFun (congrFun (congrFun (congr (congr (Eq.refl (refTextsF_l1 (R := Out) fuel a b)) ((refTextsF_s3_eq fuel  ))) ((refTextsF_s4_eq fuel  ))) fuel) a13) a14)))
theorem refTexts_loop {R : Type} (fuel : Nat) (a b : List ByteArray) (hab : a.length = b.length) (hx : a.length ≤ 1000000) (k0 k1 : Option R) : ∀ (k j : Nat), j ≤ a.length → a.length < j + k → refTextsF_l1 fuel a b k0 k1 k (a.length : Int) (j : Int) = if a.drop j = b.drop j then k1 else k0
  | 0, j, h1, h2 => by omega
  | k + 1, j, h1, h2 => by
    unfold refTextsF_l1 refTextsF_s2
    rw [br_if]
    by_cases hc : j < a.length
    · have hc2 : j < b.length := by omega
      rw [if_pos (by simpa using hc), bnd_of ((ix_nat a j).trans (List.getElem?_eq_getElem hc)), bnd_of ((ix_nat b j).trans (List.getElem?_eq_getElem hc2)), br_if, List.drop_eq_getElem_cons hc, List.drop_eq_getElem_cons hc2, wrap_i64 (by omega) (by omega), show (j : Int) + 1 = ((j + 1 : Nat) : Int) by omega, eqS_decide]
      dsimp only
      rw [refTexts_loop fuel a b hab hx k0 k1 k (j + 1) (by omega) (by omega)]
      generalize a[j] = x
      generalize b[j] = y
      generalize a.drop (j + 1) = t
      generalize b.drop (j + 1) = u
      by_cases he : x = y <;> simp [he]
    · rw [if_neg (by simpa using hc), List.drop_eq_nil_of_le (by omega), List.drop_eq_nil_of_le (by omega)]
      simp
theorem refTexts_fact (a : List ByteArray) (b : List ByteArray) (hg : (decide (a.length ≤ 1000000)) = true) : Fact Tryd.prog noG 44 [.ls a, .ls b] [] (.s (.bool (eqTS a b)), []) := by
  have hg := of_decide_eq_true hg
  refine callN_fact hN hM T_refNought_ok (n := a.length + 1) (mode := mode3) ?_
  rw [refTextsF_eq]
  unfold refTextsF refTextsF_s1
  rw [br_if, eqTS_eq]
  unfold eqTI
  by_cases hab : a.length = b.length
  · rw [if_neg (by simp; omega)]
    dsimp only
    have := refTexts_loop (R := Out) (a.length + 1) a b hab hg
    rw [show (0 : Int) = ((0 : Nat) : Int) from rfl, this _ _ _ _ (by omega) (by omega), List.drop_zero, List.drop_zero]
    unfold refTextsF_s3 refTextsF_s4
    by_cases h : a = b <;> simp [h]
  · rw [if_pos (by simp; omega)]
    have : a ≠ b := by rintro rfl; exact hab rfl
    simp [this]
noncomputable def refTexts_ent : List V → List Blk → Option (Bool × Out)
  | [w0, w1], [] => (asSl .str w0).bind fun a => (asSl .str w1).bind fun b => some ((decide (a.length ≤ 1000000)), (.s (.bool (eqTS a b)), []))
  | _, _ => none
theorem refTexts_ok : ∀ args bs out, refTexts_ent args bs = some (true, out) → Fact Tryd.prog noG 44 args bs out := by
  intro args bs out h
  unfold refTexts_ent at h
  split at h
  · rename_i w0 w1
    obtain ⟨a, h_a, h⟩ := Option.bind_eq_some_iff.1 h
    obtain ⟨b, h_b, h⟩ := Option.bind_eq_some_iff.1 h
    simp only [Option.some.injEq, Prod.mk.injEq] at h
    obtain ⟨hg, rfl⟩ := h
    exact (refTexts_fact a b hg).args (fun _ _ _ => fun _ h => RVs_two (fun _ h => RV_ls h_a h) (fun _ h => RVs_two (fun _ h => RV_ls h_b h) (fun _ h => h) h) h)
  · cases h
noncomputable def T_refTexts : Tbl := Tbl.cons 44 refTexts_ent T_refNought
theorem T_refTexts_ok : CallOk Tryd.prog noG T_refTexts := cons_ok T_refNought_ok refTexts_ok
def mode4 : FuncId → Nat := fun f => 0
/-! The law's cuts. -/
def cutI (s : ByteArray) : ByteArray := s.extract 0 (min s.size 70)
noncomputable def cutS : ByteArray → ByteArray := Classical.choose (⟨cutI, rfl⟩ : ∃ f, f = cutI)
theorem cutS_eq : cutS = cutI := Classical.choose_spec (⟨cutI, rfl⟩ : ∃ f, f = cutI)
theorem cut_size (s : ByteArray) : (cutS s).size ≤ 70 := by rw [cutS_eq]; unfold cutI; rw [ByteArray.size_extract]; omega
noncomputable def fewI (l : List ByteArray) : List ByteArray := (l.take 66).map cutS
noncomputable def fewS : List ByteArray → List ByteArray := Classical.choose (⟨fewI, rfl⟩ : ∃ f, f = fewI)
theorem fewS_eq : fewS = fewI := Classical.choose_spec (⟨fewI, rfl⟩ : ∃ f, f = fewI)
theorem few_len (l : List ByteArray) : (fewS l).length ≤ 66 := by rw [fewS_eq]; unfold fewI; rw [List.length_map, List.length_take]; omega
theorem sumB_ones (n : Int) (l : List ByteArray) : sumBS n l (ones l.length) = sumS n l := by
  rw [sumBS_eq, sumS_eq]
  unfold sumBI sumI sumL
  generalize zb n.toNat = a
  induction l generalizing a with
  | nil => rfl
  | cons s t ih =>
    show List.foldl _ (xb a (bytesL s)) (t.zip (ones t.length)) = List.foldl _ (xb a (bytesL s)) t
    exact ih _
theorem x8_comm {x y : Int} (h0 : 0 ≤ x) (h1 : x < 256) (g0 : 0 ≤ y) (g1 : y < 256) : xorI .u8 x y = xorI .u8 y x := by rw [x8_nat h0 h1 g0 g1, x8_nat g0 g1 h0 h1, Nat.xor_comm]
theorem xor_sum (a b : ByteArray) : xorT a b = sumT a.size [a, b] := by
  rw [xorT_eq, sumT_eq]
  unfold xorTI sumTI
  by_cases h : bok ((a.size : Nat) : Int) [a, b] = true
  · rw [if_pos h, if_pos h, sumS_eq]
    unfold sumI sumL
    have e : xb (zb ((a.size : Nat) : Int).toNat) (bytesL a) = bytesL a := by
      rw [Int.toNat_natCast, ← bytes_len]; exact zero_xb (bytes_ok a)
    show _ = txt (xb (xb _ (bytesL a)) (bytesL b))
    rw [e]
  · rw [if_neg h, if_neg h]
theorem zero_size {n : Int} (h : sz64 n = true) : (((zeroT n).size : Nat) : Int) = n := by
  obtain ⟨h0, h1⟩ := sz64_iff.1 h
  rw [zeroT_eq]; unfold zeroTI
  rw [if_pos h, txt_size]
  unfold zb
  rw [List.length_replicate]
  omega
theorem zero_bytes {n : Int} (h : sz64 n = true) : bytesL (zeroT n) = zb n.toNat := by
  rw [zeroT_eq]; unfold zeroTI
  rw [if_pos h, bytes_txt (zb_ok _)]
theorem zero_nought (n : Int) : nought (zeroT n) = true := by
  by_cases h : sz64 n = true
  · have := zero_size h
    rw [nought_iff, zero_bytes h]
    congr 1; omega
  · rw [zeroT_eq]; unfold zeroTI
    rw [if_neg h, nought_iff]; rfl
theorem errB_ok {n : Int} {l : List ByteArray} (h : bok n l = true) : errB n l = 0 := by unfold errB; rw [if_pos h]
theorem errB_bad {n : Int} {l : List ByteArray} (h : ¬ bok n l = true) : errB n l = 2 := by unfold errB; rw [if_neg h]
theorem sumT_bad {n : Int} {l : List ByteArray} (h : ¬ bok n l = true) : sumT n l = ByteArray.empty := by rw [sumT_eq]; unfold sumTI; rw [if_neg h]
theorem sumT_ok {n : Int} {l : List ByteArray} (h : bok n l = true) : sumT n l = txt (sumS n l) := by rw [sumT_eq]; unfold sumTI; rw [if_pos h]
/-! downpour/downpourlaw02.cut -/
noncomputable def lcutF_s1 {R : Type} (s : ByteArray) (c0 : ByteArray → Option R) : Option R :=
  bnd (upTo (min ((s.size : Nat) : Int) 70) s.size) fun j1 =>
  c0 (s.extract 0 j1)
theorem lcutF_s1_eq (fuel : Nat)  (s : ByteArray) : callN Tryd.prog mode4 T_refTexts fuel 55 [.s (.string s)] [] = lcutF_s1 s (fun (a2 : ByteArray) => some (.s (.string a2), [])) := by kernel_rfl
noncomputable def lcutF {R : Type} (fuel : Nat) (s : ByteArray) (r0 : ByteArray → Option R) : Option R :=
  (lcutF_s1 s (fun (a2 : ByteArray) => r0 a2))
theorem lcutF_eq (fuel : Nat) (s : ByteArray) : callN Tryd.prog mode4 T_refTexts fuel 55 [.s (.string s)] [] = lcutF fuel s (fun (z0 : ByteArray) => some (.s (.string z0), [])) := by
  unfold lcutF
  exact (lcutF_s1_eq fuel  s)
theorem lcut_fact (s : ByteArray) : Fact Tryd.prog noG 55 [.s (.string s)] [] (.s (.string (cutS s)), []) := by
  refine callN_fact hN hM T_refTexts_ok (n := 0) (mode := mode4) ?_
  rw [lcutF_eq]
  unfold lcutF lcutF_s1
  rw [bnd_of (upTo_of (by omega) (by omega)), cutS_eq]
  unfold cutI
  rw [show (min ((s.size : Nat) : Int) 70).toNat = min s.size 70 by omega]
noncomputable def lcut_ent : List V → List Blk → Option (Bool × Out)
  | [.s (.string s)], [] => some (true, (.s (.string (cutS s)), []))
  | _, _ => none
theorem lcut_ok : ∀ args bs out, lcut_ent args bs = some (true, out) → Fact Tryd.prog noG 55 args bs out := by
  intro args bs out h
  unfold lcut_ent at h
  split at h
  · rename_i s
    simp only [Option.some.injEq, Prod.mk.injEq] at h
    obtain ⟨_, rfl⟩ := h
    exact lcut_fact s
  · cases h
noncomputable def T_lcut : Tbl := Tbl.cons 55 lcut_ent T_refTexts
theorem T_lcut_ok : CallOk Tryd.prog noG T_lcut := cons_ok T_refTexts_ok lcut_ok
/-! downpour/downpourlaw02.few -/
noncomputable def lfewF_s3 {R : Type} (w19 : Int) (w3 : Int) (w2 : List ByteArray) (w20 : List ByteArray) (w18 : Nat) (c0 : Nat → Int → List ByteArray → Option R) (c1 : Nat → List ByteArray → Option R) : Option R :=
  br (decide (w19 < w3))
    (bnd (ix w2 w19) fun e24 =>
    grd (Nat.beq w20.length w18) <|
    grd (okN (w18 + 1) 16) <|
    c0 ((w20 ++ [(cutS e24)]).length) (IntKind.i64.wrap (w19 + 1)) (w20 ++ [(cutS e24)]))
    (c1 w18 w20)
theorem lfewF_s3_eq (fuel : Nat) (k : Nat) (K : Ex → St → Option Out) (w19 : Int) (w3 : Int) (w2 : List ByteArray) (w20 : List ByteArray) (w18 : Nat) : lpN (sub (bodyOf Tryd.prog 56) [1, 1, 0, 1, 0, 0]) (fnX Tryd.prog mode4 T_lcut fuel 23 0) 4194316 [2, 3, 10, 11, 12] (k + 1) ⟨[(2, .s (.slice none 0 0)), (3, .sl 0 1 0 w18), (10, .ls w2), (11, .s (.int .i64 w3)), (12, .s (.int .i64 w19))], [(0, some ⟨9, .ls w20, true⟩)], 1, none⟩ K = lfewF_s3 w19 w3 w2 w20 w18 (fun (a25 : Nat) (a26 : Int) (a27 : List ByteArray) => lpN (sub (bodyOf Tryd.prog 56) [1, 1, 0, 1, 0, 0]) (fnX Tryd.prog mode4 T_lcut fuel 23 0) 4194316 [2, 3, 10, 11, 12] k ⟨[(2, .s (.slice none 0 0)), (3, .sl 0 1 0 a25), (10, .ls w2), (11, .s (.int .i64 w3)), (12, .s (.int .i64 a26))], [(0, some ⟨9, .ls a27, true⟩)], 1, none⟩ K) (fun (a28 : Nat) (a29 : List ByteArray) => K (.exit 0) ⟨[(2, .s (.slice none 0 0)), (3, .sl 0 1 0 a28)], [(0, some ⟨9, .ls a29, true⟩)], 1, none⟩) := by kernel_rfl
noncomputable def lfewF_l2 {R : Type} (fuel : Nat) (w2 : List ByteArray) (w3 : Int) (k0 : Nat → List ByteArray → Option R) : Nat → Nat → Int → List ByteArray → Option R
  | 0, _, _, _ => none
  | k + 1, w18, w19, w20 =>
    (lfewF_s3 w19 w3 w2 w20 w18 (fun (a25 : Nat) (a26 : Int) (a27 : List ByteArray) => ( lfewF_l2 fuel w2 w3 k0 k a25 a26 a27 )) (fun (a28 : Nat) (a29 : List ByteArray) => k0 a28 a29))
theorem lfewF_l2_eq (fuel : Nat) (w2 : List ByteArray) (w3 : Int) (K : Ex → St → Option Out) : ∀ (k : Nat) (w18 : Nat) (w19 : Int) (w20 : List ByteArray), lpN (sub (bodyOf Tryd.prog 56) [1, 1, 0, 1, 0, 0]) (fnX Tryd.prog mode4 T_lcut fuel 23 0) 4194316 [2, 3, 10, 11, 12] k ⟨[(2, .s (.slice none 0 0)), (3, .sl 0 1 0 w18), (10, .ls w2), (11, .s (.int .i64 w3)), (12, .s (.int .i64 w19))], [(0, some ⟨9, .ls w20, true⟩)], 1, none⟩ K = lfewF_l2 fuel w2 w3 (fun (y22 : Nat) (y23 : List ByteArray) => K (.exit 0) ⟨[(2, .s (.slice none 0 0)), (3, .sl 0 1 0 y22)], [(0, some ⟨9, .ls y23, true⟩)], 1, none⟩) k w18 w19 w20
  | 0, _, _, _ => rfl
  | k + 1, w18, w19, w20 => by
    unfold lfewF_l2
    exact (lfewF_s3_eq fuel k K w19 w3 w2 w20 w18).trans (congr (congr (Eq.refl (lfewF_s3 (R := Out) w19 w3 w2 w20 w18)) (funext fun a25 => funext fun a26 => funext fun a27 => lfewF_l2_eq fuel w2 w3 K k a25 a26 a27)) (rfl))
noncomputable def lfewF_s2 {R : Type} (w3 : Int) (w2 : List ByteArray) (c0 : Nat → Int → List ByteArray → Option R) (c1 : Option R) : Option R :=
  br (decide (0 < w3))
    (bnd (ix w2 0) fun e15 =>
    c0 1 1 ([(cutS e15)]))
    (c1)
theorem lfewF_s2_eq (fuel : Nat) (k : Nat) (K : Ex → St → Option Out) (w3 : Int) (w2 : List ByteArray) : lpN (sub (bodyOf Tryd.prog 56) [1, 1, 0, 1, 0, 0]) (fnX Tryd.prog mode4 T_lcut fuel 23 0) 4194316 [2, 3, 10, 11, 12] (k + 1) ⟨[(2, .s (.slice none 0 0)), (3, .s (.slice none 0 0)), (10, .ls w2), (11, .s (.int .i64 w3)), (12, .s (.int .i64 0))], [], 0, none⟩ K = lfewF_s2 w3 w2 (fun (a30 : Nat) (a31 : Int) (a32 : List ByteArray) => lpN (sub (bodyOf Tryd.prog 56) [1, 1, 0, 1, 0, 0]) (fnX Tryd.prog mode4 T_lcut fuel 23 0) 4194316 [2, 3, 10, 11, 12] k ⟨[(2, .s (.slice none 0 0)), (3, .sl 0 1 0 a30), (10, .ls w2), (11, .s (.int .i64 w3)), (12, .s (.int .i64 a31))], [(0, some ⟨9, .ls a32, true⟩)], 1, none⟩ K) (K (.exit 0) ⟨[(2, .s (.slice none 0 0)), (3, .s (.slice none 0 0))], [], 0, none⟩) := by kernel_rfl
noncomputable def lfewF_l1 {R : Type} (fuel : Nat)  (k0 : Nat → List ByteArray → Option R) (k1 : Option R) : Nat → List ByteArray → Int → Option R
  | 0, _, _ => none
  | k + 1, w2, w3 =>
    (lfewF_s2 w3 w2 (fun (a30 : Nat) (a31 : Int) (a32 : List ByteArray) => (lfewF_l2 fuel w2 w3 (fun (x33 : Nat) (x34 : List ByteArray) => k0 x33 x34) k a30 a31 a32)) (k1))
theorem lfewF_l1_eq (fuel : Nat)  (K : Ex → St → Option Out) : ∀ (k : Nat) (w2 : List ByteArray) (w3 : Int), lpN (sub (bodyOf Tryd.prog 56) [1, 1, 0, 1, 0, 0]) (fnX Tryd.prog mode4 T_lcut fuel 23 0) 4194316 [2, 3, 10, 11, 12] k ⟨[(2, .s (.slice none 0 0)), (3, .s (.slice none 0 0)), (10, .ls w2), (11, .s (.int .i64 w3)), (12, .s (.int .i64 0))], [], 0, none⟩ K = lfewF_l1 fuel  (fun (y13 : Nat) (y14 : List ByteArray) => K (.exit 0) ⟨[(2, .s (.slice none 0 0)), (3, .sl 0 1 0 y13)], [(0, some ⟨9, .ls y14, true⟩)], 1, none⟩) (K (.exit 0) ⟨[(2, .s (.slice none 0 0)), (3, .s (.slice none 0 0))], [], 0, none⟩) k w2 w3
  | 0, _, _ => rfl
  | k + 1, w2, w3 => by
    unfold lfewF_l1
    exact (lfewF_s2_eq fuel k K w3 w2).trans (congr (congr (Eq.refl (lfewF_s2 (R := Out) w3 w2)) (funext fun a30 => funext fun a31 => funext fun a32 => lfewF_l2_eq fuel w2 w3 K k a30 a31 a32)) (rfl))
noncomputable def lfewF_s4 {R : Type} (x38 : List ByteArray) (x37 : Nat) (c0 : List ByteArray → Option R) : Option R :=
  c0 ((x38.drop 0).take x37)
theorem lfewF_s4_eq (fuel : Nat)  (x38 : List ByteArray) (x37 : Nat) : (kont (fnX Tryd.prog mode4 T_lcut fuel 23 0) (bodyOf Tryd.prog 56) [1, 1, 0, 1, 0] 4 (endK Tryd.prog 0 0 56)) (.exit 0) ⟨[(2, .s (.slice none 0 0)), (3, .sl 0 1 0 x37)], [(0, some ⟨9, .ls x38, true⟩)], 1, none⟩ = lfewF_s4 x38 x37 (fun (a39 : List ByteArray) => some (.ls a39, [])) := by kernel_rfl
noncomputable def lfewF_s5 {R : Type}  (c0 : Option R) : Option R :=
  c0
theorem lfewF_s5_eq (fuel : Nat)   : (kont (fnX Tryd.prog mode4 T_lcut fuel 23 0) (bodyOf Tryd.prog 56) [1, 1, 0, 1, 0] 4 (endK Tryd.prog 0 0 56)) (.exit 0) ⟨[(2, .s (.slice none 0 0)), (3, .s (.slice none 0 0))], [], 0, none⟩ = lfewF_s5  (some (.s (.slice none 0 0), [])) := by kernel_rfl
noncomputable def lfewF_s1 {R : Type} (l : List ByteArray) (c0 : List ByteArray → Int → Option R) : Option R :=
  bnd (upTo (min ((l.length : Nat) : Int) 66) l.length) fun j1 =>
  c0 ((l.drop 0).take (j1 - 0)) ((((l.drop 0).take (j1 - 0)).length : Nat) : Int)
theorem lfewF_s1_eq (fuel : Nat)  (l : List ByteArray) : callN Tryd.prog mode4 T_lcut fuel 56 [.ls l] [] = lfewF_s1 l (fun (a35 : List ByteArray) (a36 : Int) => lpN (sub (bodyOf Tryd.prog 56) [1, 1, 0, 1, 0, 0]) (fnX Tryd.prog mode4 T_lcut fuel 23 0) 4194316 [2, 3, 10, 11, 12] fuel ⟨[(2, .s (.slice none 0 0)), (3, .s (.slice none 0 0)), (10, .ls a35), (11, .s (.int .i64 a36)), (12, .s (.int .i64 0))], [], 0, none⟩ (kont (fnX Tryd.prog mode4 T_lcut fuel 23 0) (bodyOf Tryd.prog 56) [1, 1, 0, 1, 0] 4 (endK Tryd.prog 0 0 56))) := by kernel_rfl
noncomputable def lfewF {R : Type} (fuel : Nat) (l : List ByteArray) (r0 : List ByteArray → Option R) (r1 : Option R) : Option R :=
  (lfewF_s1 l (fun (a35 : List ByteArray) (a36 : Int) => (lfewF_l1 fuel (fun (x37 : Nat) (x38 : List ByteArray) => (lfewF_s4 x38 x37 (fun (a39 : List ByteArray) => r0 a39))) ((lfewF_s5 (r1))) fuel a35 a36)))
theorem lfewF_eq (fuel : Nat) (l : List ByteArray) : callN Tryd.prog mode4 T_lcut fuel 56 [.ls l] [] = lfewF fuel l (fun (z0 : List ByteArray) => some (.ls z0, [])) (some (.s (.slice none 0 0), [])) := by
  unfold lfewF
  exact (lfewF_s1_eq fuel  l).trans (congr (Eq.refl (lfewF_s1 (R := Out) l)) (funext fun a35 => funext fun a36 => (lfewF_l1_eq fuel  (kont (fnX Tryd.prog mode4 T_lcut fuel 23 0) (bodyOf Tryd.prog 56) [1, 1, 0, 1, 0] 4 (endK Tryd.prog 0 0 56)) fuel a35 a36).trans (congrFun (congrFun (congrFun (congr (congr (Eq.refl (lfewF_l1 (R := Out) fuel )) (funext fun x37 => funext fun x38 => (lfewF_s4_eq fuel  x38 x37))) ((lfewF_s5_eq fuel  ))) fuel) a35) a36)))
theorem few_snoc {l : List ByteArray} {j : Nat} (h : j < (l.take 66).length) : ((l.take 66).take j).map cutS ++ [cutS ((l.take 66)[j])] = ((l.take 66).take (j + 1)).map cutS := by
  rw [List.take_succ_eq_append_getElem h, List.map_append]; rfl
theorem lfew_more {R : Type} (fuel : Nat) (l : List ByteArray) (k0 : Nat → List ByteArray → Option R) : ∀ (k j : Nat), j ≤ (l.take 66).length → (l.take 66).length < j + k → lfewF_l2 fuel (l.take 66) ((l.take 66).length : Int) k0 k j (j : Int) (((l.take 66).take j).map cutS) = k0 (fewS l).length (fewS l)
  | 0, j, h1, h2 => by omega
  | k + 1, j, h1, h2 => by
    have hx : (l.take 66).length ≤ 66 := by rw [List.length_take]; omega
    have hj : (((l.take 66).take j).map cutS).length = j := by rw [List.length_map, List.length_take]; omega
    unfold lfewF_l2 lfewF_s3
    rw [br_if]
    by_cases hc : j < (l.take 66).length
    · rw [if_pos (by simpa using hc), bnd_of ((ix_nat _ j).trans (List.getElem?_eq_getElem hc)), grd_of (by rw [hj]; exact beq_self j), grd_of (okN_of (by omega) (by omega)), few_snoc hc, wrap_i64 (by omega) (by omega), show (j : Int) + 1 = ((j + 1 : Nat) : Int) by omega]
      have hj1 : (((l.take 66).take (j + 1)).map cutS).length = j + 1 := by rw [List.length_map, List.length_take]; omega
      rw [hj1]
      exact lfew_more fuel l k0 k (j + 1) (by omega) (by omega)
    · have e : j = (l.take 66).length := by omega
      rw [if_neg (by simp; simp at hc; omega)]
      have e2 : ((l.take 66).take j).map cutS = fewS l := by rw [e, List.take_length, fewS_eq]; rfl
      rw [e2] at hj ⊢
      rw [hj]
theorem lfew_fact (l : List ByteArray) : Fact Tryd.prog noG 56 [.ls l] [] (.ls (fewS l), []) := by
  have hx : (l.take 66).length ≤ 66 := by rw [List.length_take]; omega
  have e1 : upTo (min ((l.length : Nat) : Int) 66) l.length = some (min l.length 66) := by rw [upTo_of (by omega) (by omega)]; congr 1; omega
  have e2 : (l.drop 0).take (min l.length 66 - 0) = l.take 66 := by
    rw [List.drop_zero, Nat.sub_zero]
    by_cases h : l.length ≤ 66
    · rw [Nat.min_eq_left h, List.take_length, List.take_of_length_le h]
    · rw [Nat.min_eq_right (by omega)]
  cases hl : l.take 66 with
  | nil =>
    have e3 : fewS l = [] := by rw [fewS_eq]; unfold fewI; rw [hl]; rfl
    rw [e3]
    refine Fact.out (v := .s (.slice none 0 0)) (bs' := []) ?_ (fun _ _ _ x h => RV_nil_ls h)
    refine callN_fact hN hM T_lcut_ok (n := 69) (mode := mode4) ?_
    rw [lfewF_eq]
    unfold lfewF lfewF_s1
    rw [bnd_of e1, e2, hl]
    rfl
  | cons s t =>
    have hc : 0 < (l.take 66).length := by rw [hl]; simp
    refine callN_fact hN hM T_lcut_ok (n := 69 + 1) (mode := mode4) ?_
    rw [lfewF_eq]
    unfold lfewF lfewF_s1
    rw [bnd_of e1, e2]
    unfold lfewF_l1 lfewF_s2
    dsimp only
    have e0 : ix (l.take 66) 0 = some ((l.take 66)[0]) := (ix_nat _ 0).trans (List.getElem?_eq_getElem hc)
    have e4 : [cutS ((l.take 66)[0])] = ((l.take 66).take 1).map cutS := (few_snoc hc).symm ▸ rfl
    rw [br_if, if_pos (by simpa using hc), bnd_of e0, e4]
    have := lfew_more (R := Out) (69 + 1) l
    rw [show (1 : Int) = ((1 : Nat) : Int) from rfl, this _ 69 1 (by omega) (by omega)]
    unfold lfewF_s4
    rw [List.drop_zero, List.take_length]
noncomputable def lfew_ent : List V → List Blk → Option (Bool × Out)
  | [w0], [] => (asSl .str w0).bind fun l => some (true, (.ls (fewS l), []))
  | _, _ => none
theorem lfew_ok : ∀ args bs out, lfew_ent args bs = some (true, out) → Fact Tryd.prog noG 56 args bs out := by
  intro args bs out h
  unfold lfew_ent at h
  split at h
  · rename_i w0
    obtain ⟨l, h_l, h⟩ := Option.bind_eq_some_iff.1 h
    simp only [Option.some.injEq, Prod.mk.injEq] at h
    obtain ⟨_, rfl⟩ := h
    exact (lfew_fact l).args (fun _ _ _ => fun _ h => RVs_two (fun _ h => RV_ls h_l h) (fun _ h => h) h)
  · cases h
noncomputable def T_lfew : Tbl := Tbl.cons 56 lfew_ent T_lcut
theorem T_lfew_ok : CallOk Tryd.prog noG T_lfew := cons_ok T_lcut_ok lfew_ok
/-! downpour/downpourlaw02.alive -/
noncomputable def laliveF_s1 {R : Type}  (c0 : Bool → Option R) : Option R :=
  br (((errB 1 ([(⟨#[97]⟩ : ByteArray), (⟨#[98]⟩ : ByteArray)])) : Int) == 0)
    (c0 (eqS (sumT 1 ([(⟨#[97]⟩ : ByteArray), (⟨#[98]⟩ : ByteArray)])) (⟨#[3]⟩ : ByteArray)))
    (c0 false)
theorem laliveF_s1_eq (fuel : Nat)   : callN Tryd.prog mode4 T_lfew fuel 62 [] [] = laliveF_s1  (fun (a1 : Bool) => some (.s (.bool a1), [])) := by kernel_rfl
noncomputable def laliveF {R : Type} (fuel : Nat)  (r0 : Bool → Option R) : Option R :=
  (laliveF_s1 (fun (a1 : Bool) => r0 a1))
theorem laliveF_eq (fuel : Nat)  : callN Tryd.prog mode4 T_lfew fuel 62 [] [] = laliveF fuel  (fun (z0 : Bool) => some (.s (.bool z0), [])) := by
  unfold laliveF
  exact (laliveF_s1_eq fuel  )
theorem alive_ok : bok 1 [(⟨#[97]⟩ : ByteArray), (⟨#[98]⟩ : ByteArray)] = true := bok_iff.2 ⟨by omega, by decide, fun s hs => by
  simp only [List.mem_cons, List.not_mem_nil, or_false] at hs
  rcases hs with rfl | rfl <;> rfl⟩
theorem lalive_fact  : Fact Tryd.prog noG 62 [] [] (.s (.bool true), []) := by
  refine callN_fact hN hM T_lfew_ok (n := 0) (mode := mode4) ?_
  rw [laliveF_eq]
  unfold laliveF laliveF_s1
  have e : sumT 1 [(⟨#[97]⟩ : ByteArray), (⟨#[98]⟩ : ByteArray)] = (⟨#[3]⟩ : ByteArray) := by
    rw [sumT_ok alive_ok, sumS_eq]
    unfold sumI sumL
    simp only [List.foldl_cons, List.foldl_nil, xb_eq]
    decide +kernel
  rw [errB_ok alive_ok, e, eqS_iff.2 rfl]
  rfl
noncomputable def lalive_ent : List V → List Blk → Option (Bool × Out)
  | [], [] => some (true, (.s (.bool true), []))
  | _, _ => none
theorem lalive_ok : ∀ args bs out, lalive_ent args bs = some (true, out) → Fact Tryd.prog noG 62 args bs out := by
  intro args bs out h
  unfold lalive_ent at h
  split at h
  · simp only [Option.some.injEq, Prod.mk.injEq] at h
    obtain ⟨_, rfl⟩ := h
    exact lalive_fact 
  · cases h
noncomputable def T_lalive : Tbl := Tbl.cons 62 lalive_ent T_lfew
theorem T_lalive_ok : CallOk Tryd.prog noG T_lalive := cons_ok T_lfew_ok lalive_ok
/-! downpour/downpourlaw02.BlockSums -/
noncomputable def lawSumsF_s1 {R : Type} (a : ByteArray) (n : Int) (b : ByteArray) (l : List ByteArray) (c0 : Bool → Option R) : Option R :=
  grd (decide ((cutS a).size ≤ 1000000000000)) <|
  grd (decide ((cutS a).size ≤ 1000000)) <|
  br (!((nought (cutS a)) == (nought (cutS a))))
    (c0 false)
    (br (decide (n ≥ 0))
      (br (decide (n ≤ 64))
        (br (((if sz64 n = true then 0 else 2) : Int) != 0)
          (c0 false)
          (br ((((zeroT n).size : Nat) : Int) != n)
            (c0 false)
            (grd (decide ((zeroT n).size ≤ 1000000)) <|
            br (!(nought (zeroT n)))
              (c0 false)
              (br (!(decide (n ≤ 64)))
                (br (((if sz64 n = true then 0 else 2) : Int) != 2)
                  (c0 false)
                  (br (!(eqS (zeroT n) ByteArray.empty))
                    (c0 false)
                    (br (((((cutS a).size : Nat) : Int) : Int) == (((cutS b).size : Nat) : Int))
                      (br (decide (((((cutS a).size : Nat) : Int) : Int) ≤ 64))
                        (br (((errB (((cutS a).size : Nat) : Int) [(cutS a), (cutS b)]) : Int) != 0)
                          (c0 false)
                          (grd (decide ((0 : Int) ≤ 2) && decide ((2 : Int) ≤ 1000000)) <|
                        grd (bok (((cutS a).size : Nat) : Int) ([(cutS a), (cutS b)]) && decide ((ones (Int.toNat 2)).length = ([(cutS a), (cutS b)]).length)) <|
                        br (!(eqS (xorT (cutS a) (cutS b)) (txt (sumBS (((cutS a).size : Nat) : Int) ([(cutS a), (cutS b)]) (ones (Int.toNat 2))))))
                          (c0 false)
                          (br (!(decide (((((cutS a).size : Nat) : Int) : Int) ≤ 64)))
                          (br (((errB (((cutS a).size : Nat) : Int) [(cutS a), (cutS b)]) : Int) != 2)
                          (c0 false)
                          (br (!(eqS (xorT (cutS a) (cutS b)) ByteArray.empty))
                          (c0 false)
                          (br (((errB n (fewS l)) : Int) != 0)
                          (br (((errB n (fewS l)) : Int) == (errB n (fewS l)))
                          (c0 (eqS (sumT n (fewS l)) ByteArray.empty))
                          (c0 false))
                          (br (((errB n (fewS l)) : Int) == 0)
                          (grd (decide ((0 : Int) ≤ (((fewS l).length : Nat) : Int)) && decide (((((fewS l).length : Nat) : Int) : Int) ≤ 1000000)) <|
                        grd (bok n (fewS l) && decide ((ones (Int.toNat (((fewS l).length : Nat) : Int))).length = (fewS l).length)) <|
                        c0 (eqS (sumT n (fewS l)) (txt (sumBS n (fewS l) (ones (Int.toNat (((fewS l).length : Nat) : Int)))))))
                          (c0 false)))))
                          (br (((errB n (fewS l)) : Int) != 0)
                          (br (((errB n (fewS l)) : Int) == (errB n (fewS l)))
                          (c0 (eqS (sumT n (fewS l)) ByteArray.empty))
                          (c0 false))
                          (br (((errB n (fewS l)) : Int) == 0)
                          (grd (decide ((0 : Int) ≤ (((fewS l).length : Nat) : Int)) && decide (((((fewS l).length : Nat) : Int) : Int) ≤ 1000000)) <|
                        grd (bok n (fewS l) && decide ((ones (Int.toNat (((fewS l).length : Nat) : Int))).length = (fewS l).length)) <|
                        c0 (eqS (sumT n (fewS l)) (txt (sumBS n (fewS l) (ones (Int.toNat (((fewS l).length : Nat) : Int)))))))
                          (c0 false))))))
                        (br (!(decide (((((cutS a).size : Nat) : Int) : Int) ≤ 64)))
                          (br (((errB (((cutS a).size : Nat) : Int) [(cutS a), (cutS b)]) : Int) != 2)
                          (c0 false)
                          (br (!(eqS (xorT (cutS a) (cutS b)) ByteArray.empty))
                          (c0 false)
                          (br (((errB n (fewS l)) : Int) != 0)
                          (br (((errB n (fewS l)) : Int) == (errB n (fewS l)))
                          (c0 (eqS (sumT n (fewS l)) ByteArray.empty))
                          (c0 false))
                          (br (((errB n (fewS l)) : Int) == 0)
                          (grd (decide ((0 : Int) ≤ (((fewS l).length : Nat) : Int)) && decide (((((fewS l).length : Nat) : Int) : Int) ≤ 1000000)) <|
                        grd (bok n (fewS l) && decide ((ones (Int.toNat (((fewS l).length : Nat) : Int))).length = (fewS l).length)) <|
                        c0 (eqS (sumT n (fewS l)) (txt (sumBS n (fewS l) (ones (Int.toNat (((fewS l).length : Nat) : Int)))))))
                          (c0 false)))))
                          (br (((errB n (fewS l)) : Int) != 0)
                          (br (((errB n (fewS l)) : Int) == (errB n (fewS l)))
                          (c0 (eqS (sumT n (fewS l)) ByteArray.empty))
                          (c0 false))
                          (br (((errB n (fewS l)) : Int) == 0)
                          (grd (decide ((0 : Int) ≤ (((fewS l).length : Nat) : Int)) && decide (((((fewS l).length : Nat) : Int) : Int) ≤ 1000000)) <|
                        grd (bok n (fewS l) && decide ((ones (Int.toNat (((fewS l).length : Nat) : Int))).length = (fewS l).length)) <|
                        c0 (eqS (sumT n (fewS l)) (txt (sumBS n (fewS l) (ones (Int.toNat (((fewS l).length : Nat) : Int)))))))
                          (c0 false)))))
                      (br (((errB (((cutS a).size : Nat) : Int) [(cutS a), (cutS b)]) : Int) != 2)
                        (c0 false)
                        (br (!(eqS (xorT (cutS a) (cutS b)) ByteArray.empty))
                          (c0 false)
                          (br (((errB n (fewS l)) : Int) != 0)
                          (br (((errB n (fewS l)) : Int) == (errB n (fewS l)))
                          (c0 (eqS (sumT n (fewS l)) ByteArray.empty))
                          (c0 false))
                          (br (((errB n (fewS l)) : Int) == 0)
                          (grd (decide ((0 : Int) ≤ (((fewS l).length : Nat) : Int)) && decide (((((fewS l).length : Nat) : Int) : Int) ≤ 1000000)) <|
                        grd (bok n (fewS l) && decide ((ones (Int.toNat (((fewS l).length : Nat) : Int))).length = (fewS l).length)) <|
                        c0 (eqS (sumT n (fewS l)) (txt (sumBS n (fewS l) (ones (Int.toNat (((fewS l).length : Nat) : Int)))))))
                          (c0 false))))))))
                (br (((((cutS a).size : Nat) : Int) : Int) == (((cutS b).size : Nat) : Int))
                  (br (decide (((((cutS a).size : Nat) : Int) : Int) ≤ 64))
                    (br (((errB (((cutS a).size : Nat) : Int) [(cutS a), (cutS b)]) : Int) != 0)
                      (c0 false)
                      (grd (decide ((0 : Int) ≤ 2) && decide ((2 : Int) ≤ 1000000)) <|
                      grd (bok (((cutS a).size : Nat) : Int) ([(cutS a), (cutS b)]) && decide ((ones (Int.toNat 2)).length = ([(cutS a), (cutS b)]).length)) <|
                      br (!(eqS (xorT (cutS a) (cutS b)) (txt (sumBS (((cutS a).size : Nat) : Int) ([(cutS a), (cutS b)]) (ones (Int.toNat 2))))))
                        (c0 false)
                        (br (!(decide (((((cutS a).size : Nat) : Int) : Int) ≤ 64)))
                          (br (((errB (((cutS a).size : Nat) : Int) [(cutS a), (cutS b)]) : Int) != 2)
                          (c0 false)
                          (br (!(eqS (xorT (cutS a) (cutS b)) ByteArray.empty))
                          (c0 false)
                          (br (((errB n (fewS l)) : Int) != 0)
                          (br (((errB n (fewS l)) : Int) == (errB n (fewS l)))
                          (c0 (eqS (sumT n (fewS l)) ByteArray.empty))
                          (c0 false))
                          (br (((errB n (fewS l)) : Int) == 0)
                          (grd (decide ((0 : Int) ≤ (((fewS l).length : Nat) : Int)) && decide (((((fewS l).length : Nat) : Int) : Int) ≤ 1000000)) <|
                        grd (bok n (fewS l) && decide ((ones (Int.toNat (((fewS l).length : Nat) : Int))).length = (fewS l).length)) <|
                        c0 (eqS (sumT n (fewS l)) (txt (sumBS n (fewS l) (ones (Int.toNat (((fewS l).length : Nat) : Int)))))))
                          (c0 false)))))
                          (br (((errB n (fewS l)) : Int) != 0)
                          (br (((errB n (fewS l)) : Int) == (errB n (fewS l)))
                          (c0 (eqS (sumT n (fewS l)) ByteArray.empty))
                          (c0 false))
                          (br (((errB n (fewS l)) : Int) == 0)
                          (grd (decide ((0 : Int) ≤ (((fewS l).length : Nat) : Int)) && decide (((((fewS l).length : Nat) : Int) : Int) ≤ 1000000)) <|
                        grd (bok n (fewS l) && decide ((ones (Int.toNat (((fewS l).length : Nat) : Int))).length = (fewS l).length)) <|
                        c0 (eqS (sumT n (fewS l)) (txt (sumBS n (fewS l) (ones (Int.toNat (((fewS l).length : Nat) : Int)))))))
                          (c0 false))))))
                    (br (!(decide (((((cutS a).size : Nat) : Int) : Int) ≤ 64)))
                      (br (((errB (((cutS a).size : Nat) : Int) [(cutS a), (cutS b)]) : Int) != 2)
                        (c0 false)
                        (br (!(eqS (xorT (cutS a) (cutS b)) ByteArray.empty))
                          (c0 false)
                          (br (((errB n (fewS l)) : Int) != 0)
                          (br (((errB n (fewS l)) : Int) == (errB n (fewS l)))
                          (c0 (eqS (sumT n (fewS l)) ByteArray.empty))
                          (c0 false))
                          (br (((errB n (fewS l)) : Int) == 0)
                          (grd (decide ((0 : Int) ≤ (((fewS l).length : Nat) : Int)) && decide (((((fewS l).length : Nat) : Int) : Int) ≤ 1000000)) <|
                        grd (bok n (fewS l) && decide ((ones (Int.toNat (((fewS l).length : Nat) : Int))).length = (fewS l).length)) <|
                        c0 (eqS (sumT n (fewS l)) (txt (sumBS n (fewS l) (ones (Int.toNat (((fewS l).length : Nat) : Int)))))))
                          (c0 false)))))
                      (br (((errB n (fewS l)) : Int) != 0)
                        (br (((errB n (fewS l)) : Int) == (errB n (fewS l)))
                          (c0 (eqS (sumT n (fewS l)) ByteArray.empty))
                          (c0 false))
                        (br (((errB n (fewS l)) : Int) == 0)
                          (grd (decide ((0 : Int) ≤ (((fewS l).length : Nat) : Int)) && decide (((((fewS l).length : Nat) : Int) : Int) ≤ 1000000)) <|
                        grd (bok n (fewS l) && decide ((ones (Int.toNat (((fewS l).length : Nat) : Int))).length = (fewS l).length)) <|
                        c0 (eqS (sumT n (fewS l)) (txt (sumBS n (fewS l) (ones (Int.toNat (((fewS l).length : Nat) : Int)))))))
                          (c0 false)))))
                  (br (((errB (((cutS a).size : Nat) : Int) [(cutS a), (cutS b)]) : Int) != 2)
                    (c0 false)
                    (br (!(eqS (xorT (cutS a) (cutS b)) ByteArray.empty))
                      (c0 false)
                      (br (((errB n (fewS l)) : Int) != 0)
                        (br (((errB n (fewS l)) : Int) == (errB n (fewS l)))
                          (c0 (eqS (sumT n (fewS l)) ByteArray.empty))
                          (c0 false))
                        (br (((errB n (fewS l)) : Int) == 0)
                          (grd (decide ((0 : Int) ≤ (((fewS l).length : Nat) : Int)) && decide (((((fewS l).length : Nat) : Int) : Int) ≤ 1000000)) <|
                        grd (bok n (fewS l) && decide ((ones (Int.toNat (((fewS l).length : Nat) : Int))).length = (fewS l).length)) <|
                        c0 (eqS (sumT n (fewS l)) (txt (sumBS n (fewS l) (ones (Int.toNat (((fewS l).length : Nat) : Int)))))))
                          (c0 false))))))))))
        (br (!(decide (n ≤ 64)))
          (br (((if sz64 n = true then 0 else 2) : Int) != 2)
            (c0 false)
            (br (!(eqS (zeroT n) ByteArray.empty))
              (c0 false)
              (br (((((cutS a).size : Nat) : Int) : Int) == (((cutS b).size : Nat) : Int))
                (br (decide (((((cutS a).size : Nat) : Int) : Int) ≤ 64))
                  (br (((errB (((cutS a).size : Nat) : Int) [(cutS a), (cutS b)]) : Int) != 0)
                    (c0 false)
                    (grd (decide ((0 : Int) ≤ 2) && decide ((2 : Int) ≤ 1000000)) <|
                    grd (bok (((cutS a).size : Nat) : Int) ([(cutS a), (cutS b)]) && decide ((ones (Int.toNat 2)).length = ([(cutS a), (cutS b)]).length)) <|
                    br (!(eqS (xorT (cutS a) (cutS b)) (txt (sumBS (((cutS a).size : Nat) : Int) ([(cutS a), (cutS b)]) (ones (Int.toNat 2))))))
                      (c0 false)
                      (br (!(decide (((((cutS a).size : Nat) : Int) : Int) ≤ 64)))
                        (br (((errB (((cutS a).size : Nat) : Int) [(cutS a), (cutS b)]) : Int) != 2)
                          (c0 false)
                          (br (!(eqS (xorT (cutS a) (cutS b)) ByteArray.empty))
                          (c0 false)
                          (br (((errB n (fewS l)) : Int) != 0)
                          (br (((errB n (fewS l)) : Int) == (errB n (fewS l)))
                          (c0 (eqS (sumT n (fewS l)) ByteArray.empty))
                          (c0 false))
                          (br (((errB n (fewS l)) : Int) == 0)
                          (grd (decide ((0 : Int) ≤ (((fewS l).length : Nat) : Int)) && decide (((((fewS l).length : Nat) : Int) : Int) ≤ 1000000)) <|
                        grd (bok n (fewS l) && decide ((ones (Int.toNat (((fewS l).length : Nat) : Int))).length = (fewS l).length)) <|
                        c0 (eqS (sumT n (fewS l)) (txt (sumBS n (fewS l) (ones (Int.toNat (((fewS l).length : Nat) : Int)))))))
                          (c0 false)))))
                        (br (((errB n (fewS l)) : Int) != 0)
                          (br (((errB n (fewS l)) : Int) == (errB n (fewS l)))
                          (c0 (eqS (sumT n (fewS l)) ByteArray.empty))
                          (c0 false))
                          (br (((errB n (fewS l)) : Int) == 0)
                          (grd (decide ((0 : Int) ≤ (((fewS l).length : Nat) : Int)) && decide (((((fewS l).length : Nat) : Int) : Int) ≤ 1000000)) <|
                        grd (bok n (fewS l) && decide ((ones (Int.toNat (((fewS l).length : Nat) : Int))).length = (fewS l).length)) <|
                        c0 (eqS (sumT n (fewS l)) (txt (sumBS n (fewS l) (ones (Int.toNat (((fewS l).length : Nat) : Int)))))))
                          (c0 false))))))
                  (br (!(decide (((((cutS a).size : Nat) : Int) : Int) ≤ 64)))
                    (br (((errB (((cutS a).size : Nat) : Int) [(cutS a), (cutS b)]) : Int) != 2)
                      (c0 false)
                      (br (!(eqS (xorT (cutS a) (cutS b)) ByteArray.empty))
                        (c0 false)
                        (br (((errB n (fewS l)) : Int) != 0)
                          (br (((errB n (fewS l)) : Int) == (errB n (fewS l)))
                          (c0 (eqS (sumT n (fewS l)) ByteArray.empty))
                          (c0 false))
                          (br (((errB n (fewS l)) : Int) == 0)
                          (grd (decide ((0 : Int) ≤ (((fewS l).length : Nat) : Int)) && decide (((((fewS l).length : Nat) : Int) : Int) ≤ 1000000)) <|
                        grd (bok n (fewS l) && decide ((ones (Int.toNat (((fewS l).length : Nat) : Int))).length = (fewS l).length)) <|
                        c0 (eqS (sumT n (fewS l)) (txt (sumBS n (fewS l) (ones (Int.toNat (((fewS l).length : Nat) : Int)))))))
                          (c0 false)))))
                    (br (((errB n (fewS l)) : Int) != 0)
                      (br (((errB n (fewS l)) : Int) == (errB n (fewS l)))
                        (c0 (eqS (sumT n (fewS l)) ByteArray.empty))
                        (c0 false))
                      (br (((errB n (fewS l)) : Int) == 0)
                        (grd (decide ((0 : Int) ≤ (((fewS l).length : Nat) : Int)) && decide (((((fewS l).length : Nat) : Int) : Int) ≤ 1000000)) <|
                        grd (bok n (fewS l) && decide ((ones (Int.toNat (((fewS l).length : Nat) : Int))).length = (fewS l).length)) <|
                        c0 (eqS (sumT n (fewS l)) (txt (sumBS n (fewS l) (ones (Int.toNat (((fewS l).length : Nat) : Int)))))))
                        (c0 false)))))
                (br (((errB (((cutS a).size : Nat) : Int) [(cutS a), (cutS b)]) : Int) != 2)
                  (c0 false)
                  (br (!(eqS (xorT (cutS a) (cutS b)) ByteArray.empty))
                    (c0 false)
                    (br (((errB n (fewS l)) : Int) != 0)
                      (br (((errB n (fewS l)) : Int) == (errB n (fewS l)))
                        (c0 (eqS (sumT n (fewS l)) ByteArray.empty))
                        (c0 false))
                      (br (((errB n (fewS l)) : Int) == 0)
                        (grd (decide ((0 : Int) ≤ (((fewS l).length : Nat) : Int)) && decide (((((fewS l).length : Nat) : Int) : Int) ≤ 1000000)) <|
                        grd (bok n (fewS l) && decide ((ones (Int.toNat (((fewS l).length : Nat) : Int))).length = (fewS l).length)) <|
                        c0 (eqS (sumT n (fewS l)) (txt (sumBS n (fewS l) (ones (Int.toNat (((fewS l).length : Nat) : Int)))))))
                        (c0 false))))))))
          (br (((((cutS a).size : Nat) : Int) : Int) == (((cutS b).size : Nat) : Int))
            (br (decide (((((cutS a).size : Nat) : Int) : Int) ≤ 64))
              (br (((errB (((cutS a).size : Nat) : Int) [(cutS a), (cutS b)]) : Int) != 0)
                (c0 false)
                (grd (decide ((0 : Int) ≤ 2) && decide ((2 : Int) ≤ 1000000)) <|
                grd (bok (((cutS a).size : Nat) : Int) ([(cutS a), (cutS b)]) && decide ((ones (Int.toNat 2)).length = ([(cutS a), (cutS b)]).length)) <|
                br (!(eqS (xorT (cutS a) (cutS b)) (txt (sumBS (((cutS a).size : Nat) : Int) ([(cutS a), (cutS b)]) (ones (Int.toNat 2))))))
                  (c0 false)
                  (br (!(decide (((((cutS a).size : Nat) : Int) : Int) ≤ 64)))
                    (br (((errB (((cutS a).size : Nat) : Int) [(cutS a), (cutS b)]) : Int) != 2)
                      (c0 false)
                      (br (!(eqS (xorT (cutS a) (cutS b)) ByteArray.empty))
                        (c0 false)
                        (br (((errB n (fewS l)) : Int) != 0)
                          (br (((errB n (fewS l)) : Int) == (errB n (fewS l)))
                          (c0 (eqS (sumT n (fewS l)) ByteArray.empty))
                          (c0 false))
                          (br (((errB n (fewS l)) : Int) == 0)
                          (grd (decide ((0 : Int) ≤ (((fewS l).length : Nat) : Int)) && decide (((((fewS l).length : Nat) : Int) : Int) ≤ 1000000)) <|
                        grd (bok n (fewS l) && decide ((ones (Int.toNat (((fewS l).length : Nat) : Int))).length = (fewS l).length)) <|
                        c0 (eqS (sumT n (fewS l)) (txt (sumBS n (fewS l) (ones (Int.toNat (((fewS l).length : Nat) : Int)))))))
                          (c0 false)))))
                    (br (((errB n (fewS l)) : Int) != 0)
                      (br (((errB n (fewS l)) : Int) == (errB n (fewS l)))
                        (c0 (eqS (sumT n (fewS l)) ByteArray.empty))
                        (c0 false))
                      (br (((errB n (fewS l)) : Int) == 0)
                        (grd (decide ((0 : Int) ≤ (((fewS l).length : Nat) : Int)) && decide (((((fewS l).length : Nat) : Int) : Int) ≤ 1000000)) <|
                        grd (bok n (fewS l) && decide ((ones (Int.toNat (((fewS l).length : Nat) : Int))).length = (fewS l).length)) <|
                        c0 (eqS (sumT n (fewS l)) (txt (sumBS n (fewS l) (ones (Int.toNat (((fewS l).length : Nat) : Int)))))))
                        (c0 false))))))
              (br (!(decide (((((cutS a).size : Nat) : Int) : Int) ≤ 64)))
                (br (((errB (((cutS a).size : Nat) : Int) [(cutS a), (cutS b)]) : Int) != 2)
                  (c0 false)
                  (br (!(eqS (xorT (cutS a) (cutS b)) ByteArray.empty))
                    (c0 false)
                    (br (((errB n (fewS l)) : Int) != 0)
                      (br (((errB n (fewS l)) : Int) == (errB n (fewS l)))
                        (c0 (eqS (sumT n (fewS l)) ByteArray.empty))
                        (c0 false))
                      (br (((errB n (fewS l)) : Int) == 0)
                        (grd (decide ((0 : Int) ≤ (((fewS l).length : Nat) : Int)) && decide (((((fewS l).length : Nat) : Int) : Int) ≤ 1000000)) <|
                        grd (bok n (fewS l) && decide ((ones (Int.toNat (((fewS l).length : Nat) : Int))).length = (fewS l).length)) <|
                        c0 (eqS (sumT n (fewS l)) (txt (sumBS n (fewS l) (ones (Int.toNat (((fewS l).length : Nat) : Int)))))))
                        (c0 false)))))
                (br (((errB n (fewS l)) : Int) != 0)
                  (br (((errB n (fewS l)) : Int) == (errB n (fewS l)))
                    (c0 (eqS (sumT n (fewS l)) ByteArray.empty))
                    (c0 false))
                  (br (((errB n (fewS l)) : Int) == 0)
                    (grd (decide ((0 : Int) ≤ (((fewS l).length : Nat) : Int)) && decide (((((fewS l).length : Nat) : Int) : Int) ≤ 1000000)) <|
                    grd (bok n (fewS l) && decide ((ones (Int.toNat (((fewS l).length : Nat) : Int))).length = (fewS l).length)) <|
                    c0 (eqS (sumT n (fewS l)) (txt (sumBS n (fewS l) (ones (Int.toNat (((fewS l).length : Nat) : Int)))))))
                    (c0 false)))))
            (br (((errB (((cutS a).size : Nat) : Int) [(cutS a), (cutS b)]) : Int) != 2)
              (c0 false)
              (br (!(eqS (xorT (cutS a) (cutS b)) ByteArray.empty))
                (c0 false)
                (br (((errB n (fewS l)) : Int) != 0)
                  (br (((errB n (fewS l)) : Int) == (errB n (fewS l)))
                    (c0 (eqS (sumT n (fewS l)) ByteArray.empty))
                    (c0 false))
                  (br (((errB n (fewS l)) : Int) == 0)
                    (grd (decide ((0 : Int) ≤ (((fewS l).length : Nat) : Int)) && decide (((((fewS l).length : Nat) : Int) : Int) ≤ 1000000)) <|
                    grd (bok n (fewS l) && decide ((ones (Int.toNat (((fewS l).length : Nat) : Int))).length = (fewS l).length)) <|
                    c0 (eqS (sumT n (fewS l)) (txt (sumBS n (fewS l) (ones (Int.toNat (((fewS l).length : Nat) : Int)))))))
                    (c0 false))))))))
      (br (((if sz64 n = true then 0 else 2) : Int) != 2)
        (c0 false)
        (br (!(eqS (zeroT n) ByteArray.empty))
          (c0 false)
          (br (((((cutS a).size : Nat) : Int) : Int) == (((cutS b).size : Nat) : Int))
            (br (decide (((((cutS a).size : Nat) : Int) : Int) ≤ 64))
              (br (((errB (((cutS a).size : Nat) : Int) [(cutS a), (cutS b)]) : Int) != 0)
                (c0 false)
                (grd (decide ((0 : Int) ≤ 2) && decide ((2 : Int) ≤ 1000000)) <|
                grd (bok (((cutS a).size : Nat) : Int) ([(cutS a), (cutS b)]) && decide ((ones (Int.toNat 2)).length = ([(cutS a), (cutS b)]).length)) <|
                br (!(eqS (xorT (cutS a) (cutS b)) (txt (sumBS (((cutS a).size : Nat) : Int) ([(cutS a), (cutS b)]) (ones (Int.toNat 2))))))
                  (c0 false)
                  (br (!(decide (((((cutS a).size : Nat) : Int) : Int) ≤ 64)))
                    (br (((errB (((cutS a).size : Nat) : Int) [(cutS a), (cutS b)]) : Int) != 2)
                      (c0 false)
                      (br (!(eqS (xorT (cutS a) (cutS b)) ByteArray.empty))
                        (c0 false)
                        (br (((errB n (fewS l)) : Int) != 0)
                          (br (((errB n (fewS l)) : Int) == (errB n (fewS l)))
                          (c0 (eqS (sumT n (fewS l)) ByteArray.empty))
                          (c0 false))
                          (br (((errB n (fewS l)) : Int) == 0)
                          (grd (decide ((0 : Int) ≤ (((fewS l).length : Nat) : Int)) && decide (((((fewS l).length : Nat) : Int) : Int) ≤ 1000000)) <|
                        grd (bok n (fewS l) && decide ((ones (Int.toNat (((fewS l).length : Nat) : Int))).length = (fewS l).length)) <|
                        c0 (eqS (sumT n (fewS l)) (txt (sumBS n (fewS l) (ones (Int.toNat (((fewS l).length : Nat) : Int)))))))
                          (c0 false)))))
                    (br (((errB n (fewS l)) : Int) != 0)
                      (br (((errB n (fewS l)) : Int) == (errB n (fewS l)))
                        (c0 (eqS (sumT n (fewS l)) ByteArray.empty))
                        (c0 false))
                      (br (((errB n (fewS l)) : Int) == 0)
                        (grd (decide ((0 : Int) ≤ (((fewS l).length : Nat) : Int)) && decide (((((fewS l).length : Nat) : Int) : Int) ≤ 1000000)) <|
                        grd (bok n (fewS l) && decide ((ones (Int.toNat (((fewS l).length : Nat) : Int))).length = (fewS l).length)) <|
                        c0 (eqS (sumT n (fewS l)) (txt (sumBS n (fewS l) (ones (Int.toNat (((fewS l).length : Nat) : Int)))))))
                        (c0 false))))))
              (br (!(decide (((((cutS a).size : Nat) : Int) : Int) ≤ 64)))
                (br (((errB (((cutS a).size : Nat) : Int) [(cutS a), (cutS b)]) : Int) != 2)
                  (c0 false)
                  (br (!(eqS (xorT (cutS a) (cutS b)) ByteArray.empty))
                    (c0 false)
                    (br (((errB n (fewS l)) : Int) != 0)
                      (br (((errB n (fewS l)) : Int) == (errB n (fewS l)))
                        (c0 (eqS (sumT n (fewS l)) ByteArray.empty))
                        (c0 false))
                      (br (((errB n (fewS l)) : Int) == 0)
                        (grd (decide ((0 : Int) ≤ (((fewS l).length : Nat) : Int)) && decide (((((fewS l).length : Nat) : Int) : Int) ≤ 1000000)) <|
                        grd (bok n (fewS l) && decide ((ones (Int.toNat (((fewS l).length : Nat) : Int))).length = (fewS l).length)) <|
                        c0 (eqS (sumT n (fewS l)) (txt (sumBS n (fewS l) (ones (Int.toNat (((fewS l).length : Nat) : Int)))))))
                        (c0 false)))))
                (br (((errB n (fewS l)) : Int) != 0)
                  (br (((errB n (fewS l)) : Int) == (errB n (fewS l)))
                    (c0 (eqS (sumT n (fewS l)) ByteArray.empty))
                    (c0 false))
                  (br (((errB n (fewS l)) : Int) == 0)
                    (grd (decide ((0 : Int) ≤ (((fewS l).length : Nat) : Int)) && decide (((((fewS l).length : Nat) : Int) : Int) ≤ 1000000)) <|
                    grd (bok n (fewS l) && decide ((ones (Int.toNat (((fewS l).length : Nat) : Int))).length = (fewS l).length)) <|
                    c0 (eqS (sumT n (fewS l)) (txt (sumBS n (fewS l) (ones (Int.toNat (((fewS l).length : Nat) : Int)))))))
                    (c0 false)))))
            (br (((errB (((cutS a).size : Nat) : Int) [(cutS a), (cutS b)]) : Int) != 2)
              (c0 false)
              (br (!(eqS (xorT (cutS a) (cutS b)) ByteArray.empty))
                (c0 false)
                (br (((errB n (fewS l)) : Int) != 0)
                  (br (((errB n (fewS l)) : Int) == (errB n (fewS l)))
                    (c0 (eqS (sumT n (fewS l)) ByteArray.empty))
                    (c0 false))
                  (br (((errB n (fewS l)) : Int) == 0)
                    (grd (decide ((0 : Int) ≤ (((fewS l).length : Nat) : Int)) && decide (((((fewS l).length : Nat) : Int) : Int) ≤ 1000000)) <|
                    grd (bok n (fewS l) && decide ((ones (Int.toNat (((fewS l).length : Nat) : Int))).length = (fewS l).length)) <|
                    c0 (eqS (sumT n (fewS l)) (txt (sumBS n (fewS l) (ones (Int.toNat (((fewS l).length : Nat) : Int)))))))
                    (c0 false)))))))))
theorem lawSumsF_s1_eq (fuel : Nat)  (a : ByteArray) (n : Int) (b : ByteArray) (l : List ByteArray) : callN Tryd.prog mode4 T_lalive fuel 12 [.s (.int .i64 n), .s (.string a), .s (.string b), .ls l] [] = lawSumsF_s1 a n b l (fun (a1 : Bool) => some (.s (.bool a1), [])) := by kernel_rfl
noncomputable def lawSumsF {R : Type} (fuel : Nat) (n : Int) (a : ByteArray) (b : ByteArray) (l : List ByteArray) (r0 : Bool → Option R) : Option R :=
  (lawSumsF_s1 a n b l (fun (a1 : Bool) => r0 a1))
theorem lawSumsF_eq (fuel : Nat) (n : Int) (a : ByteArray) (b : ByteArray) (l : List ByteArray) : callN Tryd.prog mode4 T_lalive fuel 12 [.s (.int .i64 n), .s (.string a), .s (.string b), .ls l] [] = lawSumsF fuel n a b l (fun (z0 : Bool) => some (.s (.bool z0), [])) := by
  unfold lawSumsF
  exact (lawSumsF_s1_eq fuel  a n b l)
theorem lawSums_fact (n : Int) (a : ByteArray) (b : ByteArray) (l : List ByteArray) : Fact Tryd.prog noG 12 [.s (.int .i64 n), .s (.string a), .s (.string b), .ls l] [] (.s (.bool true), []) := by
  refine callN_fact hN hM T_lalive_ok (n := 0) (mode := mode4) ?_
  rw [lawSumsF_eq]
  unfold lawSumsF lawSumsF_s1
  have ha := cut_size a
  have hb := cut_size b
  have hl := few_len l
  generalize cutS a = a at *
  generalize cutS b = b at *
  generalize fewS l = l at *
  rw [grd_of (by simp; omega), br_if, if_neg (by simp)]
  have hemp : eqS ByteArray.empty ByteArray.empty = true := eqS_iff.2 rfl
  have hzn := zero_nought n
  have l1 : ones (Int.toNat 2) = ones [a, b].length := rfl
  have l2 : ones (Int.toNat ((l.length : Nat) : Int)) = ones l.length := by rw [Int.toNat_natCast]
  have hx := xor_sum a b
  have hs1 := sumB_ones ((a.size : Nat) : Int) [a, b]
  have hs2 := sumB_ones n l
  have g1 : (decide ((0 : Int) ≤ 2) && decide ((2 : Int) ≤ 1000000)) = true := by decide
  have g2 : (decide ((0 : Int) ≤ ((l.length : Nat) : Int)) && decide (((l.length : Nat) : Int) ≤ 1000000)) = true := by simp; omega
  have k1 : bok ((a.size : Nat) : Int) [a, b] = true ∧ errB ((a.size : Nat) : Int) [a, b] = 0 ∧ a.size = b.size ∧ a.size ≤ 64 ∧ sumT ((a.size : Nat) : Int) [a, b] = txt (sumS ((a.size : Nat) : Int) [a, b]) ∨ errB ((a.size : Nat) : Int) [a, b] = 2 ∧ ¬ (a.size = b.size ∧ a.size ≤ 64) ∧ sumT ((a.size : Nat) : Int) [a, b] = ByteArray.empty := by
    by_cases h : bok ((a.size : Nat) : Int) [a, b] = true
    · obtain ⟨h0, h1, h2⟩ := bok_iff.1 h
      have := h2 b (by simp)
      exact .inl ⟨h, errB_ok h, by omega, by omega, sumT_ok h⟩
    · refine .inr ⟨errB_bad h, fun ⟨e1, e2⟩ => h (bok_iff.2 ⟨by omega, by simp, fun t ht => ?_⟩), sumT_bad h⟩
      simp only [List.mem_cons, List.not_mem_nil, or_false] at ht
      rcases ht with rfl | rfl <;> omega
  have k2 : bok n l = true ∧ errB n l = 0 ∧ sumT n l = txt (sumS n l) ∨ errB n l = 2 ∧ sumT n l = ByteArray.empty := by
    by_cases h : bok n l = true
    · exact .inl ⟨h, errB_ok h, sumT_ok h⟩
    · exact .inr ⟨errB_bad h, sumT_bad h⟩
  have k0 : sz64 n = true ∧ 0 ≤ n ∧ n ≤ 64 ∧ (((zeroT n).size : Nat) : Int) = n ∨ sz64 n = false ∧ ¬ (0 ≤ n ∧ n ≤ 64) ∧ zeroT n = ByteArray.empty := by
    by_cases h : sz64 n = true
    · exact .inl ⟨h, (sz64_iff.1 h).1, (sz64_iff.1 h).2, zero_size h⟩
    · refine .inr ⟨by rw [Bool.eq_false_iff]; exact h, fun g => h (sz64_iff.2 g), ?_⟩
      rw [zeroT_eq]; unfold zeroTI; rw [if_neg h]
  rw [l1, l2, hs1, hs2, g1, g2, hx]
  have f1 : ∀ t : ByteArray, eqS t t = true := fun t => eqS_iff.2 rfl
  have o1 : decide ((ones [a, b].length).length = [a, b].length) = true := decide_eq_true (ones_len _)
  have o2 : decide ((ones l.length).length = l.length) = true := decide_eq_true (ones_len _)
  rw [o1, o2]
  dsimp only
  have tail : br (errB n l != 0) (br (errB n l == errB n l) (some (V.s (Value.bool (eqS (sumT n l) ByteArray.empty)), ([] : List (Option Blk)))) (some (V.s (Value.bool false), []))) (br (errB n l == 0) (grd true <| grd (bok n l && true) <| some (V.s (Value.bool (eqS (sumT n l) (txt (sumS n l)))), [])) (some (V.s (Value.bool false), []))) = some (V.s (Value.bool true), []) := by
    rcases k2 with ⟨h1, h2, h3⟩ | ⟨h2, h3⟩
    · rw [h1, h2, h3, f1]; rfl
    · rw [h2, h3, f1]; rfl
  simp only [tail]
  clear tail hs1 hs2 l1 l2 g1 g2 o1 o2 k2 hx
  have n20 : ((2 : Int) != 0) = true := rfl
  have n02 : ((0 : Int) != 2) = true := rfl
  have m0 : ((0 : Int) != 0) = false := rfl
  have m2 : ((2 : Int) != 2) = false := rfl
  have ft : (false = true) = False := by simp
  have d5 : decide (a.size ≤ 1000000) = true := by simp; omega
  rcases k0 with ⟨z1, z2, z3, z4⟩ | ⟨z1, z2, z3⟩
  · have d1 : decide (n ≥ 0) = true := decide_eq_true z2
    have d2 : decide (n ≤ 64) = true := decide_eq_true z3
    have d3 : ((((zeroT n).size : Nat) : Int) != n) = false := by rw [z4]; simp
    have d4 : decide ((zeroT n).size ≤ 1000000) = true := by simp; omega
    rcases k1 with ⟨a1, a2, a3, a4, a5⟩ | ⟨a1, a2, a3⟩
    · have q1 : (((a.size : Nat) : Int) == ((b.size : Nat) : Int)) = true := by simp [a3]
      have q2 : decide (((a.size : Nat) : Int) ≤ 64) = true := by simp; omega
      simp only [d5, d1, d2, d3, d4, q1, q2, z1, a1, a2, a5, f1, hzn, m0, m2, if_true, br_tt, br_ff, grd_tt, Bool.not_true, Bool.not_false, Bool.and_true]
    · by_cases q : ((a.size : Nat) : Int) = ((b.size : Nat) : Int)
      · have q1 : (((a.size : Nat) : Int) == ((b.size : Nat) : Int)) = true := beq_iff_eq.2 q
        have q2 : decide (((a.size : Nat) : Int) ≤ 64) = false := decide_eq_false (by omega)
        simp only [d5, d1, d2, d3, d4, q1, q2, z1, a1, a3, f1, hzn, m0, m2, if_true, br_tt, br_ff, grd_tt, Bool.not_true, Bool.not_false, Bool.and_true]
      · have q1 : (((a.size : Nat) : Int) == ((b.size : Nat) : Int)) = false := beq_eq_false_iff_ne.2 q
        simp only [d5, d1, d2, d3, d4, q1, z1, a1, a3, f1, hzn, m0, m2, if_true, br_tt, br_ff, grd_tt, Bool.not_true, Bool.not_false, Bool.and_true]
  · have hn : decide (n ≥ 0) = true ∧ decide (n ≤ 64) = false ∨ decide (n ≥ 0) = false := by
      by_cases h : n ≥ 0
      · exact .inl ⟨decide_eq_true h, decide_eq_false fun g => z2 ⟨h, g⟩⟩
      · exact .inr (decide_eq_false h)
    rcases hn with ⟨d1, d2⟩ | d1 <;> rcases k1 with ⟨a1, a2, a3, a4, a5⟩ | ⟨a1, a2, a3⟩
    · have q1 : (((a.size : Nat) : Int) == ((b.size : Nat) : Int)) = true := by simp [a3]
      have q2 : decide (((a.size : Nat) : Int) ≤ 64) = true := by simp; omega
      simp only [d5, d1, d2, q1, q2, z1, z3, a1, a2, a5, f1, m0, m2, ft, if_false, br_tt, br_ff, grd_tt, Bool.not_true, Bool.not_false, Bool.and_true]
    · by_cases q : ((a.size : Nat) : Int) = ((b.size : Nat) : Int)
      · have q1 : (((a.size : Nat) : Int) == ((b.size : Nat) : Int)) = true := beq_iff_eq.2 q
        have q2 : decide (((a.size : Nat) : Int) ≤ 64) = false := decide_eq_false (by omega)
        simp only [d5, d1, d2, q1, q2, z1, z3, a1, a3, f1, m0, m2, ft, if_false, br_tt, br_ff, grd_tt, Bool.not_true, Bool.not_false, Bool.and_true]
      · have q1 : (((a.size : Nat) : Int) == ((b.size : Nat) : Int)) = false := beq_eq_false_iff_ne.2 q
        simp only [d5, d1, d2, q1, z1, z3, a1, a3, f1, m0, m2, ft, if_false, br_tt, br_ff, grd_tt, Bool.not_true, Bool.not_false, Bool.and_true]
    · have q1 : (((a.size : Nat) : Int) == ((b.size : Nat) : Int)) = true := by simp [a3]
      have q2 : decide (((a.size : Nat) : Int) ≤ 64) = true := by simp; omega
      simp only [d5, d1, q1, q2, z1, z3, a1, a2, a5, f1, m0, m2, ft, if_false, br_tt, br_ff, grd_tt, Bool.not_true, Bool.not_false, Bool.and_true]
    · by_cases q : ((a.size : Nat) : Int) = ((b.size : Nat) : Int)
      · have q1 : (((a.size : Nat) : Int) == ((b.size : Nat) : Int)) = true := beq_iff_eq.2 q
        have q2 : decide (((a.size : Nat) : Int) ≤ 64) = false := decide_eq_false (by omega)
        simp only [d5, d1, q1, q2, z1, z3, a1, a3, f1, m0, m2, ft, if_false, br_tt, br_ff, grd_tt, Bool.not_true, Bool.not_false, Bool.and_true]
      · have q1 : (((a.size : Nat) : Int) == ((b.size : Nat) : Int)) = false := beq_eq_false_iff_ne.2 q
        simp only [d5, d1, q1, z1, z3, a1, a3, f1, m0, m2, ft, if_false, br_tt, br_ff, grd_tt, Bool.not_true, Bool.not_false, Bool.and_true]
noncomputable def lawSums_ent : List V → List Blk → Option (Bool × Out)
  | [.s (.int .i64 n), .s (.string a), .s (.string b), w0], [] => (asSl .str w0).bind fun l => some (true, (.s (.bool true), []))
  | _, _ => none
theorem lawSums_ok : ∀ args bs out, lawSums_ent args bs = some (true, out) → Fact Tryd.prog noG 12 args bs out := by
  intro args bs out h
  unfold lawSums_ent at h
  split at h
  · rename_i n a b w0
    obtain ⟨l, h_l, h⟩ := Option.bind_eq_some_iff.1 h
    simp only [Option.some.injEq, Prod.mk.injEq] at h
    obtain ⟨_, rfl⟩ := h
    exact (lawSums_fact n a b l).args (fun _ _ _ => fun _ h => RVs_two (fun _ h => h) (fun _ h => RVs_two (fun _ h => h) (fun _ h => RVs_two (fun _ h => h) (fun _ h => RVs_two (fun _ h => RV_ls h_l h) (fun _ h => h) h) h) h) h)
  · cases h
noncomputable def T_lawSums : Tbl := Tbl.cons 12 lawSums_ent T_lalive
theorem T_lawSums_ok : CallOk Tryd.prog noG T_lawSums := cons_ok T_lalive_ok lawSums_ok
/-! downpour/downpourlaw02.BlockZero -/
noncomputable def lawZeroF_s1 {R : Type} (s : ByteArray) (c0 : Bool → Option R) : Option R :=
  br (((if sz64 (((cutS s).size : Nat) : Int) = true then 0 else 2) : Int) != 0)
    (c0 (decide (((((cutS s).size : Nat) : Int) : Int) > 64)))
    (br (((errB (((cutS s).size : Nat) : Int) [(cutS s), (zeroT (((cutS s).size : Nat) : Int))]) : Int) == 0)
      (br (((errB (((cutS s).size : Nat) : Int) [(cutS s), (cutS s)]) : Int) == 0)
        (br (((errB (((cutS s).size : Nat) : Int) ([(cutS s)])) : Int) == 0)
          (br (((errB (((cutS s).size : Nat) : Int) ([])) : Int) == 0)
            (br (eqS (xorT (cutS s) (zeroT (((cutS s).size : Nat) : Int))) (cutS s))
              (br (eqS (xorT (cutS s) (cutS s)) (zeroT (((cutS s).size : Nat) : Int)))
                (br (eqS (sumT (((cutS s).size : Nat) : Int) ([(cutS s)])) (cutS s))
                  (br (eqS (sumT (((cutS s).size : Nat) : Int) ([])) (zeroT (((cutS s).size : Nat) : Int)))
                    (grd (decide ((zeroT (((cutS s).size : Nat) : Int)).size ≤ 1000000000000)) <|
                    br (nought (zeroT (((cutS s).size : Nat) : Int)))
                      (grd (decide ((cutS s).size ≤ 1000000000000)) <|
                      c0 ((nought (cutS s)) == (eqS (cutS s) (zeroT (((cutS s).size : Nat) : Int)))))
                      (c0 false))
                    (c0 false))
                  (c0 false))
                (c0 false))
              (c0 false))
            (c0 false))
          (c0 false))
        (c0 false))
      (c0 false))
theorem lawZeroF_s1_eq (fuel : Nat)  (s : ByteArray) : callN Tryd.prog mode4 T_lawSums fuel 13 [.s (.string s)] [] = lawZeroF_s1 s (fun (a1 : Bool) => some (.s (.bool a1), [])) := by kernel_rfl
noncomputable def lawZeroF {R : Type} (fuel : Nat) (s : ByteArray) (r0 : Bool → Option R) : Option R :=
  (lawZeroF_s1 s (fun (a1 : Bool) => r0 a1))
theorem lawZeroF_eq (fuel : Nat) (s : ByteArray) : callN Tryd.prog mode4 T_lawSums fuel 13 [.s (.string s)] [] = lawZeroF fuel s (fun (z0 : Bool) => some (.s (.bool z0), [])) := by
  unfold lawZeroF
  exact (lawZeroF_s1_eq fuel  s)
theorem lawZero_fact (s : ByteArray) : Fact Tryd.prog noG 13 [.s (.string s)] [] (.s (.bool true), []) := by
  refine callN_fact hN hM T_lawSums_ok (n := 0) (mode := mode4) ?_
  rw [lawZeroF_eq]
  unfold lawZeroF lawZeroF_s1
  have hc := cut_size s
  generalize cutS s = s at *
  rw [br_if]
  by_cases h : sz64 ((s.size : Nat) : Int) = true
  · have hz := zero_size h
    obtain ⟨h0, h1⟩ := sz64_iff.1 h
    have hzb := zero_bytes h
    rw [Int.toNat_natCast] at hzb
    have b1 : bok ((s.size : Nat) : Int) [s, zeroT ((s.size : Nat) : Int)] = true := bok_iff.2 ⟨⟨h0, h1⟩, by simp, fun t ht => by
      simp only [List.mem_cons, List.not_mem_nil, or_false] at ht
      rcases ht with rfl | rfl
      · rfl
      · exact hz⟩
    have b2 : bok ((s.size : Nat) : Int) [s, s] = true := bok_iff.2 ⟨⟨h0, h1⟩, by simp, fun t ht => by
      simp only [List.mem_cons, List.not_mem_nil, or_false] at ht
      rcases ht with rfl | rfl <;> rfl⟩
    have b3 : bok ((s.size : Nat) : Int) [s] = true := bok_iff.2 ⟨⟨h0, h1⟩, by simp, fun t ht => by
      simp only [List.mem_cons, List.not_mem_nil, or_false] at ht
      rw [ht]⟩
    have b4 : bok ((s.size : Nat) : Int) [] = true := bok_iff.2 ⟨⟨h0, h1⟩, by simp, fun t ht => by simp at ht⟩
    have x1 : xorT s (zeroT ((s.size : Nat) : Int)) = s := by
      rw [xorT_eq]; unfold xorTI
      rw [if_pos b1, hzb, ← bytes_len, xb_zero (bytes_ok s), txt_bytes]
    have x2 : xorT s s = zeroT ((s.size : Nat) : Int) := by
      refine bytes_inj ?_
      rw [xorT_eq]; unfold xorTI
      rw [if_pos b2, xb_self (bytes_ok s), bytes_txt (zb_ok _), hzb, bytes_len]
    have x3 : sumT ((s.size : Nat) : Int) [s] = s := by
      rw [sumT_ok b3, sumS_eq]; unfold sumI sumL
      rw [List.foldl_cons, List.foldl_nil, Int.toNat_natCast, ← bytes_len, zero_xb (bytes_ok s), txt_bytes]
    have x4 : sumT ((s.size : Nat) : Int) [] = zeroT ((s.size : Nat) : Int) := by
      rw [sumT_ok b4, sumS_eq, zeroT_eq]; unfold sumI sumL zeroTI
      rw [List.foldl_nil, if_pos h]
    have x5 : (nought s == eqS s (zeroT ((s.size : Nat) : Int))) = true := by
      rw [beq_iff_eq, Bool.eq_iff_iff, nought_iff, eqS_iff]
      constructor
      · intro e; exact bytes_inj (e.trans hzb.symm)
      · intro e; rw [← hzb, ← e]
    rw [if_pos h, if_neg (by decide), errB_ok b1, errB_ok b2, errB_ok b3, errB_ok b4, x1, x2, x3, x4, eqS_iff.2 rfl, eqS_iff.2 rfl, zero_nought, x5]
    simp only [br_if, beq_self_eq_true, if_true]
    rw [grd_of (by simp; omega), grd_of (by simp; omega)]
  · rw [if_neg h, if_pos (by decide)]
    have : ¬ (0 ≤ ((s.size : Nat) : Int) ∧ ((s.size : Nat) : Int) ≤ 64) := fun g => h (sz64_iff.2 g)
    rw [decide_eq_true (by omega)]
noncomputable def lawZero_ent : List V → List Blk → Option (Bool × Out)
  | [.s (.string s)], [] => some (true, (.s (.bool true), []))
  | _, _ => none
theorem lawZero_ok : ∀ args bs out, lawZero_ent args bs = some (true, out) → Fact Tryd.prog noG 13 args bs out := by
  intro args bs out h
  unfold lawZero_ent at h
  split at h
  · rename_i s
    simp only [Option.some.injEq, Prod.mk.injEq] at h
    obtain ⟨_, rfl⟩ := h
    exact lawZero_fact s
  · cases h
noncomputable def T_lawZero : Tbl := Tbl.cons 13 lawZero_ent T_lawSums
theorem T_lawZero_ok : CallOk Tryd.prog noG T_lawZero := cons_ok T_lawSums_ok lawZero_ok
end Go.Proofs.YtleagoeimkcekaaDoor
