/- Blocks, counts, blocks that a row names, matrices that may be: what each function tells. -/
import Derived.Test.YtfpdcfgjhkiklaaDoorPmTab
import Derived.KernelRfl
import Derived.Test.YtfpdcfgjhkiklaaDoorProg
import Derived.Test.YtfpdcfgjhkiklaaDoorCore
set_option autoImplicit false
set_option maxRecDepth 100000
set_option maxHeartbeats 4000000
set_option linter.unusedVariables false
set_option linter.unusedSimpArgs false
namespace Go.Proofs.YtfpdcfgjhkiklaaDoor
open Go Go.PM Go.Proofs Go.Shelf Go.PM.Row Go.PM.Bits Go.PM.Bit Go.PM.Blk Go.PM.Lin
/-! Blocks: what the functions tell. -/
theorem ba_eq {a : ByteArray} {l : List UInt8} (h : a.data.toList = l) : a = ⟨⟨l⟩⟩ := by
  obtain ⟨⟨d⟩⟩ := a
  subst h; rfl
def sz64 (n : Int) : Bool := decide (0 ≤ n) && decide (n ≤ 64)
theorem sz64_iff {n : Int} : sz64 n = true ↔ 0 ≤ n ∧ n ≤ 64 := by unfold sz64; simp
noncomputable def xorTI (a b : ByteArray) : ByteArray := if bok a.size [a, b] = true then txt (xb (bytesL a) (bytesL b)) else ByteArray.empty
noncomputable def xorT : ByteArray → ByteArray → ByteArray := Classical.choose (⟨xorTI, rfl⟩ : ∃ f, f = xorTI)
theorem xorT_eq : xorT = xorTI := Classical.choose_spec (⟨xorTI, rfl⟩ : ∃ f, f = xorTI)
noncomputable def sumTI (n : Int) (l : List ByteArray) : ByteArray := if bok n l = true then txt (sumS n l) else ByteArray.empty
noncomputable def sumT : Int → List ByteArray → ByteArray := Classical.choose (⟨sumTI, rfl⟩ : ∃ f, f = sumTI)
theorem sumT_eq : sumT = sumTI := Classical.choose_spec (⟨sumTI, rfl⟩ : ∃ f, f = sumTI)
noncomputable def zeroTI (n : Int) : ByteArray := if sz64 n = true then txt (zb n.toNat) else ByteArray.empty
noncomputable def zeroT : Int → ByteArray := Classical.choose (⟨zeroTI, rfl⟩ : ∃ f, f = zeroTI)
theorem zeroT_eq : zeroT = zeroTI := Classical.choose_spec (⟨zeroTI, rfl⟩ : ∃ f, f = zeroTI)
noncomputable def trimLI (s : ByteArray) : ByteArray := txt ((bytesL s).dropWhile fun x => decide (x = 0))
noncomputable def trimLS : ByteArray → ByteArray := Classical.choose (⟨trimLI, rfl⟩ : ∃ f, f = trimLI)
theorem trimLS_eq : trimLS = trimLI := Classical.choose_spec (⟨trimLI, rfl⟩ : ∃ f, f = trimLI)
noncomputable def trimRI (s : ByteArray) : ByteArray := txt (((bytesL s).reverse.dropWhile fun x => decide (x = 0)).reverse)
noncomputable def trimRS : ByteArray → ByteArray := Classical.choose (⟨trimRI, rfl⟩ : ∃ f, f = trimRI)
theorem trimRS_eq : trimRS = trimRI := Classical.choose_spec (⟨trimRI, rfl⟩ : ∃ f, f = trimRI)
noncomputable def sumBI (n : Int) (l : List ByteArray) (b : List Int) : List Int := (l.zip b).foldl (fun a p => if p.2 = 1 then xb a (bytesL p.1) else a) (zb n.toNat)
noncomputable def sumBS : Int → List ByteArray → List Int → List Int := Classical.choose (⟨sumBI, rfl⟩ : ∃ f, f = sumBI)
theorem sumBS_eq : sumBS = sumBI := Classical.choose_spec (⟨sumBI, rfl⟩ : ∃ f, f = sumBI)
def ones (k : Nat) : List Int := List.replicate k 1
theorem ones_len (k : Nat) : (ones k).length = k := by unfold ones; simp
def eqTI (a b : List ByteArray) : Bool := decide (a = b)
noncomputable def eqTS : List ByteArray → List ByteArray → Bool := Classical.choose (⟨eqTI, rfl⟩ : ∃ f, f = eqTI)
theorem eqTS_eq : eqTS = eqTI := Classical.choose_spec (⟨eqTI, rfl⟩ : ∃ f, f = eqTI)
theorem empty_bytes : bytesL ByteArray.empty = [] := rfl
theorem eq_empty {s : ByteArray} : s = ByteArray.empty ↔ bytesL s = [] := ⟨fun h => by rw [h]; rfl, fun h => bytes_inj (h.trans empty_bytes.symm)⟩
theorem set_step {a t : List Int} {j : Nat} (hl : t.length = a.length) (hj : j < a.length) : (t.take j ++ a.drop j).set j (t[j]'(by omega)) = t.take (j + 1) ++ a.drop (j + 1) := by
  have h1 : (t.take j).length = j := by rw [List.length_take]; omega
  rw [List.drop_eq_getElem_cons hj, List.set_append_right _ _ (by omega), h1, Nat.sub_self, List.set_cons_zero, List.take_succ_eq_append_getElem (by omega), List.append_assoc]
  rfl
theorem get_step {a t : List Int} {j : Nat} (hl : t.length = a.length) (hj : j < a.length) : (t.take j ++ a.drop j)[0 + j]? = some a[j] := by
  have h1 : (t.take j).length = j := by rw [List.length_take]; omega
  rw [Nat.zero_add, List.getElem?_append_right (by omega), h1, Nat.sub_self, List.drop_eq_getElem_cons hj]
  rfl
theorem getD_get {a : List Int} {j : Nat} (hj : j < a.length) : a.getD j 0 = a[j] := by rw [List.getD_eq_getElem?_getD, List.getElem?_eq_getElem hj]; rfl
theorem fill_eq (a : List Int) (n : Nat) (h : a.length = n) : (List.replicate n (0 : Int)).take 0 ++ (a.take n) ++ (List.replicate n (0 : Int)).drop (0 + (a.take n).length) = a := by
  subst h
  rw [List.take_length, List.take_zero, List.nil_append, List.drop_eq_nil_of_le (by simp), List.append_nil]
def mode6 : FuncId → Nat := fun f => bif Nat.beq f 93 then 2 else 0
/-! downpour/block.sized -/
noncomputable def bsizedF_s1 {R : Type} (n : Int) (c0 : Bool → Option R) : Option R :=
  br (decide (n ≥ 0))
    (c0 (decide (n ≤ 64)))
    (c0 false)
theorem bsizedF_s1_eq (fuel : Nat)  (n : Int) : callN Tryd.prog mode6 T_refRight fuel 138 [vI n] [] = bsizedF_s1 n (fun a1 => some (vB a1, [])) := by kernel_rfl
noncomputable def bsizedF {R : Type} (fuel : Nat) (n : Int) (r0 : Bool → Option R) : Option R :=
  (bsizedF_s1 n (fun a1 => r0 a1))
theorem bsizedF_eq (fuel : Nat) (n : Int) : callN Tryd.prog mode6 T_refRight fuel 138 [.s (.int .i64 n)] [] = bsizedF fuel n (fun z0 => some (.s (.bool z0), [])) := by
  unfold bsizedF
  exact (bsizedF_s1_eq fuel  n)
theorem bsized_fact (n : Int) : Fact Tryd.prog noG 138 [.s (.int .i64 n)] [] (.s (.bool (sz64 n)), []) := by
  refine callN_fact hN hM T_refRight_ok (n := 0) (mode := mode6) ?_
  rw [bsizedF_eq]
  unfold bsizedF bsizedF_s1 sz64
  rw [br_if]
  by_cases h : n ≥ 0
  · rw [if_pos (by simpa using h), decide_eq_true h, Bool.true_and]
  · rw [if_neg (by simpa using h), decide_eq_false h, Bool.false_and]
noncomputable def bsized_ent : List V → List Blk → Option (Bool × Out)
  | [.s (.int .i64 n)], [] => some (true, (.s (.bool (sz64 n)), []))
  | _, _ => none
theorem bsized_ok : ∀ args bs out, bsized_ent args bs = some (true, out) → Fact Tryd.prog noG 138 args bs out := by
  intro args bs out h
  unfold bsized_ent at h
  split at h
  · rename_i n
    simp only [Option.some.injEq, Prod.mk.injEq] at h
    obtain ⟨_, rfl⟩ := h
    exact bsized_fact n
  · cases h
noncomputable def T_bsized : Tbl := Tbl.cons 138 bsized_ent T_refRight
theorem T_bsized_ok : CallOk Tryd.prog noG T_bsized := cons_ok T_refRight_ok bsized_ok
/-! downpour/block.into -/
noncomputable def intoF_s2 {R : Type} (w8 w7 : Int) (m : Nat) (w9 : List Int) (s : ByteArray) (c0 : Int → Int → List Int → Option R) (c1 : List Int → Option R) : Option R :=
  br (decide (w8 < w7))
    (bnd (below w8 m) fun j0 =>
    bnd (w9[(0 + j0)]?) fun e0 =>
    bnd (ix s.data.toList w8) fun ub18 =>
    bnd (below w8 m) fun j1 =>
    bnd (w9[(0 + j1)]?) fun e1 =>
    c0 w7 (IntKind.i64.wrap (w8 + 1)) (w9.set (0 + j1) (xorI .u8 e0 ((ub18.toNat : Nat) : Int))))
    (c1 w9)
theorem intoF_s2_eq (fuel k : Nat) (K : Ex → St → Option Out) (w8 w7 : Int) (m : Nat) (w9 : List Int) (s : ByteArray) : lpN (sub (bodyOf Tryd.prog 93) [1, 0, 0]) (fnX Tryd.prog mode6 T_bsized fuel 20 1) 0 [0, 1, 6, 7] (k + 1) ⟨[(0, .sl 0 1 0 m), (1, vS s), (6, vI w7), (7, vI w8)], [(0, some ⟨5, .li .u8 w9, true⟩)], 1, none⟩ K = intoF_s2 w8 w7 m w9 s (fun a0 a1 a2 => lpN (sub (bodyOf Tryd.prog 93) [1, 0, 0]) (fnX Tryd.prog mode6 T_bsized fuel 20 1) 0 [0, 1, 6, 7] k ⟨[(0, .sl 0 1 0 m), (1, vS s), (6, vI a0), (7, vI a1)], [(0, some ⟨5, .li .u8 a2, true⟩)], 1, none⟩ K) (fun a3 => K (.exit 0) ⟨[], [(0, some ⟨5, .li .u8 a3, true⟩)], 1, none⟩) := by kernel_rfl
noncomputable def intoF_l1 {R : Type} (fuel m : Nat) (s : ByteArray) (k0 : List Int → Option R) : Nat → Int → Int → List Int → Option R
  | 0, _, _, _ => none
  | k + 1, w7, w8, w9 =>
    (intoF_s2 w8 w7 m w9 s (fun a0 a1 a2 => ( intoF_l1 fuel m s k0 k a0 a1 a2 )) (fun a3 => k0 a3))
theorem intoF_l1_eq (fuel m : Nat) (s : ByteArray) (K : Ex → St → Option Out) : ∀ (k : Nat) (w7 w8 : Int) (w9 : List Int), lpN (sub (bodyOf Tryd.prog 93) [1, 0, 0]) (fnX Tryd.prog mode6 T_bsized fuel 20 1) 0 [0, 1, 6, 7] k ⟨[(0, .sl 0 1 0 m), (1, vS s), (6, vI w7), (7, vI w8)], [(0, some ⟨5, .li .u8 w9, true⟩)], 1, none⟩ K = intoF_l1 fuel m s (fun y0 => K (.exit 0) ⟨[], [(0, some ⟨5, .li .u8 y0, true⟩)], 1, none⟩) k w7 w8 w9
  | 0, _, _, _ => rfl
  | k + 1, w7, w8, w9 => by
    unfold intoF_l1
    exact (intoF_s2_eq fuel k K w8 w7 m w9 s).trans (congr (congr (Eq.refl (intoF_s2 (R := Out) w8 w7 m w9 s)) (funext fun a0 => funext fun a1 => funext fun a2 => intoF_l1_eq fuel m s K k a0 a1 a2)) (rfl))
noncomputable def intoF_s3 {R : Type} (x0 : List Int) (c0 : List Int → Option R) : Option R :=
  c0 x0
theorem intoF_s3_eq (fuel : Nat)  (x0 : List Int) : (kont (fnX Tryd.prog mode6 T_bsized fuel 20 1) (bodyOf Tryd.prog 93) [1, 0] 0 (endK Tryd.prog 2 1 93)) (.exit 0) ⟨[], [(0, some ⟨5, .li .u8 x0, true⟩)], 1, none⟩ = intoF_s3 x0 (fun a0 => some (.tup [], [some ⟨5, .li .u8 a0, true⟩])) := by kernel_rfl
noncomputable def intoF_s1 {R : Type} (m : Nat) (a : List Int) (s : ByteArray) (c0 : Int → Int → List Int → Option R) : Option R :=
  c0 ((m : Nat) : Int) 0 a
theorem intoF_s1_eq (fuel : Nat)  (m : Nat) (a : List Int) (s : ByteArray) : callN Tryd.prog mode6 T_bsized fuel 93 [.sl 0 1 0 m, vS s] [⟨5, .li .u8 a, true⟩] = intoF_s1 m a s (fun a0 a1 a2 => lpN (sub (bodyOf Tryd.prog 93) [1, 0, 0]) (fnX Tryd.prog mode6 T_bsized fuel 20 1) 0 [0, 1, 6, 7] fuel ⟨[(0, .sl 0 1 0 m), (1, vS s), (6, vI a0), (7, vI a1)], [(0, some ⟨5, .li .u8 a2, true⟩)], 1, none⟩ (kont (fnX Tryd.prog mode6 T_bsized fuel 20 1) (bodyOf Tryd.prog 93) [1, 0] 0 (endK Tryd.prog 2 1 93))) := by kernel_rfl
noncomputable def intoF {R : Type} (fuel m : Nat) (s : ByteArray) (a : List Int) (r0 : List Int → Option R) : Option R :=
  (intoF_s1 m a s (fun a0 a1 a2 => (intoF_l1 fuel m s (fun x0 => (intoF_s3 x0 (fun a3 => r0 a3))) fuel a0 a1 a2)))
theorem intoF_eq (fuel m : Nat) (s : ByteArray) (a : List Int) : callN Tryd.prog mode6 T_bsized fuel 93 [.sl 0 1 0 m, .s (.string s)] [⟨5, .li .u8 a, true⟩] = intoF fuel m s a (fun z0 => some (.tup [], [some ⟨5, .li .u8 z0, true⟩])) := by
  unfold intoF
  exact (intoF_s1_eq fuel  m a s).trans (congr (Eq.refl (intoF_s1 (R := Out) m a s)) (funext fun a0 => funext fun a1 => funext fun a2 => (intoF_l1_eq fuel m s (kont (fnX Tryd.prog mode6 T_bsized fuel 20 1) (bodyOf Tryd.prog 93) [1, 0] 0 (endK Tryd.prog 2 1 93)) fuel a0 a1 a2).trans (congrFun (congrFun (congrFun (congrFun (congr (Eq.refl (intoF_l1 (R := Out) fuel m s)) (funext fun x0 => (intoF_s3_eq fuel  x0))) fuel) a0) a1) a2)))
theorem into_loop {R : Type} (fuel : Nat) (s : ByteArray) (a : List Int) (hs : a.length ≤ s.size) (hx : a.length ≤ 1000000) (k0 : List Int → Option R) : ∀ (k j : Nat), j ≤ a.length → a.length < j + k → intoF_l1 fuel a.length s k0 k (a.length : Int) (j : Int) ((xb a (bytesL s)).take j ++ a.drop j) = k0 (xb a (bytesL s))
  | 0, j, h1, h2 => by omega
  | k + 1, j, h1, h2 => by
    have hl : (xb a (bytesL s)).length = a.length := by rw [xb_len, bytes_len]; omega
    unfold intoF_l1 intoF_s2
    rw [br_if]
    by_cases hc : j < a.length
    · obtain ⟨c, e1, e2⟩ := ix_byte s j (by omega)
      have hx8 : xorI .u8 a[j] ((c.toNat : Nat) : Int) = (xb a (bytesL s))[j]'(by omega) := by
        rw [← getD_get (a := xb a (bytesL s)) (by omega), xb_getD hc (by rw [bytes_len]; omega), e2, getD_get hc]
      have eb : below (j : Int) a.length = some j := by rw [below_of (by omega) (by omega)]; rfl
      rw [if_pos (by simpa using hc), bnd_of eb, bnd_of (get_step hl hc), bnd_of e1, bnd_of eb, bnd_of (get_step hl hc), hx8, Nat.zero_add, set_step hl hc, wrap_i64 (by omega) (by omega), show (j : Int) + 1 = ((j + 1 : Nat) : Int) by omega]
      exact into_loop fuel s a hs hx k0 k (j + 1) (by omega) (by omega)
    · have e : j = a.length := by omega
      subst e
      rw [if_neg (by simp), List.drop_length, List.append_nil, List.take_of_length_le (by omega)]
theorem into_fact (m : Nat) (s : ByteArray) (a : List Int) (hg : (decide (m = a.length) && decide (a.length ≤ s.size) && decide (a.length ≤ 1000000)) = true) : Fact Tryd.prog noG 93 [.sl 0 1 0 m, .s (.string s)] [⟨5, .li .u8 a, true⟩] (.tup [], [some ⟨5, .li .u8 (xb a (bytesL s)), true⟩]) := by
  simp only [Bool.and_eq_true, decide_eq_true_eq] at hg
  obtain ⟨⟨rfl, hs⟩, hx⟩ := hg
  refine callN_fact hN hM T_bsized_ok (n := a.length + 1) (mode := mode6) ?_
  rw [intoF_eq]
  unfold intoF intoF_s1
  exact into_loop (a.length + 1) s a hs hx _ (a.length + 1) 0 (by omega) (by omega)
noncomputable def into_ent : List V → List Blk → Option (Bool × Out)
  | [.sl 0 1 0 m, .s (.string s)], [⟨5, .li .u8 a, true⟩] => some ((decide (m = a.length) && decide (a.length ≤ s.size) && decide (a.length ≤ 1000000)), (.tup [], [some ⟨5, .li .u8 (xb a (bytesL s)), true⟩]))
  | _, _ => none
theorem into_ok : ∀ args bs out, into_ent args bs = some (true, out) → Fact Tryd.prog noG 93 args bs out := by
  intro args bs out h
  unfold into_ent at h
  split at h
  · rename_i m s a
    simp only [Option.some.injEq, Prod.mk.injEq] at h
    obtain ⟨hg, rfl⟩ := h
    exact into_fact m s a hg
  · cases h
noncomputable def T_into : Tbl := Tbl.cons 93 into_ent T_bsized
theorem T_into_ok : CallOk Tryd.prog noG T_into := cons_ok T_bsized_ok into_ok
/-! downpour/block.may -/
noncomputable def bmayF_s2 {R : Type} (w5 w6 : Int) (l : List ByteArray) (n : Int) (c0 : Option R) (c1 : Int → Int → Option R) (c2 : Option R) : Option R :=
  br (decide (w5 < w6))
    (bnd (ix l w5) fun e8 =>
    br (((e8.size : Nat) : Int) != n)
      (c0)
      (c1 w6 (IntKind.i64.wrap (w5 + 1))))
    (c2)
theorem bmayF_s2_eq (fuel k : Nat) (K : Ex → St → Option Out) (w5 w6 : Int) (l : List ByteArray) (n : Int) : lpN (sub (bodyOf Tryd.prog 92) [1, 1, 0, 1, 0, 0]) (fnX Tryd.prog mode6 T_into fuel 26 0) 16 [0, 4, 15, 16, 17] (k + 1) ⟨[(0, vI n), (4, vI 0), (15, .ls l), (16, vI w6), (17, vI w5)], [], 0, none⟩ K = bmayF_s2 w5 w6 l n (K .ret ⟨[(4, vI 2)], [], 0, none⟩) (fun a9 a0 => lpN (sub (bodyOf Tryd.prog 92) [1, 1, 0, 1, 0, 0]) (fnX Tryd.prog mode6 T_into fuel 26 0) 16 [0, 4, 15, 16, 17] k ⟨[(0, vI n), (4, vI 0), (15, .ls l), (16, vI a9), (17, vI a0)], [], 0, none⟩ K) (K (.exit 0) ⟨[(4, vI 0)], [], 0, none⟩) := by kernel_rfl
noncomputable def bmayF_l1 {R : Type} (fuel : Nat) (n : Int) (l : List ByteArray) (k0 k1 : Option R) : Nat → Int → Int → Option R
  | 0, _, _ => none
  | k + 1, w6, w5 =>
    (bmayF_s2 w5 w6 l n (k0) (fun a9 a0 => ( bmayF_l1 fuel n l k0 k1 k a9 a0 )) (k1))
theorem bmayF_l1_eq (fuel : Nat) (n : Int) (l : List ByteArray) (K : Ex → St → Option Out) : ∀ (k : Nat) (w6 w5 : Int), lpN (sub (bodyOf Tryd.prog 92) [1, 1, 0, 1, 0, 0]) (fnX Tryd.prog mode6 T_into fuel 26 0) 16 [0, 4, 15, 16, 17] k ⟨[(0, vI n), (4, vI 0), (15, .ls l), (16, vI w6), (17, vI w5)], [], 0, none⟩ K = bmayF_l1 fuel n l (K .ret ⟨[(4, vI 2)], [], 0, none⟩) (K (.exit 0) ⟨[(4, vI 0)], [], 0, none⟩) k w6 w5
  | 0, _, _ => rfl
  | k + 1, w6, w5 => by
    unfold bmayF_l1
    exact (bmayF_s2_eq fuel k K w5 w6 l n).trans (congr (congr (congr (Eq.refl (bmayF_s2 (R := Out) w5 w6 l n)) (rfl)) (funext fun a9 => funext fun a0 => bmayF_l1_eq fuel n l K k a9 a0)) (rfl))
noncomputable def bmayF_s3 {R : Type}  (c0 : Int → Option R) : Option R :=
  c0 2
theorem bmayF_s3_eq (fuel : Nat)   : (kont (fnX Tryd.prog mode6 T_into fuel 26 0) (bodyOf Tryd.prog 92) [1, 1, 0, 1, 0] 16 (endK Tryd.prog 0 0 92)) .ret ⟨[(4, vI 2)], [], 0, none⟩ = bmayF_s3  (fun a0 => some (vI a0, [])) := by kernel_rfl
noncomputable def bmayF_s4 {R : Type}  (c0 : Int → Option R) : Option R :=
  c0 0
theorem bmayF_s4_eq (fuel : Nat)   : (kont (fnX Tryd.prog mode6 T_into fuel 26 0) (bodyOf Tryd.prog 92) [1, 1, 0, 1, 0] 16 (endK Tryd.prog 0 0 92)) (.exit 0) ⟨[(4, vI 0)], [], 0, none⟩ = bmayF_s4  (fun a0 => some (vI a0, [])) := by kernel_rfl
noncomputable def bmayF_s1 {R : Type} (n : Int) (l : List ByteArray) (c0 : Int → Option R) (c1 : Int → Int → Option R) : Option R :=
  br (!(sz64 n))
    (c0 2)
    (br (decide ((((l.length : Nat) : Int) : Int) > 64))
      (c0 2)
      (c1 ((l.length : Nat) : Int) 0))
theorem bmayF_s1_eq (fuel : Nat)  (n : Int) (l : List ByteArray) : callN Tryd.prog mode6 T_into fuel 92 [vI n, .ls l] [] = bmayF_s1 n l (fun a1 => some (vI a1, [])) (fun a0 a2 => lpN (sub (bodyOf Tryd.prog 92) [1, 1, 0, 1, 0, 0]) (fnX Tryd.prog mode6 T_into fuel 26 0) 16 [0, 4, 15, 16, 17] fuel ⟨[(0, vI n), (4, vI 0), (15, .ls l), (16, vI a0), (17, vI a2)], [], 0, none⟩ (kont (fnX Tryd.prog mode6 T_into fuel 26 0) (bodyOf Tryd.prog 92) [1, 1, 0, 1, 0] 16 (endK Tryd.prog 0 0 92))) := by kernel_rfl
noncomputable def bmayF {R : Type} (fuel : Nat) (n : Int) (l : List ByteArray) (r0 : Int → Option R) : Option R :=
  (bmayF_s1 n l (fun a1 => r0 a1) (fun a0 a2 => (bmayF_l1 fuel n l ((bmayF_s3 (fun a3 => r0 a3))) ((bmayF_s4 (fun a4 => r0 a4))) fuel a0 a2)))
theorem bmayF_eq (fuel : Nat) (n : Int) (l : List ByteArray) : callN Tryd.prog mode6 T_into fuel 92 [.s (.int .i64 n), .ls l] [] = bmayF fuel n l (fun z0 => some (.s (.int .i64 z0), [])) := by
  unfold bmayF
  exact (bmayF_s1_eq fuel  n l).trans (congr (congr (Eq.refl (bmayF_s1 (R := Out) n l)) (rfl)) (funext fun a0 => funext fun a1 => (bmayF_l1_eq fuel n l (kont (fnX Tryd.prog mode6 T_into fuel 26 0) (bodyOf Tryd.prog 92) [1, 1, 0, 1, 0] 16 (endK Tryd.prog 0 0 92)) fuel a0 a1).trans (congrFun (congrFun (congrFun (congr (congr (Eq.refl (bmayF_l1 (R := Out) fuel n l)) ((bmayF_s3_eq fuel  ))) ((bmayF_s4_eq fuel  ))) fuel) a0) a1)))
theorem bmay_loop {R : Type} (fuel : Nat) (n : Int) (l : List ByteArray) (hx : l.length ≤ 1000000) (k0 k1 : Option R) : ∀ (k j : Nat), j ≤ l.length → l.length < j + k → bmayF_l1 fuel n l k0 k1 k (l.length : Int) (j : Int) = if (∀ s ∈ l.drop j, (s.size : Int) = n) then k1 else k0
  | 0, j, h1, h2 => by omega
  | k + 1, j, h1, h2 => by
    unfold bmayF_l1 bmayF_s2
    rw [br_if]
    by_cases hc : j < l.length
    · rw [if_pos (by simpa using hc), bnd_of ((ix_nat l j).trans (List.getElem?_eq_getElem hc)), br_if, List.drop_eq_getElem_cons hc, wrap_i64 (by omega) (by omega), show (j : Int) + 1 = ((j + 1 : Nat) : Int) by omega]
      dsimp only
      rw [bmay_loop fuel n l hx k0 k1 k (j + 1) (by omega) (by omega)]
      generalize l[j] = x
      generalize l.drop (j + 1) = t
      by_cases he : ((x.size : Nat) : Int) = n <;> simp [he]
    · rw [if_neg (by simpa using hc), List.drop_eq_nil_of_le (by omega)]
      simp
theorem bmay_fact (n : Int) (l : List ByteArray) : Fact Tryd.prog noG 92 [.s (.int .i64 n), .ls l] [] (.s (.int .i64 (errB n l)), []) := by
  refine callN_fact hN hM T_into_ok (n := 66) (mode := mode6) ?_
  rw [bmayF_eq]
  unfold bmayF bmayF_s1 errB
  have hno : ∀ h : ¬ bok n l = true, bok n l = false := fun h => by rw [Bool.eq_false_iff]; exact h
  rw [br_if]
  by_cases hs : sz64 n = true
  · obtain ⟨h0, h1⟩ := sz64_iff.1 hs
    rw [if_neg (by simp [hs]), br_if]
    by_cases hx : l.length ≤ 64
    · rw [if_neg (by simp; omega)]
      have := bmay_loop (R := Out) 66 n l (by omega)
      dsimp only
      rw [show (0 : Int) = ((0 : Nat) : Int) from rfl, this _ _ 66 0 (by omega) (by omega), List.drop_zero]
      by_cases ha : ∀ s ∈ l, (s.size : Int) = n
      · rw [if_pos ha, if_pos (bok_iff.2 ⟨⟨h0, h1⟩, hx, ha⟩)]; rfl
      · rw [if_neg ha, hno fun h => ha (bok_iff.1 h).2.2]; rfl
    · rw [if_pos (by simp; omega), hno fun h => hx (bok_iff.1 h).2.1]; rfl
  · rw [if_pos (by simp [hs]), hno fun h => hs (sz64_iff.2 (bok_iff.1 h).1)]; rfl
noncomputable def bmay_ent : List V → List Blk → Option (Bool × Out)
  | [.s (.int .i64 n), w0], [] => (asSl .str w0).bind fun l => some (true, (.s (.int .i64 (errB n l)), []))
  | _, _ => none
theorem bmay_ok : ∀ args bs out, bmay_ent args bs = some (true, out) → Fact Tryd.prog noG 92 args bs out := by
  intro args bs out h
  unfold bmay_ent at h
  split at h
  · rename_i n w0
    obtain ⟨l, h_l, h⟩ := Option.bind_eq_some_iff.1 h
    simp only [Option.some.injEq, Prod.mk.injEq] at h
    obtain ⟨_, rfl⟩ := h
    exact (bmay_fact n l).args (fun _ _ _ => fun _ h => RVs_two (fun _ h => h) (fun _ h => RVs_two (fun _ h => RV_ls h_l h) (fun _ h => h) h) h)
  · cases h
noncomputable def T_bmay : Tbl := Tbl.cons 92 bmay_ent T_into
theorem T_bmay_ok : CallOk Tryd.prog noG T_bmay := cons_ok T_into_ok bmay_ok
/-! downpour/block.Xor -/
noncomputable def BxorF_s1 {R : Type} (a b : ByteArray) (c0 : ByteArray → Int → Option R) : Option R :=
  br (((errB ((a.size : Nat) : Int) ([a, b])) : Int) != 0)
    (c0 ByteArray.empty (errB ((a.size : Nat) : Int) ([a, b])))
    (bnd (mkN ((a.size : Nat) : Int) ((a.size : Nat) : Int) 1) fun n3 =>
    grd (decide (n3 = ((List.replicate n3 (0 : Int)).take 0 ++ ((bytesL a).take n3) ++ (List.replicate n3 (0 : Int)).drop (0 + ((bytesL a).take n3).length)).length) && decide (((List.replicate n3 (0 : Int)).take 0 ++ ((bytesL a).take n3) ++ (List.replicate n3 (0 : Int)).drop (0 + ((bytesL a).take n3).length)).length ≤ b.size) && decide (((List.replicate n3 (0 : Int)).take 0 ++ ((bytesL a).take n3) ++ (List.replicate n3 (0 : Int)).drop (0 + ((bytesL a).take n3).length)).length ≤ 1000000)) <|
    grd (Nat.ble (0 + n3) ((xb ((List.replicate n3 (0 : Int)).take 0 ++ ((bytesL a).take n3) ++ (List.replicate n3 (0 : Int)).drop (0 + ((bytesL a).take n3).length)) (bytesL b)).length)) <|
    c0 (txt ((((xb ((List.replicate n3 (0 : Int)).take 0 ++ ((bytesL a).take n3) ++ (List.replicate n3 (0 : Int)).drop (0 + ((bytesL a).take n3).length)) (bytesL b))).drop 0).take n3)) 0)
theorem BxorF_s1_eq (fuel : Nat)  (a b : ByteArray) : callN Tryd.prog mode6 T_bmay fuel 140 [vS a, vS b] [] = BxorF_s1 a b (fun a1 a2 => some (.tup [vS a1, vI a2], [])) := by kernel_rfl
noncomputable def BxorF {R : Type} (fuel : Nat) (a b : ByteArray) (r0 : ByteArray → Int → Option R) : Option R :=
  (BxorF_s1 a b (fun a1 a2 => r0 a1 a2))
theorem BxorF_eq (fuel : Nat) (a b : ByteArray) : callN Tryd.prog mode6 T_bmay fuel 140 [.s (.string a), .s (.string b)] [] = BxorF fuel a b (fun z0 z1 => some (.tup [.s (.string z0), .s (.int .i64 z1)], [])) := by
  unfold BxorF
  exact (BxorF_s1_eq fuel  a b)
theorem Bxor_fact (a : ByteArray) (b : ByteArray) : Fact Tryd.prog noG 140 [.s (.string a), .s (.string b)] [] (.tup [.s (.string (xorT a b)), .s (.int .i64 (errB ((a.size : Nat) : Int) [a, b]))], []) := by
  refine callN_fact hN hM T_bmay_ok (n := 0) (mode := mode6) ?_
  rw [BxorF_eq]
  unfold BxorF BxorF_s1
  rw [br_if, xorT_eq]
  unfold xorTI errB
  by_cases hb : bok ((a.size : Nat) : Int) [a, b] = true
  · obtain ⟨⟨h0, h1⟩, h2, h3⟩ := bok_iff.1 hb
    have hba := h3 b (by simp)
    have hl : (xb (bytesL a) (bytesL b)).length = a.size := by rw [xb_len, bytes_len, bytes_len]; omega
    rw [if_pos hb, if_pos hb, if_neg (by decide), bnd_of (mkN_of (by omega) (by omega) (by omega)), Int.toNat_natCast, fill_eq (bytesL a) a.size (bytes_len a), grd_of (by simp [bytes_len]; omega), grd_of (by rw [hl]; simp), List.drop_zero, ← hl, List.take_length]
  · rw [if_neg hb, if_neg hb, if_pos (by decide)]
noncomputable def Bxor_ent : List V → List Blk → Option (Bool × Out)
  | [.s (.string a), .s (.string b)], [] => some (true, (.tup [.s (.string (xorT a b)), .s (.int .i64 (errB ((a.size : Nat) : Int) [a, b]))], []))
  | _, _ => none
theorem Bxor_ok : ∀ args bs out, Bxor_ent args bs = some (true, out) → Fact Tryd.prog noG 140 args bs out := by
  intro args bs out h
  unfold Bxor_ent at h
  split at h
  · rename_i a b
    simp only [Option.some.injEq, Prod.mk.injEq] at h
    obtain ⟨_, rfl⟩ := h
    exact Bxor_fact a b
  · cases h
noncomputable def T_Bxor : Tbl := Tbl.cons 140 Bxor_ent T_bmay
theorem T_Bxor_ok : CallOk Tryd.prog noG T_Bxor := cons_ok T_bmay_ok Bxor_ok
/-! downpour/block.Sum -/
noncomputable abbrev qb0 (fuel : Nat) : Ctx Out := (fnX Tryd.prog mode6 T_Bxor fuel 30 0)
noncomputable abbrev qb1 : Code := (sub (bodyOf Tryd.prog 89) [1, 1, 1, 0, 1, 0, 0])
noncomputable def BsumF_s2 {R : Type} (w7 w8 : Int) (l : List ByteArray) (n3 : Nat) (w9 : List Int) (c0 : Int → Int → List Int → Option R) (c1 : List Int → Option R) : Option R :=
  br (decide (w7 < w8))
    (bnd (ix l w7) fun e0 =>
    grd (decide (n3 = w9.length) && decide (w9.length ≤ e0.size) && decide (w9.length ≤ 1000000)) <|
    c0 w8 (IntKind.i64.wrap (w7 + 1)) (xb w9 (bytesL e0)))
    (c1 w9)
theorem BsumF_s2_eq (fuel k : Nat) (K : Ex → St → Option Out) (w7 w8 : Int) (l : List ByteArray) (n3 : Nat) (w9 : List Int) : lpN qb1 (qb0 fuel) 805306544 [4, 5, 7, 18, 19, 20] (k + 1) ⟨[(4, vS ByteArray.empty), (5, vI 0), (7, .sl 0 1 0 n3), (18, .ls l), (19, vI w8), (20, vI w7)], [(0, some ⟨5, .li .u8 w9, true⟩)], 1, none⟩ K = BsumF_s2 w7 w8 l n3 w9 (fun a0 a1 a2 => lpN qb1 (qb0 fuel) 805306544 [4, 5, 7, 18, 19, 20] k ⟨[(4, vS ByteArray.empty), (5, vI 0), (7, .sl 0 1 0 n3), (18, .ls l), (19, vI a0), (20, vI a1)], [(0, some ⟨5, .li .u8 a2, true⟩)], 1, none⟩ K) (fun a3 => K (.exit 0) ⟨[(4, vS ByteArray.empty), (5, vI 0), (7, .sl 0 1 0 n3)], [(0, some ⟨5, .li .u8 a3, true⟩)], 1, none⟩) := by kernel_rfl
noncomputable def BsumF_l1 {R : Type} (fuel n3 : Nat) (l : List ByteArray) (k0 : List Int → Option R) : Nat → Int → Int → List Int → Option R
  | 0, _, _, _ => none
  | k + 1, w8, w7, w9 =>
    (BsumF_s2 w7 w8 l n3 w9 (fun a0 a1 a2 => ( BsumF_l1 fuel n3 l k0 k a0 a1 a2 )) (fun a3 => k0 a3))
theorem BsumF_l1_eq (fuel n3 : Nat) (l : List ByteArray) (K : Ex → St → Option Out) : ∀ (k : Nat) (w8 w7 : Int) (w9 : List Int), lpN qb1 (qb0 fuel) 805306544 [4, 5, 7, 18, 19, 20] k ⟨[(4, vS ByteArray.empty), (5, vI 0), (7, .sl 0 1 0 n3), (18, .ls l), (19, vI w8), (20, vI w7)], [(0, some ⟨5, .li .u8 w9, true⟩)], 1, none⟩ K = BsumF_l1 fuel n3 l (fun y0 => K (.exit 0) ⟨[(4, vS ByteArray.empty), (5, vI 0), (7, .sl 0 1 0 n3)], [(0, some ⟨5, .li .u8 y0, true⟩)], 1, none⟩) k w8 w7 w9
  | 0, _, _, _ => rfl
  | k + 1, w8, w7, w9 => by
    unfold BsumF_l1
    exact (BsumF_s2_eq fuel k K w7 w8 l n3 w9).trans (congr (congr (Eq.refl (BsumF_s2 (R := Out) w7 w8 l n3 w9)) (funext fun a0 => funext fun a1 => funext fun a2 => BsumF_l1_eq fuel n3 l K k a0 a1 a2)) (rfl))
noncomputable def BsumF_s3 {R : Type} (n3 : Nat) (x0 : List Int) (c0 : ByteArray → Int → Option R) : Option R :=
  grd (Nat.ble (0 + n3) x0.length) <|
  c0 (txt (((x0).drop 0).take n3)) 0
theorem BsumF_s3_eq (fuel : Nat)  (n3 : Nat) (x0 : List Int) : (kont (qb0 fuel) (bodyOf Tryd.prog 89) [1, 1, 1, 0, 1, 0] 48 (endK Tryd.prog 0 0 89)) (.exit 0) ⟨[(4, vS ByteArray.empty), (5, vI 0), (7, .sl 0 1 0 n3)], [(0, some ⟨5, .li .u8 x0, true⟩)], 1, none⟩ = BsumF_s3 n3 x0 (fun a0 a1 => some (.tup [vS a0, vI a1], [])) := by kernel_rfl
noncomputable def BsumF_s1 {R : Type} (n : Int) (l : List ByteArray) (c0 : ByteArray → Int → Option R) (c1 : Int → Int → List Int → Nat → Option R) : Option R :=
  br (((errB n l) : Int) != 0)
    (c0 ByteArray.empty (errB n l))
    (bnd (mkN n n 1) fun n3 =>
    c1 ((l.length : Nat) : Int) 0 (List.replicate n3 (0 : Int)) n3)
theorem BsumF_s1_eq (fuel : Nat)  (n : Int) (l : List ByteArray) : callN Tryd.prog mode6 T_Bxor fuel 89 [vI n, .ls l] [] = BsumF_s1 n l (fun a1 a2 => some (.tup [vS a1, vI a2], [])) (fun a0 a3 a4 n3 => lpN qb1 (qb0 fuel) 805306544 [4, 5, 7, 18, 19, 20] fuel ⟨[(4, vS ByteArray.empty), (5, vI 0), (7, .sl 0 1 0 n3), (18, .ls l), (19, vI a0), (20, vI a3)], [(0, some ⟨5, .li .u8 a4, true⟩)], 1, none⟩ (kont (qb0 fuel) (bodyOf Tryd.prog 89) [1, 1, 1, 0, 1, 0] 48 (endK Tryd.prog 0 0 89))) := by kernel_rfl
noncomputable def BsumF {R : Type} (fuel : Nat) (n : Int) (l : List ByteArray) (r0 : ByteArray → Int → Option R) : Option R :=
  (BsumF_s1 n l (fun a1 a2 => r0 a1 a2) (fun a0 a3 a4 n3 => (BsumF_l1 fuel n3 l (fun x0 => (BsumF_s3 n3 x0 (fun a5 a6 => r0 a5 a6))) fuel a0 a3 a4)))
theorem BsumF_eq (fuel : Nat) (n : Int) (l : List ByteArray) : callN Tryd.prog mode6 T_Bxor fuel 89 [.s (.int .i64 n), .ls l] [] = BsumF fuel n l (fun z0 z1 => some (.tup [.s (.string z0), .s (.int .i64 z1)], [])) := by
  unfold BsumF
  exact (BsumF_s1_eq fuel  n l).trans (congr (congr (Eq.refl (BsumF_s1 (R := Out) n l)) (rfl)) (funext fun a0 => funext fun a1 => funext fun a2 => funext fun n3 => (BsumF_l1_eq fuel n3 l (kont (qb0 fuel) (bodyOf Tryd.prog 89) [1, 1, 1, 0, 1, 0] 48 (endK Tryd.prog 0 0 89)) fuel a0 a1 a2).trans (congrFun (congrFun (congrFun (congrFun (congr (Eq.refl (BsumF_l1 (R := Out) fuel n3 l)) (funext fun x0 => (BsumF_s3_eq fuel  n3 x0))) fuel) a0) a1) a2)))
theorem Bsum_loop {R : Type} (fuel m : Nat) (l : List ByteArray) (hm : m ≤ 64) (hx : l.length ≤ 64) (hs : ∀ s ∈ l, s.size = m) (k0 : List Int → Option R) : ∀ (k j : Nat), j ≤ l.length → l.length < j + k → BsumF_l1 fuel m l k0 k (l.length : Int) (j : Int) (sumL (zb m) (l.take j)) = k0 (sumL (zb m) l)
  | 0, j, h1, h2 => by omega
  | k + 1, j, h1, h2 => by
    have hz : (zb m).length = m := by unfold zb; simp
    have hl : (sumL (zb m) (l.take j)).length = m := by rw [sumL_len fun s h => by rw [hz]; exact hs s (List.mem_of_mem_take h), hz]
    unfold BsumF_l1 BsumF_s2
    rw [br_if]
    by_cases hc : j < l.length
    · have h3 := hs _ (List.getElem_mem hc)
      rw [if_pos (by simpa using hc), bnd_of ((ix_nat l j).trans (List.getElem?_eq_getElem hc)), grd_of (by simp [hl]; omega), wrap_i64 (by omega) (by omega), show (j : Int) + 1 = ((j + 1 : Nat) : Int) by omega]
      have e : xb (sumL (zb m) (l.take j)) (bytesL l[j]) = sumL (zb m) (l.take (j + 1)) := by
        rw [List.take_succ_eq_append_getElem hc]; unfold sumL; rw [List.foldl_append]; rfl
      rw [e]
      exact Bsum_loop fuel m l hm hx hs k0 k (j + 1) (by omega) (by omega)
    · have e : j = l.length := by omega
      subst e
      rw [if_neg (by simp), List.take_length]
theorem Bsum_fact (n : Int) (l : List ByteArray) : Fact Tryd.prog noG 89 [.s (.int .i64 n), .ls l] [] (.tup [.s (.string (sumT n l)), .s (.int .i64 (errB n l))], []) := by
  refine callN_fact hN hM T_Bxor_ok (n := 66) (mode := mode6) ?_
  rw [BsumF_eq]
  unfold BsumF BsumF_s1
  rw [br_if, sumT_eq]
  unfold sumTI errB
  by_cases hb : bok n l = true
  · obtain ⟨⟨h0, h1⟩, h2, h3⟩ := bok_iff.1 hb
    have hl := sum_len hb
    rw [if_pos hb, if_pos hb, if_neg (by decide), bnd_of (mkN_of (by omega) (by omega) (by omega))]
    have := Bsum_loop (R := Out) 66 n.toNat l (by omega) h2 (fun s h => by have := h3 s h; omega)
    have e : List.replicate n.toNat (0 : Int) = sumL (zb n.toNat) (l.take 0) := rfl
    dsimp only
    rw [e, show (0 : Int) = ((0 : Nat) : Int) from rfl, this _ 66 0 (by omega) (by omega), sumS_eq]
    unfold BsumF_s3
    rw [sumS_eq] at hl
    unfold sumI at hl ⊢
    rw [grd_of (by rw [Nat.ble_eq]; omega), List.drop_zero, List.take_of_length_le (by omega)]
    rfl
  · rw [if_neg hb, if_neg hb, if_pos (by decide)]
noncomputable def Bsum_ent : List V → List Blk → Option (Bool × Out)
  | [.s (.int .i64 n), w0], [] => (asSl .str w0).bind fun l => some (true, (.tup [.s (.string (sumT n l)), .s (.int .i64 (errB n l))], []))
  | _, _ => none
theorem Bsum_ok : ∀ args bs out, Bsum_ent args bs = some (true, out) → Fact Tryd.prog noG 89 args bs out := by
  intro args bs out h
  unfold Bsum_ent at h
  split at h
  · rename_i n w0
    obtain ⟨l, h_l, h⟩ := Option.bind_eq_some_iff.1 h
    simp only [Option.some.injEq, Prod.mk.injEq] at h
    obtain ⟨_, rfl⟩ := h
    exact (Bsum_fact n l).args (fun _ _ _ => fun _ h => RVs_two (fun _ h => h) (fun _ h => RVs_two (fun _ h => RV_ls h_l h) (fun _ h => h) h) h)
  · cases h
noncomputable def T_Bsum : Tbl := Tbl.cons 89 Bsum_ent T_Bxor
theorem T_Bsum_ok : CallOk Tryd.prog noG T_Bsum := cons_ok T_Bxor_ok Bsum_ok
/-! strings.trimLeftByte -/
noncomputable def trimLF_s2 {R : Type} (w3 : ByteArray) (c0 c1 c2 : ByteArray → Option R) : Option R :=
  br (decide ((((w3.size : Nat) : Int) : Int) > 0))
    (bnd (ix w3.data.toList 0) fun ub7 =>
    br ((((ub7.toNat : Nat) : Int) : Int) == 0)
      (bnd (upTo 1 w3.size) fun j8 =>
      c0 (w3.extract j8 w3.size))
      (c1 w3))
    (c2 w3)
theorem trimLF_s2_eq (fuel k : Nat) (K : Ex → St → Option Out) (w3 : ByteArray) : lpN (sub (bodyOf Tryd.prog 162) [1, 0, 0, 0]) (fnX Tryd.prog mode6 T_Bsum fuel 17 0) 65553 [0, 1, 4] (k + 1) ⟨[(0, vS w3), (1, .s (.int .u8 0)), (4, vS ByteArray.empty)], [], 0, none⟩ K = trimLF_s2 w3 (fun a9 => lpN (sub (bodyOf Tryd.prog 162) [1, 0, 0, 0]) (fnX Tryd.prog mode6 T_Bsum fuel 17 0) 65553 [0, 1, 4] k ⟨[(0, vS a9), (1, .s (.int .u8 0)), (4, vS ByteArray.empty)], [], 0, none⟩ K) (fun a0 => K (.exit 0) ⟨[(0, vS a0), (4, vS ByteArray.empty)], [], 0, none⟩) (fun a1 => K (.exit 0) ⟨[(0, vS a1), (4, vS ByteArray.empty)], [], 0, none⟩) := by kernel_rfl
noncomputable def trimLF_l1 {R : Type} (fuel : Nat)  (k0 : ByteArray → Option R) : Nat → ByteArray → Option R
  | 0, _ => none
  | k + 1, w3 =>
    (trimLF_s2 w3 (fun a9 => ( trimLF_l1 fuel k0 k a9 )) (fun a0 => k0 a0) (fun a1 => k0 a1))
theorem trimLF_l1_eq (fuel : Nat)  (K : Ex → St → Option Out) : ∀ (k : Nat) (w3 : ByteArray), lpN (sub (bodyOf Tryd.prog 162) [1, 0, 0, 0]) (fnX Tryd.prog mode6 T_Bsum fuel 17 0) 65553 [0, 1, 4] k ⟨[(0, vS w3), (1, .s (.int .u8 0)), (4, vS ByteArray.empty)], [], 0, none⟩ K = trimLF_l1 fuel  (fun y6 => K (.exit 0) ⟨[(0, vS y6), (4, vS ByteArray.empty)], [], 0, none⟩) k w3
  | 0, _ => rfl
  | k + 1, w3 => by
    unfold trimLF_l1
    exact (trimLF_s2_eq fuel k K w3).trans (congr (congr (congr (Eq.refl (trimLF_s2 (R := Out) w3)) (funext fun a9 => trimLF_l1_eq fuel  K k a9)) (rfl)) (rfl))
noncomputable def trimLF_s3 {R : Type} (x0 : ByteArray) (c0 : ByteArray → Option R) : Option R :=
  c0 x0
theorem trimLF_s3_eq (fuel : Nat)  (x0 : ByteArray) : (kont (fnX Tryd.prog mode6 T_Bsum fuel 17 0) (bodyOf Tryd.prog 162) [1, 0, 0] 16 (endK Tryd.prog 0 0 162)) (.exit 0) ⟨[(0, vS x0), (4, vS ByteArray.empty)], [], 0, none⟩ = trimLF_s3 x0 (fun a0 => some (vS a0, [])) := by kernel_rfl
noncomputable def trimLF_s1 {R : Type} (s : ByteArray) (c0 : ByteArray → Option R) : Option R :=
  c0 s
theorem trimLF_s1_eq (fuel : Nat)  (s : ByteArray) : callN Tryd.prog mode6 T_Bsum fuel 162 [vS s, .s (.int .u8 0)] [] = trimLF_s1 s (fun a0 => lpN (sub (bodyOf Tryd.prog 162) [1, 0, 0, 0]) (fnX Tryd.prog mode6 T_Bsum fuel 17 0) 65553 [0, 1, 4] fuel ⟨[(0, vS a0), (1, .s (.int .u8 0)), (4, vS ByteArray.empty)], [], 0, none⟩ (kont (fnX Tryd.prog mode6 T_Bsum fuel 17 0) (bodyOf Tryd.prog 162) [1, 0, 0] 16 (endK Tryd.prog 0 0 162))) := by kernel_rfl
noncomputable def trimLF {R : Type} (fuel : Nat) (s : ByteArray) (r0 : ByteArray → Option R) : Option R :=
  (trimLF_s1 s (fun a0 => (trimLF_l1 fuel (fun x0 => (trimLF_s3 x0 (fun a1 => r0 a1))) fuel a0)))
theorem trimLF_eq (fuel : Nat) (s : ByteArray) : callN Tryd.prog mode6 T_Bsum fuel 162 [.s (.string s), .s (.int .u8 0)] [] = trimLF fuel s (fun z0 => some (.s (.string z0), [])) := by
  unfold trimLF
  exact (trimLF_s1_eq fuel  s).trans (congr (Eq.refl (trimLF_s1 (R := Out) s)) (funext fun a0 => (trimLF_l1_eq fuel  (kont (fnX Tryd.prog mode6 T_Bsum fuel 17 0) (bodyOf Tryd.prog 162) [1, 0, 0] 16 (endK Tryd.prog 0 0 162)) fuel a0).trans (congrFun (congrFun (congr (Eq.refl (trimLF_l1 (R := Out) fuel )) (funext fun x0 => (trimLF_s3_eq fuel  x0))) fuel) a0)))
theorem trimL_loop {R : Type} (fuel : Nat) (k0 : ByteArray → Option R) : ∀ (k : Nat) (s : ByteArray), s.size < k → trimLF_l1 fuel k0 k s = k0 (trimLS s)
  | 0, s, h => by omega
  | k + 1, s, h => by
    unfold trimLF_l1 trimLF_s2
    rw [br_if, trimLS_eq]
    unfold trimLI
    by_cases hc : 0 < s.size
    · obtain ⟨c, e1, e2⟩ := ix_byte s 0 hc
      have e1 : ix s.data.toList 0 = some c := e1
      have hb : bytesL s = (bytesL s).getD 0 0 :: (bytesL s).drop 1 := by
        have hl := bytes_len s
        cases h3 : bytesL s with
        | nil => rw [h3] at hl; simp at hl; omega
        | cons x t => rfl
      rw [if_pos (by simp; omega), bnd_of e1, br_if, e2]
      by_cases hz : (bytesL s).getD 0 0 = 0
      · have hu : upTo 1 s.size = some 1 := by rw [upTo_of (by omega) (by omega)]; rfl
        rw [if_pos (by simpa using hz), bnd_of hu]
        dsimp only
        rw [trimL_loop fuel k0 k _ (by rw [ByteArray.size_extract]; omega), trimLS_eq]
        unfold trimLI
        have hd : bytesL (s.extract 1 s.size) = (bytesL s).drop 1 := by
          unfold bytesL
          rw [ByteArray.data_extract, Array.toList_extract, ← List.map_drop, List.extract_eq_take_drop, List.take_of_length_le (by rw [List.length_drop, Array.length_toList]; exact Nat.le_refl _)]
        rw [hd]
        conv => rhs; rw [hb]
        rw [List.dropWhile_cons_of_pos (by simpa using hz)]
      · rw [if_neg (by simpa using hz)]
        congr 1
        conv => rhs; rw [hb]
        rw [List.dropWhile_cons_of_neg (by simpa using hz), ← hb, txt_bytes]
    · rw [if_neg (by rw [decide_eq_true_eq]; omega)]
      have : bytesL s = [] := List.eq_nil_of_length_eq_zero (by rw [bytes_len]; omega)
      rw [this, eq_empty.2 this]; rfl
theorem trimL_fact (s : ByteArray) : Fact Tryd.prog noG 162 [.s (.string s), .s (.int .u8 0)] [] (.s (.string (trimLS s)), []) := by
  refine callN_fact hN hM T_Bsum_ok (n := s.size + 1) (mode := mode6) ?_
  rw [trimLF_eq]
  unfold trimLF trimLF_s1
  dsimp only
  rw [trimL_loop _ _ _ _ (by omega)]
  rfl
noncomputable def trimL_ent : List V → List Blk → Option (Bool × Out)
  | [.s (.string s), .s (.int .u8 0)], [] => some (true, (.s (.string (trimLS s)), []))
  | _, _ => none
theorem trimL_ok : ∀ args bs out, trimL_ent args bs = some (true, out) → Fact Tryd.prog noG 162 args bs out := by
  intro args bs out h
  unfold trimL_ent at h
  split at h
  · rename_i s
    simp only [Option.some.injEq, Prod.mk.injEq] at h
    obtain ⟨_, rfl⟩ := h
    exact trimL_fact s
  · cases h
noncomputable def T_trimL : Tbl := Tbl.cons 162 trimL_ent T_Bsum
theorem T_trimL_ok : CallOk Tryd.prog noG T_trimL := cons_ok T_Bsum_ok trimL_ok
/-! strings.trimRightByte -/
noncomputable def trimRF_s2 {R : Type} (w3 : ByteArray) (c0 c1 c2 : ByteArray → Option R) : Option R :=
  br (decide ((((w3.size : Nat) : Int) : Int) > 0))
    (bnd (ix w3.data.toList (IntKind.i64.wrap (((w3.size : Nat) : Int) - 1))) fun ub7 =>
    br ((((ub7.toNat : Nat) : Int) : Int) == 0)
      (bnd (upTo (IntKind.i64.wrap (((w3.size : Nat) : Int) - 1)) w3.size) fun j8 =>
      c0 (w3.extract 0 j8))
      (c1 w3))
    (c2 w3)
theorem trimRF_s2_eq (fuel k : Nat) (K : Ex → St → Option Out) (w3 : ByteArray) : lpN (sub (bodyOf Tryd.prog 163) [1, 0, 0, 0]) (fnX Tryd.prog mode6 T_trimL fuel 23 0) 4194321 [0, 1, 4] (k + 1) ⟨[(0, vS w3), (1, .s (.int .u8 0)), (4, vS ByteArray.empty)], [], 0, none⟩ K = trimRF_s2 w3 (fun a9 => lpN (sub (bodyOf Tryd.prog 163) [1, 0, 0, 0]) (fnX Tryd.prog mode6 T_trimL fuel 23 0) 4194321 [0, 1, 4] k ⟨[(0, vS a9), (1, .s (.int .u8 0)), (4, vS ByteArray.empty)], [], 0, none⟩ K) (fun a0 => K (.exit 0) ⟨[(0, vS a0), (4, vS ByteArray.empty)], [], 0, none⟩) (fun a1 => K (.exit 0) ⟨[(0, vS a1), (4, vS ByteArray.empty)], [], 0, none⟩) := by kernel_rfl
noncomputable def trimRF_l1 {R : Type} (fuel : Nat)  (k0 : ByteArray → Option R) : Nat → ByteArray → Option R
  | 0, _ => none
  | k + 1, w3 =>
    (trimRF_s2 w3 (fun a9 => ( trimRF_l1 fuel k0 k a9 )) (fun a0 => k0 a0) (fun a1 => k0 a1))
theorem trimRF_l1_eq (fuel : Nat)  (K : Ex → St → Option Out) : ∀ (k : Nat) (w3 : ByteArray), lpN (sub (bodyOf Tryd.prog 163) [1, 0, 0, 0]) (fnX Tryd.prog mode6 T_trimL fuel 23 0) 4194321 [0, 1, 4] k ⟨[(0, vS w3), (1, .s (.int .u8 0)), (4, vS ByteArray.empty)], [], 0, none⟩ K = trimRF_l1 fuel  (fun y6 => K (.exit 0) ⟨[(0, vS y6), (4, vS ByteArray.empty)], [], 0, none⟩) k w3
  | 0, _ => rfl
  | k + 1, w3 => by
    unfold trimRF_l1
    exact (trimRF_s2_eq fuel k K w3).trans (congr (congr (congr (Eq.refl (trimRF_s2 (R := Out) w3)) (funext fun a9 => trimRF_l1_eq fuel  K k a9)) (rfl)) (rfl))
noncomputable def trimRF_s3 {R : Type} (x0 : ByteArray) (c0 : ByteArray → Option R) : Option R :=
  c0 x0
theorem trimRF_s3_eq (fuel : Nat)  (x0 : ByteArray) : (kont (fnX Tryd.prog mode6 T_trimL fuel 23 0) (bodyOf Tryd.prog 163) [1, 0, 0] 16 (endK Tryd.prog 0 0 163)) (.exit 0) ⟨[(0, vS x0), (4, vS ByteArray.empty)], [], 0, none⟩ = trimRF_s3 x0 (fun a0 => some (vS a0, [])) := by kernel_rfl
noncomputable def trimRF_s1 {R : Type} (s : ByteArray) (c0 : ByteArray → Option R) : Option R :=
  c0 s
theorem trimRF_s1_eq (fuel : Nat)  (s : ByteArray) : callN Tryd.prog mode6 T_trimL fuel 163 [vS s, .s (.int .u8 0)] [] = trimRF_s1 s (fun a0 => lpN (sub (bodyOf Tryd.prog 163) [1, 0, 0, 0]) (fnX Tryd.prog mode6 T_trimL fuel 23 0) 4194321 [0, 1, 4] fuel ⟨[(0, vS a0), (1, .s (.int .u8 0)), (4, vS ByteArray.empty)], [], 0, none⟩ (kont (fnX Tryd.prog mode6 T_trimL fuel 23 0) (bodyOf Tryd.prog 163) [1, 0, 0] 16 (endK Tryd.prog 0 0 163))) := by kernel_rfl
noncomputable def trimRF {R : Type} (fuel : Nat) (s : ByteArray) (r0 : ByteArray → Option R) : Option R :=
  (trimRF_s1 s (fun a0 => (trimRF_l1 fuel (fun x0 => (trimRF_s3 x0 (fun a1 => r0 a1))) fuel a0)))
theorem trimRF_eq (fuel : Nat) (s : ByteArray) : callN Tryd.prog mode6 T_trimL fuel 163 [.s (.string s), .s (.int .u8 0)] [] = trimRF fuel s (fun z0 => some (.s (.string z0), [])) := by
  unfold trimRF
  exact (trimRF_s1_eq fuel  s).trans (congr (Eq.refl (trimRF_s1 (R := Out) s)) (funext fun a0 => (trimRF_l1_eq fuel  (kont (fnX Tryd.prog mode6 T_trimL fuel 23 0) (bodyOf Tryd.prog 163) [1, 0, 0] 16 (endK Tryd.prog 0 0 163)) fuel a0).trans (congrFun (congrFun (congr (Eq.refl (trimRF_l1 (R := Out) fuel )) (funext fun x0 => (trimRF_s3_eq fuel  x0))) fuel) a0)))
theorem trimR_loop {R : Type} (fuel : Nat) (k0 : ByteArray → Option R) : ∀ (k : Nat) (s : ByteArray), s.size < k → s.size ≤ 1000000000000 → trimRF_l1 fuel k0 k s = k0 (trimRS s)
  | 0, s, h, _ => by omega
  | k + 1, s, h, hx => by
    unfold trimRF_l1 trimRF_s2
    rw [br_if, trimRS_eq]
    unfold trimRI
    by_cases hc : 0 < s.size
    · obtain ⟨c, e1, e2⟩ := ix_byte s (s.size - 1) (by omega)
      have hl := bytes_len s
      have hb : bytesL s = (bytesL s).take (s.size - 1) ++ [(bytesL s).getD (s.size - 1) 0] := by
        conv => lhs; rw [← List.take_length (l := bytesL s), hl, show s.size = (s.size - 1) + 1 by omega, List.take_succ_eq_append_getElem (by omega)]
        rw [getD_get (by omega)]
      rw [if_pos (by simp; omega), wrap_i64 (by omega) (by omega), show ((s.size : Nat) : Int) - 1 = ((s.size - 1 : Nat) : Int) by omega, bnd_of e1, br_if, e2]
      by_cases hz : (bytesL s).getD (s.size - 1) 0 = 0
      · have hu : upTo ((s.size - 1 : Nat) : Int) s.size = some (s.size - 1) := by rw [upTo_of (by omega) (by omega)]; rfl
        have hsz : (s.extract 0 (s.size - 1)).size = s.size - 1 := by rw [ByteArray.size_extract]; omega
        rw [if_pos (by simpa using hz), bnd_of hu]
        dsimp only
        rw [trimR_loop fuel k0 k _ (by omega) (by omega), trimRS_eq]
        unfold trimRI
        have hd : bytesL (s.extract 0 (s.size - 1)) = (bytesL s).take (s.size - 1) := by
          unfold bytesL
          rw [ByteArray.data_extract, Array.toList_extract, ← List.map_take, List.extract_eq_take_drop, List.drop_zero, Nat.sub_zero]
        rw [hd]
        conv => rhs; rw [hb]
        rw [List.reverse_append, List.reverse_singleton, List.singleton_append, List.dropWhile_cons_of_pos (by simpa using hz)]
      · rw [if_neg (by simpa using hz)]
        congr 1
        conv => rhs; rw [hb]
        rw [List.reverse_append, List.reverse_singleton, List.singleton_append, List.dropWhile_cons_of_neg (by simpa using hz), ← List.singleton_append, ← List.reverse_singleton, ← List.reverse_append, ← hb, List.reverse_reverse, txt_bytes]
    · rw [if_neg (by rw [decide_eq_true_eq]; omega)]
      have : bytesL s = [] := List.eq_nil_of_length_eq_zero (by rw [bytes_len]; omega)
      rw [this, eq_empty.2 this]; rfl
theorem trimR_fact (s : ByteArray) (hg : (decide (s.size ≤ 1000000000000)) = true) : Fact Tryd.prog noG 163 [.s (.string s), .s (.int .u8 0)] [] (.s (.string (trimRS s)), []) := by
  refine callN_fact hN hM T_trimL_ok (n := s.size + 1) (mode := mode6) ?_
  rw [trimRF_eq]
  unfold trimRF trimRF_s1
  dsimp only
  rw [trimR_loop _ _ _ _ (by omega) (by simpa using hg)]
  rfl
noncomputable def trimR_ent : List V → List Blk → Option (Bool × Out)
  | [.s (.string s), .s (.int .u8 0)], [] => some ((decide (s.size ≤ 1000000000000)), (.s (.string (trimRS s)), []))
  | _, _ => none
theorem trimR_ok : ∀ args bs out, trimR_ent args bs = some (true, out) → Fact Tryd.prog noG 163 args bs out := by
  intro args bs out h
  unfold trimR_ent at h
  split at h
  · rename_i s
    simp only [Option.some.injEq, Prod.mk.injEq] at h
    obtain ⟨hg, rfl⟩ := h
    exact trimR_fact s hg
  · cases h
noncomputable def T_trimR : Tbl := Tbl.cons 163 trimR_ent T_trimL
theorem T_trimR_ok : CallOk Tryd.prog noG T_trimR := cons_ok T_trimL_ok trimR_ok
/-! strings.Trim -/
noncomputable def trimF_s1 {R : Type} (s : ByteArray) (c0 : ByteArray → Option R) : Option R :=
  br (eqS s ByteArray.empty)
    (c0 s)
    (grd (decide (s.size ≤ 1000000000000)) <|
    c0 (trimLS (trimRS s)))
theorem trimF_s1_eq (fuel : Nat)  (s : ByteArray) : callN Tryd.prog mode6 T_trimR fuel 144 [vS s, vS (⟨#[0]⟩ : ByteArray)] [] = trimF_s1 s (fun a1 => some (vS a1, [])) := by kernel_rfl
noncomputable def trimF {R : Type} (fuel : Nat) (s : ByteArray) (r0 : ByteArray → Option R) : Option R :=
  (trimF_s1 s (fun a1 => r0 a1))
theorem trimF_eq (fuel : Nat) (s : ByteArray) : callN Tryd.prog mode6 T_trimR fuel 144 [.s (.string s), .s (.string (⟨#[0]⟩ : ByteArray))] [] = trimF fuel s (fun z0 => some (.s (.string z0), [])) := by
  unfold trimF
  exact (trimF_s1_eq fuel  s)
theorem trim_fact (s : ByteArray) (hg : (decide (s.size ≤ 1000000000000)) = true) : Fact Tryd.prog noG 144 [.s (.string s), .s (.string (⟨#[0]⟩ : ByteArray))] [] (.s (.string (trimLS (trimRS s))), []) := by
  refine callN_fact hN hM T_trimR_ok (n := 0) (mode := mode6) ?_
  rw [trimF_eq]
  unfold trimF trimF_s1
  rw [br_if]
  by_cases h : s = ByteArray.empty
  · rw [if_pos (eqS_iff.2 h)]
    subst h
    have e1 : trimRS ByteArray.empty = ByteArray.empty := by rw [trimRS_eq]; rfl
    have e2 : trimLS ByteArray.empty = ByteArray.empty := by rw [trimLS_eq]; rfl
    rw [e1, e2]
  · rw [if_neg (fun e => h (eqS_iff.1 e)), grd_of hg]
noncomputable def trim_ent : List V → List Blk → Option (Bool × Out)
  | [.s (.string s), .s (.string y0)], [] => bif decide (y0.data.toList = [0]) then some ((decide (s.size ≤ 1000000000000)), (.s (.string (trimLS (trimRS s))), [])) else none
  | _, _ => none
theorem trim_ok : ∀ args bs out, trim_ent args bs = some (true, out) → Fact Tryd.prog noG 144 args bs out := by
  intro args bs out h
  unfold trim_ent at h
  split at h
  · rename_i s y0
    replace h := cond_eq.1 h
    obtain ⟨e_y0, h⟩ := h
    obtain rfl := ba_eq (of_decide_eq_true e_y0)
    simp only [Option.some.injEq, Prod.mk.injEq] at h
    obtain ⟨hg, rfl⟩ := h
    exact trim_fact s hg
  · cases h
noncomputable def T_trim : Tbl := Tbl.cons 144 trim_ent T_trimR
theorem T_trim_ok : CallOk Tryd.prog noG T_trim := cons_ok T_trimR_ok trim_ok
/-! downpour/block.Nought -/
noncomputable def NoughtF_s1 {R : Type} (s : ByteArray) (c0 : Bool → Option R) : Option R :=
  grd (decide (s.size ≤ 1000000000000)) <|
  c0 (eqS (trimLS (trimRS s)) ByteArray.empty)
theorem NoughtF_s1_eq (fuel : Nat)  (s : ByteArray) : callN Tryd.prog mode6 T_trim fuel 99 [vS s] [] = NoughtF_s1 s (fun a1 => some (vB a1, [])) := by kernel_rfl
noncomputable def NoughtF {R : Type} (fuel : Nat) (s : ByteArray) (r0 : Bool → Option R) : Option R :=
  (NoughtF_s1 s (fun a1 => r0 a1))
theorem NoughtF_eq (fuel : Nat) (s : ByteArray) : callN Tryd.prog mode6 T_trim fuel 99 [.s (.string s)] [] = NoughtF fuel s (fun z0 => some (.s (.bool z0), [])) := by
  unfold NoughtF
  exact (NoughtF_s1_eq fuel  s)
theorem dw_nil {l : List Int} : (l.dropWhile fun x => decide (x = 0)) = [] ↔ ∀ x, x ∈ l → x = 0 := by
  induction l with
  | nil => simp
  | cons x t ih =>
    by_cases h : x = 0
    · rw [List.dropWhile_cons_of_pos (by simpa using h), ih]; simp [h]
    · rw [List.dropWhile_cons_of_neg (by simpa using h)]; simp [h]
theorem nought_trim (s : ByteArray) : eqS (trimLS (trimRS s)) ByteArray.empty = nought s := by
  rw [nought_eq, eqS_decide]
  unfold noughtI
  rw [decide_eq_decide, eq_empty, trimLS_eq, trimRS_eq]
  unfold trimLI trimRI
  have h1 : ByteOk ((bytesL s).reverse.dropWhile fun x => decide (x = 0)).reverse := fun x hx => bytes_ok s x (List.mem_reverse.1 ((List.dropWhile_sublist _).subset (List.mem_reverse.1 hx)))
  rw [bytes_txt h1]
  rw [bytes_txt fun x hx => h1 x ((List.dropWhile_sublist _).subset hx), dw_nil]
  constructor
  · intro h x hx
    refine Classical.byContradiction fun hn => ?_
    have hne : (bytesL s).reverse.dropWhile (fun x => decide (x = 0)) ≠ [] := fun e => hn (dw_nil.1 e x (List.mem_reverse.2 hx))
    have := List.head_dropWhile_not (fun x : Int => decide (x = 0)) hne
    have hm := h _ (List.mem_reverse.2 (List.head_mem hne))
    rw [hm] at this
    simp at this
  · intro h x hx
    exact h x (List.mem_reverse.1 ((List.dropWhile_sublist _).subset (List.mem_reverse.1 hx)))
theorem Nought_fact (s : ByteArray) (hg : (decide (s.size ≤ 1000000000000)) = true) : Fact Tryd.prog noG 99 [.s (.string s)] [] (.s (.bool (nought s)), []) := by
  refine callN_fact hN hM T_trim_ok (n := 0) (mode := mode6) ?_
  rw [NoughtF_eq]
  unfold NoughtF NoughtF_s1
  rw [grd_of hg, nought_trim]
noncomputable def Nought_ent : List V → List Blk → Option (Bool × Out)
  | [.s (.string s)], [] => some ((decide (s.size ≤ 1000000000000)), (.s (.bool (nought s)), []))
  | _, _ => none
theorem Nought_ok : ∀ args bs out, Nought_ent args bs = some (true, out) → Fact Tryd.prog noG 99 args bs out := by
  intro args bs out h
  unfold Nought_ent at h
  split at h
  · rename_i s
    simp only [Option.some.injEq, Prod.mk.injEq] at h
    obtain ⟨hg, rfl⟩ := h
    exact Nought_fact s hg
  · cases h
noncomputable def T_Nought : Tbl := Tbl.cons 99 Nought_ent T_trim
theorem T_Nought_ok : CallOk Tryd.prog noG T_Nought := cons_ok T_trim_ok Nought_ok
def mode7 : FuncId → Nat := fun f => 0
/-! downpour/downpourref02.Why -/
noncomputable def refWhyF_s2 {R : Type} (w6 w7 : Int) (l : List ByteArray) (n : Int) (c0 : Option R) (c1 : Int → Int → Option R) (c2 : Option R) : Option R :=
  br (decide (w6 < w7))
    (bnd (ix l w6) fun e9 =>
    br (((e9.size : Nat) : Int) != n)
      (c0)
      (c1 w7 (IntKind.i64.wrap (w6 + 1))))
    (c2)
theorem refWhyF_s2_eq (fuel k : Nat) (K : Ex → St → Option Out) (w6 w7 : Int) (l : List ByteArray) (n : Int) : lpN (sub (bodyOf Tryd.prog 83) [1, 1, 0, 1, 0, 0]) (fnX Tryd.prog mode7 T_Nought fuel 29 0) 16 [0, 4, 18, 19, 20] (k + 1) ⟨[(0, vI n), (4, vI 0), (18, .ls l), (19, vI w7), (20, vI w6)], [], 0, none⟩ K = refWhyF_s2 w6 w7 l n (K .ret ⟨[(4, vI 2)], [], 0, none⟩) (fun a0 a1 => lpN (sub (bodyOf Tryd.prog 83) [1, 1, 0, 1, 0, 0]) (fnX Tryd.prog mode7 T_Nought fuel 29 0) 16 [0, 4, 18, 19, 20] k ⟨[(0, vI n), (4, vI 0), (18, .ls l), (19, vI a0), (20, vI a1)], [], 0, none⟩ K) (K (.exit 0) ⟨[(4, vI 0)], [], 0, none⟩) := by kernel_rfl
noncomputable def refWhyF_l1 {R : Type} (fuel : Nat) (n : Int) (l : List ByteArray) (k0 k1 : Option R) : Nat → Int → Int → Option R
  | 0, _, _ => none
  | k + 1, w7, w6 =>
    (refWhyF_s2 w6 w7 l n (k0) (fun a0 a1 => ( refWhyF_l1 fuel n l k0 k1 k a0 a1 )) (k1))
theorem refWhyF_l1_eq (fuel : Nat) (n : Int) (l : List ByteArray) (K : Ex → St → Option Out) : ∀ (k : Nat) (w7 w6 : Int), lpN (sub (bodyOf Tryd.prog 83) [1, 1, 0, 1, 0, 0]) (fnX Tryd.prog mode7 T_Nought fuel 29 0) 16 [0, 4, 18, 19, 20] k ⟨[(0, vI n), (4, vI 0), (18, .ls l), (19, vI w7), (20, vI w6)], [], 0, none⟩ K = refWhyF_l1 fuel n l (K .ret ⟨[(4, vI 2)], [], 0, none⟩) (K (.exit 0) ⟨[(4, vI 0)], [], 0, none⟩) k w7 w6
  | 0, _, _ => rfl
  | k + 1, w7, w6 => by
    unfold refWhyF_l1
    exact (refWhyF_s2_eq fuel k K w6 w7 l n).trans (congr (congr (congr (Eq.refl (refWhyF_s2 (R := Out) w6 w7 l n)) (rfl)) (funext fun a0 => funext fun a1 => refWhyF_l1_eq fuel n l K k a0 a1)) (rfl))
noncomputable def refWhyF_s3 {R : Type}  (c0 : Int → Option R) : Option R :=
  c0 2
theorem refWhyF_s3_eq (fuel : Nat)   : (kont (fnX Tryd.prog mode7 T_Nought fuel 29 0) (bodyOf Tryd.prog 83) [1, 1, 0, 1, 0] 16 (endK Tryd.prog 0 0 83)) .ret ⟨[(4, vI 2)], [], 0, none⟩ = refWhyF_s3  (fun a0 => some (vI a0, [])) := by kernel_rfl
noncomputable def refWhyF_s4 {R : Type}  (c0 : Int → Option R) : Option R :=
  c0 0
theorem refWhyF_s4_eq (fuel : Nat)   : (kont (fnX Tryd.prog mode7 T_Nought fuel 29 0) (bodyOf Tryd.prog 83) [1, 1, 0, 1, 0] 16 (endK Tryd.prog 0 0 83)) (.exit 0) ⟨[(4, vI 0)], [], 0, none⟩ = refWhyF_s4  (fun a0 => some (vI a0, [])) := by kernel_rfl
noncomputable def refWhyF_s1 {R : Type} (n : Int) (l : List ByteArray) (c0 : Int → Option R) (c1 : Int → Int → Option R) : Option R :=
  br (decide (n < 0))
    (c0 2)
    (br (decide (n > 64))
      (c0 2)
      (br (decide ((((l.length : Nat) : Int) : Int) > 64))
        (c0 2)
        (c1 ((l.length : Nat) : Int) 0)))
theorem refWhyF_s1_eq (fuel : Nat)  (n : Int) (l : List ByteArray) : callN Tryd.prog mode7 T_Nought fuel 83 [vI n, .ls l] [] = refWhyF_s1 n l (fun a1 => some (vI a1, [])) (fun a0 a2 => lpN (sub (bodyOf Tryd.prog 83) [1, 1, 0, 1, 0, 0]) (fnX Tryd.prog mode7 T_Nought fuel 29 0) 16 [0, 4, 18, 19, 20] fuel ⟨[(0, vI n), (4, vI 0), (18, .ls l), (19, vI a0), (20, vI a2)], [], 0, none⟩ (kont (fnX Tryd.prog mode7 T_Nought fuel 29 0) (bodyOf Tryd.prog 83) [1, 1, 0, 1, 0] 16 (endK Tryd.prog 0 0 83))) := by kernel_rfl
noncomputable def refWhyF {R : Type} (fuel : Nat) (n : Int) (l : List ByteArray) (r0 : Int → Option R) : Option R :=
  (refWhyF_s1 n l (fun a1 => r0 a1) (fun a0 a2 => (refWhyF_l1 fuel n l ((refWhyF_s3 (fun a3 => r0 a3))) ((refWhyF_s4 (fun a4 => r0 a4))) fuel a0 a2)))
theorem refWhyF_eq (fuel : Nat) (n : Int) (l : List ByteArray) : callN Tryd.prog mode7 T_Nought fuel 83 [.s (.int .i64 n), .ls l] [] = refWhyF fuel n l (fun z0 => some (.s (.int .i64 z0), [])) := by
  unfold refWhyF
  exact (refWhyF_s1_eq fuel  n l).trans (congr (congr (Eq.refl (refWhyF_s1 (R := Out) n l)) (rfl)) (funext fun a0 => funext fun a1 => (refWhyF_l1_eq fuel n l (kont (fnX Tryd.prog mode7 T_Nought fuel 29 0) (bodyOf Tryd.prog 83) [1, 1, 0, 1, 0] 16 (endK Tryd.prog 0 0 83)) fuel a0 a1).trans (congrFun (congrFun (congrFun (congr (congr (Eq.refl (refWhyF_l1 (R := Out) fuel n l)) ((refWhyF_s3_eq fuel  ))) ((refWhyF_s4_eq fuel  ))) fuel) a0) a1)))
theorem refWhy_loop {R : Type} (fuel : Nat) (n : Int) (l : List ByteArray) (hx : l.length ≤ 1000000) (k0 k1 : Option R) : ∀ (k j : Nat), j ≤ l.length → l.length < j + k → refWhyF_l1 fuel n l k0 k1 k (l.length : Int) (j : Int) = if (∀ s ∈ l.drop j, (s.size : Int) = n) then k1 else k0
  | 0, j, h1, h2 => by omega
  | k + 1, j, h1, h2 => by
    unfold refWhyF_l1 refWhyF_s2
    rw [br_if]
    by_cases hc : j < l.length
    · rw [if_pos (by simpa using hc), bnd_of ((ix_nat l j).trans (List.getElem?_eq_getElem hc)), br_if, List.drop_eq_getElem_cons hc, wrap_i64 (by omega) (by omega), show (j : Int) + 1 = ((j + 1 : Nat) : Int) by omega]
      dsimp only
      rw [refWhy_loop fuel n l hx k0 k1 k (j + 1) (by omega) (by omega)]
      generalize l[j] = x
      generalize l.drop (j + 1) = t
      by_cases he : ((x.size : Nat) : Int) = n <;> simp [he]
    · rw [if_neg (by simpa using hc), List.drop_eq_nil_of_le (by omega)]
      simp
theorem refWhy_fact (n : Int) (l : List ByteArray) : Fact Tryd.prog noG 83 [.s (.int .i64 n), .ls l] [] (.s (.int .i64 (errB n l)), []) := by
  refine callN_fact hN hM T_Nought_ok (n := 66) (mode := mode7) ?_
  rw [refWhyF_eq]
  unfold refWhyF refWhyF_s1 errB
  have hno : ∀ h : ¬ bok n l = true, bok n l = false := fun h => by rw [Bool.eq_false_iff]; exact h
  rw [br_if]
  by_cases h0 : n < 0
  · rw [if_pos (by simpa using h0), hno fun h => by have := (bok_iff.1 h).1; omega]; rfl
  · rw [if_neg (by simpa using h0), br_if]
    by_cases h1 : n > 64
    · rw [if_pos (by simpa using h1), hno fun h => by have := (bok_iff.1 h).1; omega]; rfl
    · rw [if_neg (by simpa using h1), br_if]
      by_cases hx : l.length ≤ 64
      · rw [if_neg (by simp; omega)]
        have := refWhy_loop (R := Out) 66 n l (by omega)
        dsimp only
        rw [show (0 : Int) = ((0 : Nat) : Int) from rfl, this _ _ 66 0 (by omega) (by omega), List.drop_zero]
        by_cases ha : ∀ s ∈ l, (s.size : Int) = n
        · rw [if_pos ha, if_pos (bok_iff.2 ⟨⟨by omega, by omega⟩, hx, ha⟩)]; rfl
        · rw [if_neg ha, hno fun h => ha (bok_iff.1 h).2.2]; rfl
      · rw [if_pos (by simp; omega), hno fun h => hx (bok_iff.1 h).2.1]; rfl
noncomputable def refWhy_ent : List V → List Blk → Option (Bool × Out)
  | [.s (.int .i64 n), w0], [] => (asSl .str w0).bind fun l => some (true, (.s (.int .i64 (errB n l)), []))
  | _, _ => none
theorem refWhy_ok : ∀ args bs out, refWhy_ent args bs = some (true, out) → Fact Tryd.prog noG 83 args bs out := by
  intro args bs out h
  unfold refWhy_ent at h
  split at h
  · rename_i n w0
    obtain ⟨l, h_l, h⟩ := Option.bind_eq_some_iff.1 h
    simp only [Option.some.injEq, Prod.mk.injEq] at h
    obtain ⟨_, rfl⟩ := h
    exact (refWhy_fact n l).args (fun _ _ _ => fun _ h => RVs_two (fun _ h => h) (fun _ h => RVs_two (fun _ h => RV_ls h_l h) (fun _ h => h) h) h)
  · cases h
noncomputable def T_refWhy : Tbl := Tbl.cons 83 refWhy_ent T_Nought
theorem T_refWhy_ok : CallOk Tryd.prog noG T_refWhy := cons_ok T_Nought_ok refWhy_ok
/-! downpour/downpourref02.Texts -/
noncomputable abbrev qb2 (fuel : Nat) : Ctx Out := (fnX Tryd.prog mode7 T_refWhy fuel 26 0)
noncomputable def refTextsF_s2 {R : Type} (w6 w5 : Int) (a b : List ByteArray) (c0 : Option R) (c1 : Int → Int → Option R) (c2 : Option R) : Option R :=
  br (decide (w6 < w5))
    (bnd (ix a w6) fun e9 =>
    bnd (ix b w6) fun e0 =>
    br (!(eqS e9 e0))
      (c0)
      (c1 w5 (IntKind.i64.wrap (w6 + 1))))
    (c2)
theorem refTextsF_s2_eq (fuel k : Nat) (K : Ex → St → Option Out) (w6 w5 : Int) (a b : List ByteArray) : lpN (sub (bodyOf Tryd.prog 37) [1, 1, 0, 1, 0, 0]) (qb2 fuel) 16 [0, 1, 4, 12, 13] (k + 1) ⟨[(0, .ls a), (1, .ls b), (4, vB false), (12, vI w5), (13, vI w6)], [], 0, none⟩ K = refTextsF_s2 w6 w5 a b (K .ret ⟨[(4, vB false)], [], 0, none⟩) (fun a0 a1 => lpN (sub (bodyOf Tryd.prog 37) [1, 1, 0, 1, 0, 0]) (qb2 fuel) 16 [0, 1, 4, 12, 13] k ⟨[(0, .ls a), (1, .ls b), (4, vB false), (12, vI a0), (13, vI a1)], [], 0, none⟩ K) (K (.exit 0) ⟨[(4, vB false)], [], 0, none⟩) := by kernel_rfl
noncomputable def refTextsF_l1 {R : Type} (fuel : Nat) (a b : List ByteArray) (k0 k1 : Option R) : Nat → Int → Int → Option R
  | 0, _, _ => none
  | k + 1, w5, w6 =>
    (refTextsF_s2 w6 w5 a b (k0) (fun a0 a1 => ( refTextsF_l1 fuel a b k0 k1 k a0 a1 )) (k1))
theorem refTextsF_l1_eq (fuel : Nat) (a b : List ByteArray) (K : Ex → St → Option Out) : ∀ (k : Nat) (w5 w6 : Int), lpN (sub (bodyOf Tryd.prog 37) [1, 1, 0, 1, 0, 0]) (qb2 fuel) 16 [0, 1, 4, 12, 13] k ⟨[(0, .ls a), (1, .ls b), (4, vB false), (12, vI w5), (13, vI w6)], [], 0, none⟩ K = refTextsF_l1 fuel a b (K .ret ⟨[(4, vB false)], [], 0, none⟩) (K (.exit 0) ⟨[(4, vB false)], [], 0, none⟩) k w5 w6
  | 0, _, _ => rfl
  | k + 1, w5, w6 => by
    unfold refTextsF_l1
    exact (refTextsF_s2_eq fuel k K w6 w5 a b).trans (congr (congr (congr (Eq.refl (refTextsF_s2 (R := Out) w6 w5 a b)) (rfl)) (funext fun a0 => funext fun a1 => refTextsF_l1_eq fuel a b K k a0 a1)) (rfl))
noncomputable def refTextsF_s3 {R : Type}  (c0 : Bool → Option R) : Option R :=
  c0 false
theorem refTextsF_s3_eq (fuel : Nat)   : (kont (qb2 fuel) (bodyOf Tryd.prog 37) [1, 1, 0, 1, 0] 16 (endK Tryd.prog 0 0 37)) .ret ⟨[(4, vB false)], [], 0, none⟩ = refTextsF_s3  (fun a0 => some (vB a0, [])) := by kernel_rfl
noncomputable def refTextsF_s4 {R : Type}  (c0 : Bool → Option R) : Option R :=
  c0 true
theorem refTextsF_s4_eq (fuel : Nat)   : (kont (qb2 fuel) (bodyOf Tryd.prog 37) [1, 1, 0, 1, 0] 16 (endK Tryd.prog 0 0 37)) (.exit 0) ⟨[(4, vB false)], [], 0, none⟩ = refTextsF_s4  (fun a0 => some (vB a0, [])) := by kernel_rfl
noncomputable def refTextsF_s1 {R : Type} (a b : List ByteArray) (c0 : Bool → Option R) (c1 : Int → Int → Option R) : Option R :=
  br ((((a.length : Nat) : Int) : Int) != ((b.length : Nat) : Int))
    (c0 false)
    (c1 ((a.length : Nat) : Int) 0)
theorem refTextsF_s1_eq (fuel : Nat)  (a b : List ByteArray) : callN Tryd.prog mode7 T_refWhy fuel 37 [.ls a, .ls b] [] = refTextsF_s1 a b (fun a1 => some (vB a1, [])) (fun a0 a2 => lpN (sub (bodyOf Tryd.prog 37) [1, 1, 0, 1, 0, 0]) (qb2 fuel) 16 [0, 1, 4, 12, 13] fuel ⟨[(0, .ls a), (1, .ls b), (4, vB false), (12, vI a0), (13, vI a2)], [], 0, none⟩ (kont (qb2 fuel) (bodyOf Tryd.prog 37) [1, 1, 0, 1, 0] 16 (endK Tryd.prog 0 0 37))) := by kernel_rfl
noncomputable def refTextsF {R : Type} (fuel : Nat) (a b : List ByteArray) (r0 : Bool → Option R) : Option R :=
  (refTextsF_s1 a b (fun a1 => r0 a1) (fun a0 a2 => (refTextsF_l1 fuel a b ((refTextsF_s3 (fun a3 => r0 a3))) ((refTextsF_s4 (fun a4 => r0 a4))) fuel a0 a2)))
theorem refTextsF_eq (fuel : Nat) (a b : List ByteArray) : callN Tryd.prog mode7 T_refWhy fuel 37 [.ls a, .ls b] [] = refTextsF fuel a b (fun z0 => some (.s (.bool z0), [])) := by
  unfold refTextsF
  exact (refTextsF_s1_eq fuel  a b).trans (congr (congr (Eq.refl (refTextsF_s1 (R := Out) a b)) (rfl)) (funext fun a0 => funext fun a1 => (refTextsF_l1_eq fuel a b (kont (qb2 fuel) (bodyOf Tryd.prog 37) [1, 1, 0, 1, 0] 16 (endK Tryd.prog 0 0 37)) fuel a0 a1).trans (congrFun (congrFun (congrFun (congr (congr (Eq.refl (refTextsF_l1 (R := Out) fuel a b)) ((refTextsF_s3_eq fuel  ))) ((refTextsF_s4_eq fuel  ))) fuel) a0) a1)))
theorem refTexts_loop {R : Type} (fuel : Nat) (a b : List ByteArray) (hab : a.length = b.length) (hx : a.length ≤ 1000000) (k0 k1 : Option R) : ∀ (k j : Nat), j ≤ a.length → a.length < j + k → refTextsF_l1 fuel a b k0 k1 k (a.length : Int) (j : Int) = if a.drop j = b.drop j then k1 else k0
  | 0, j, h1, h2 => by omega
  | k + 1, j, h1, h2 => by
    unfold refTextsF_l1 refTextsF_s2
    rw [br_if]
    by_cases hc : j < a.length
    · have hc2 : j < b.length := by omega
      rw [if_pos (by simpa using hc), bnd_of ((ix_nat a j).trans (List.getElem?_eq_getElem hc)), bnd_of ((ix_nat b j).trans (List.getElem?_eq_getElem hc2)), br_if, List.drop_eq_getElem_cons hc, List.drop_eq_getElem_cons hc2, wrap_i64 (by omega) (by omega), show (j : Int) + 1 = ((j + 1 : Nat) : Int) by omega, eqS_decide]
      dsimp only
      rw [refTexts_loop fuel a b hab hx k0 k1 k (j + 1) (by omega) (by omega)]
      generalize a[j] = x
      generalize b[j] = y
      generalize a.drop (j + 1) = t
      generalize b.drop (j + 1) = u
      by_cases he : x = y <;> simp [he]
    · rw [if_neg (by simpa using hc), List.drop_eq_nil_of_le (by omega), List.drop_eq_nil_of_le (by omega)]
      simp
theorem refTexts_fact (a : List ByteArray) (b : List ByteArray) (hg : (decide (a.length ≤ 1000000)) = true) : Fact Tryd.prog noG 37 [.ls a, .ls b] [] (.s (.bool (eqTS a b)), []) := by
  have hg := of_decide_eq_true hg
  refine callN_fact hN hM T_refWhy_ok (n := a.length + 1) (mode := mode7) ?_
  rw [refTextsF_eq]
  unfold refTextsF refTextsF_s1
  rw [br_if, eqTS_eq]
  unfold eqTI
  by_cases hab : a.length = b.length
  · rw [if_neg (by simp; omega)]
    dsimp only
    have := refTexts_loop (R := Out) (a.length + 1) a b hab hg
    rw [show (0 : Int) = ((0 : Nat) : Int) from rfl, this _ _ _ _ (by omega) (by omega), List.drop_zero, List.drop_zero]
    unfold refTextsF_s3 refTextsF_s4
    by_cases h : a = b <;> simp [h]
  · rw [if_pos (by simp; omega)]
    have : a ≠ b := by rintro rfl; exact hab rfl
    simp [this]
noncomputable def refTexts_ent : List V → List Blk → Option (Bool × Out)
  | [w0, w1], [] => (asSl .str w0).bind fun a => (asSl .str w1).bind fun b => some ((decide (a.length ≤ 1000000)), (.s (.bool (eqTS a b)), []))
  | _, _ => none
theorem refTexts_ok : ∀ args bs out, refTexts_ent args bs = some (true, out) → Fact Tryd.prog noG 37 args bs out := by
  intro args bs out h
  unfold refTexts_ent at h
  split at h
  · rename_i w0 w1
    obtain ⟨a, h_a, h⟩ := Option.bind_eq_some_iff.1 h
    obtain ⟨b, h_b, h⟩ := Option.bind_eq_some_iff.1 h
    simp only [Option.some.injEq, Prod.mk.injEq] at h
    obtain ⟨hg, rfl⟩ := h
    exact (refTexts_fact a b hg).args (fun _ _ _ => fun _ h => RVs_two (fun _ h => RV_ls h_a h) (fun _ h => RVs_two (fun _ h => RV_ls h_b h) (fun _ h => h) h) h)
  · cases h
noncomputable def T_refTexts : Tbl := Tbl.cons 37 refTexts_ent T_refWhy
theorem T_refTexts_ok : CallOk Tryd.prog noG T_refTexts := cons_ok T_refWhy_ok refTexts_ok
def mode8 : FuncId → Nat := fun f => bif Nat.beq f 161 then 2 else 0
/-! Counts, the other's bits, first places. -/
def popI (x : Int) : Int := ((Pop.cnt 64 x.toNat : Nat) : Int)
noncomputable def popS : Int → Int := Classical.choose (⟨popI, rfl⟩ : ∃ f, f = popI)
theorem popS_eq : popS = popI := Classical.choose_spec (⟨popI, rfl⟩ : ∃ f, f = popI)
noncomputable def xorEI (n : Int) (a : List Int) (m : Int) (b : List Int) : Int := if rtS n a = true ∧ rtS m b = true then (if n = m then 0 else 2) else 1
noncomputable def xorE : Int → List Int → Int → List Int → Int := Classical.choose (⟨xorEI, rfl⟩ : ∃ f, f = xorEI)
theorem xorE_eq : xorE = xorEI := Classical.choose_spec (⟨xorEI, rfl⟩ : ∃ f, f = xorEI)
noncomputable def xorNI (n : Int) (a : List Int) (m : Int) (b : List Int) : Int := if xorE n a m b = 0 then n else 0
noncomputable def xorN : Int → List Int → Int → List Int → Int := Classical.choose (⟨xorNI, rfl⟩ : ∃ f, f = xorNI)
theorem xorN_eq : xorN = xorNI := Classical.choose_spec (⟨xorNI, rfl⟩ : ∃ f, f = xorNI)
noncomputable def xorWI (n : Int) (a : List Int) (m : Int) (b : List Int) : List Int := if xorE n a m b = 0 then a.zipWith (fun x y => xorI .u64 x y) b else []
noncomputable def xorW : Int → List Int → Int → List Int → List Int := Classical.choose (⟨xorWI, rfl⟩ : ∃ f, f = xorWI)
theorem xorW_eq : xorW = xorWI := Classical.choose_spec (⟨xorWI, rfl⟩ : ∃ f, f = xorWI)
noncomputable def fstI (n : Int) (ws : List Int) : Int := if rtS n ws = true then (plS ws).headD 0 else 0
noncomputable def fstS : Int → List Int → Int := Classical.choose (⟨fstI, rfl⟩ : ∃ f, f = fstI)
theorem fstS_eq : fstS = fstI := Classical.choose_spec (⟨fstI, rfl⟩ : ∃ f, f = fstI)
noncomputable def fstEI (n : Int) (ws : List Int) : Int := if rtS n ws = true then (if (plS ws).length = 0 then 4 else 0) else 1
noncomputable def fstE : Int → List Int → Int := Classical.choose (⟨fstEI, rfl⟩ : ∃ f, f = fstEI)
theorem fstE_eq : fstE = fstEI := Classical.choose_spec (⟨fstEI, rfl⟩ : ∃ f, f = fstEI)
def plcRI (n : Int) (ws : List Int) : List Int := plc (val ws) n.toNat
noncomputable def plcR : Int → List Int → List Int := Classical.choose (⟨plcRI, rfl⟩ : ∃ f, f = plcRI)
theorem plcR_eq : plcR = plcRI := Classical.choose_spec (⟨plcRI, rfl⟩ : ∃ f, f = plcRI)
theorem plc_length (v n : Nat) : (plc v n).length = Pop.cnt n v := by
  induction n with
  | zero => simp [plc, Pop.cnt]
  | succ n ih =>
    rw [plc_succ, List.length_append, ih, Pop.cnt_snoc]
    by_cases h : v.testBit n = true
    · rw [if_pos h, if_pos h]; rfl
    · rw [if_neg h, if_neg h]; rfl
theorem plc_head {v n : Nat} (h : plc v n ≠ []) : 0 ≤ (plc v n).headD 0 ∧ (plc v n).headD 0 < (n : Int) := by
  cases hl : plc v n with
  | nil => exact absurd hl h
  | cons x t =>
    obtain ⟨i, h1, h2, rfl⟩ := (mem_plc v n x).1 (by rw [hl]; exact List.mem_cons_self)
    show (0 : Int) ≤ (i : Int) ∧ (i : Int) < (n : Int)
    omega
theorem pl_val {n : Int} {ws : List Int} (hok : okW ws = true) (h : rtS n ws = true) : plS ws = plcR n ws := by rw [pl_plc hok h, plcR_eq]; rfl
theorem rt_lens {n : Int} {ws : List Int} (h : rtS n ws = true) : ws.length = nw n := (rtS_iff.1 h).2.1
theorem rt_le {n : Int} {ws : List Int} (h : rtS n ws = true) : ws.length ≤ 8 := by rw [rt_lens h]; exact nw_le (rtS_iff.1 h).1.2
theorem rt_lt {n : Int} {ws : List Int} (h : rtS n ws = true) : val ws < 2 ^ n.toNat := (rtS_iff.1 h).2.2
theorem zw_getD {a b : List Int} (hl : a.length = b.length) {j : Nat} (hj : j < a.length) : (a.zipWith (fun x y => xorI .u64 x y) b).getD j 0 = xorI .u64 (a.getD j 0) (b.getD j 0) := by
  rw [List.getD_eq_getElem?_getD, List.getElem?_zipWith, List.getElem?_eq_getElem hj, List.getElem?_eq_getElem (by omega), List.getD_eq_getElem?_getD, List.getD_eq_getElem?_getD, List.getElem?_eq_getElem hj, List.getElem?_eq_getElem (by omega)]
  rfl
theorem xorE_ok {n m : Int} {a b : List Int} (h : rtS n a = true) (g : rtS m b = true) (e : n = m) : xorE n a m b = 0 := by rw [xorE_eq]; unfold xorEI; rw [if_pos ⟨h, g⟩, if_pos e]
/-- The xor of two rows that may be. -/
theorem xor_val {n m : Int} {a b : List Int} (ha : okW a = true) (hb : okW b = true) (h : rtS n a = true) (g : rtS m b = true) (e : n = m) : Ok (xorW n a m b) ∧ val (xorW n a m b) = val a ^^^ val b ∧ (xorW n a m b).length = nw n := by
  have hl : a.length = b.length := by rw [rt_lens h, rt_lens g, e]
  have hz : (a.zipWith (fun x y => xorI .u64 x y) b).length = a.length := by rw [List.length_zipWith]; omega
  rw [xorW_eq]; unfold xorWI
  rw [if_pos (xorE_ok h g e)]
  have := val_zip (f := fun x y => x ^^^ y) (g := fun x y => x ^^ y) (fun x y i => Nat.testBit_xor ..) (fun x y hx hy => Nat.xor_lt_two_pow hx hy) rfl (okW_iff.1 ha) (okW_iff.1 hb) hl _ hz (fun j hj => by
    rw [zw_getD hl hj]
    have h1 := (okW_iff.1 ha).getD j
    have h2 := (okW_iff.1 hb).getD j
    exact xorI_nat h1.1 h1.2 h2.1 h2.2)
  exact ⟨this.1, this.2, by rw [hz]; exact rt_lens h⟩
theorem xor_rt {n m : Int} {a b : List Int} (ha : okW a = true) (hb : okW b = true) (h : rtS n a = true) (g : rtS m b = true) (e : n = m) : okW (xorW n a m b) = true ∧ rtS n (xorW n a m b) = true ∧ xorN n a m b = n := by
  obtain ⟨h1, h2, h3⟩ := xor_val ha hb h g e
  subst e
  refine ⟨okW_iff.2 h1, rtS_iff.2 ⟨(rtS_iff.1 h).1, h3, ?_⟩, ?_⟩
  · rw [h2]; exact Nat.xor_lt_two_pow (rt_lt h) (rt_lt g)
  · rw [xorN_eq]; unfold xorNI; rw [if_pos (xorE_ok h g rfl)]
/-! math/bits.OnesCount64 -/
noncomputable def popF_s1 {R : Type} (x : Int) (c0 : Int → Option R) : Option R :=
  bnd (shfI .shr .u64 x 1) fun v1 =>
  bnd (shfI .shr .u64 (IntKind.u64.wrap ((andI .u64 v1 6148914691236517205) + (andI .u64 x 6148914691236517205))) 2) fun v2 =>
  bnd (shfI .shr .u64 (IntKind.u64.wrap ((andI .u64 v2 3689348814741910323) + (andI .u64 (IntKind.u64.wrap ((andI .u64 v1 6148914691236517205) + (andI .u64 x 6148914691236517205))) 3689348814741910323))) 4) fun v3 =>
  bnd (shfI .shr .u64 (andI .u64 (IntKind.u64.wrap (v3 + (IntKind.u64.wrap ((andI .u64 v2 3689348814741910323) + (andI .u64 (IntKind.u64.wrap ((andI .u64 v1 6148914691236517205) + (andI .u64 x 6148914691236517205))) 3689348814741910323))))) 1085102592571150095) 8) fun v4 =>
  bnd (shfI .shr .u64 (IntKind.u64.wrap ((andI .u64 (IntKind.u64.wrap (v3 + (IntKind.u64.wrap ((andI .u64 v2 3689348814741910323) + (andI .u64 (IntKind.u64.wrap ((andI .u64 v1 6148914691236517205) + (andI .u64 x 6148914691236517205))) 3689348814741910323))))) 1085102592571150095) + v4)) 16) fun v5 =>
  bnd (shfI .shr .u64 (IntKind.u64.wrap ((IntKind.u64.wrap ((andI .u64 (IntKind.u64.wrap (v3 + (IntKind.u64.wrap ((andI .u64 v2 3689348814741910323) + (andI .u64 (IntKind.u64.wrap ((andI .u64 v1 6148914691236517205) + (andI .u64 x 6148914691236517205))) 3689348814741910323))))) 1085102592571150095) + v4)) + v5)) 32) fun v6 =>
  c0 (andI .i64 (IntKind.i64.wrap (IntKind.u64.wrap ((IntKind.u64.wrap ((IntKind.u64.wrap ((andI .u64 (IntKind.u64.wrap (v3 + (IntKind.u64.wrap ((andI .u64 v2 3689348814741910323) + (andI .u64 (IntKind.u64.wrap ((andI .u64 v1 6148914691236517205) + (andI .u64 x 6148914691236517205))) 3689348814741910323))))) 1085102592571150095) + v4)) + v5)) + v6))) 127)
theorem popF_s1_eq (fuel : Nat)  (x : Int) : callN Tryd.prog mode8 T_refTexts fuel 130 [vU x] [] = popF_s1 x (fun a7 => some (vI a7, [])) := by kernel_rfl
noncomputable def popF {R : Type} (fuel : Nat) (x : Int) (r0 : Int → Option R) : Option R :=
  (popF_s1 x (fun a7 => r0 a7))
theorem popF_eq (fuel : Nat) (x : Int) : callN Tryd.prog mode8 T_refTexts fuel 130 [.s (.int .u64 x)] [] = popF fuel x (fun z0 => some (.s (.int .i64 z0), [])) := by
  unfold popF
  exact (popF_s1_eq fuel  x)
theorem mk85 : (6148914691236517205 : Int) = ((Pop.mk 85 8 : Nat) : Int) := by decide +kernel
theorem mk51 : (3689348814741910323 : Int) = ((Pop.mk 51 8 : Nat) : Int) := by decide +kernel
theorem mk15 : (1085102592571150095 : Int) = ((Pop.mk 15 8 : Nat) : Int) := by decide +kernel
theorem mk85n : Pop.mk 85 8 = 6148914691236517205 := by decide +kernel
theorem mk51n : Pop.mk 51 8 = 3689348814741910323 := by decide +kernel
theorem mk15n : Pop.mk 15 8 = 1085102592571150095 := by decide +kernel
theorem and_u {a b : Nat} (ha : a < 18446744073709551616) (hb : b < 18446744073709551616) : andI .u64 (a : Int) (b : Int) = ((a &&& b : Nat) : Int) := by
  rw [andI_nat (by omega) (by omega) (by omega) (by omega), Int.toNat_natCast, Int.toNat_natCast]
theorem and_127 {c : Nat} (hc : c < 9223372036854775808) : andI .i64 (c : Int) 127 = ((c % 128 : Nat) : Int) := by
  have h : andI .i64 (c : Int) 127 = IntKind.i64.wrap ((BitVec.ofInt 64 (c : Int) &&& BitVec.ofInt 64 127).toNat : Int) := rfl
  have e1 : (BitVec.ofInt 64 (c : Int)).toNat = c := by rw [ofInt_nat (by omega) (by omega), Int.toNat_natCast]
  have e2 : (BitVec.ofInt 64 127).toNat = 127 := rfl
  have hm := Nat.and_two_pow_sub_one_eq_mod c 7
  rw [show (2 ^ 7 - 1 : Nat) = 127 from rfl, show (2 ^ 7 : Nat) = 128 from rfl] at hm
  rw [h, BitVec.toNat_and, e1, e2, hm]
  exact wrap_i64 (by omega) (by omega)
theorem pop_fact (x : Int) (hg : (decide (0 ≤ x) && decide (x < 18446744073709551616)) = true) : Fact Tryd.prog noG 130 [.s (.int .u64 x)] [] (.s (.int .i64 (popS x)), []) := by
  simp only [Bool.and_eq_true, decide_eq_true_eq] at hg
  obtain ⟨x, rfl⟩ : ∃ m : Nat, x = (m : Int) := ⟨x.toNat, by omega⟩
  have hx : x < 18446744073709551616 := by omega
  refine callN_fact hN hM T_refTexts_ok (n := 0) (mode := mode8) ?_
  rw [popF_eq]
  unfold popF popF_s1
  obtain ⟨a, b, c, ha, hb, hc, hc1, hc2⟩ := Pop.full_sum x hx
  have l1 : (x / 2 &&& Pop.mk 85 8) ≤ 6148914691236517205 := Nat.le_trans Nat.and_le_right (Nat.le_of_eq mk85n)
  have l2 : (x &&& Pop.mk 85 8) ≤ 6148914691236517205 := Nat.le_trans Nat.and_le_right (Nat.le_of_eq mk85n)
  have l3 : (Pop.s1 8 x / 4 &&& Pop.mk 51 8) ≤ 3689348814741910323 := Nat.le_trans Nat.and_le_right (Nat.le_of_eq mk51n)
  have l4 : (Pop.s1 8 x &&& Pop.mk 51 8) ≤ 3689348814741910323 := Nat.le_trans Nat.and_le_right (Nat.le_of_eq mk51n)
  have l5 : Pop.full 8 x ≤ 1085102592571150095 := Nat.le_trans Nat.and_le_right (Nat.le_of_eq mk15n)
  have b1 : Pop.s1 8 x < 18446744073709551616 := by unfold Pop.s1; omega
  have b2 : Pop.s2 8 (Pop.s1 8 x) ≤ 7378697629483820646 := by unfold Pop.s2; omega
  have d1 : shfI .shr .u64 ((x : Nat) : Int) 1 = some ((x / 2 : Nat) : Int) := by rw [shr_u64 (c := 2) (by decide) (by decide)]; congr 1
  have e1 : andI .u64 ((x / 2 : Nat) : Int) 6148914691236517205 = ((x / 2 &&& Pop.mk 85 8 : Nat) : Int) := by
    rw [mk85]; exact and_u (by omega) (by rw [mk85n]; omega)
  have e2 : andI .u64 (x : Int) 6148914691236517205 = ((x &&& Pop.mk 85 8 : Nat) : Int) := by
    rw [mk85]; exact and_u hx (by rw [mk85n]; omega)
  have e3 : IntKind.u64.wrap (((x / 2 &&& Pop.mk 85 8 : Nat) : Int) + ((x &&& Pop.mk 85 8 : Nat) : Int)) = ((Pop.s1 8 x : Nat) : Int) := by
    rw [show ((x / 2 &&& Pop.mk 85 8 : Nat) : Int) + ((x &&& Pop.mk 85 8 : Nat) : Int) = ((Pop.s1 8 x : Nat) : Int) by unfold Pop.s1; norm_cast]; exact wrap_nat b1
  rw [bnd_of d1, e1, e2, e3]
  generalize hy : Pop.s1 8 x = y at *
  have d2 : shfI .shr .u64 ((y : Nat) : Int) 2 = some ((y / 4 : Nat) : Int) := by rw [shr_u64 (c := 4) (by decide) (by decide)]; congr 1
  have e4 : andI .u64 ((y / 4 : Nat) : Int) 3689348814741910323 = ((y / 4 &&& Pop.mk 51 8 : Nat) : Int) := by
    rw [mk51]; exact and_u (by omega) (by rw [mk51n]; omega)
  have e5 : andI .u64 (y : Int) 3689348814741910323 = ((y &&& Pop.mk 51 8 : Nat) : Int) := by
    rw [mk51]; exact and_u b1 (by rw [mk51n]; omega)
  have e6 : IntKind.u64.wrap (((y / 4 &&& Pop.mk 51 8 : Nat) : Int) + ((y &&& Pop.mk 51 8 : Nat) : Int)) = ((Pop.s2 8 y : Nat) : Int) := by
    rw [show ((y / 4 &&& Pop.mk 51 8 : Nat) : Int) + ((y &&& Pop.mk 51 8 : Nat) : Int) = ((Pop.s2 8 y : Nat) : Int) by unfold Pop.s2; norm_cast]; exact wrap_nat (by omega)
  rw [bnd_of d2, e4, e5, e6]
  generalize hz : Pop.s2 8 y = z at *
  have d3 : shfI .shr .u64 ((z : Nat) : Int) 4 = some ((z / 16 : Nat) : Int) := by rw [shr_u64 (c := 16) (by decide) (by decide)]; congr 1
  have e7 : IntKind.u64.wrap (((z / 16 : Nat) : Int) + (z : Int)) = ((z / 16 + z : Nat) : Int) := by
    rw [show ((z / 16 : Nat) : Int) + (z : Int) = ((z / 16 + z : Nat) : Int) by norm_cast]; exact wrap_nat (by omega)
  have hf : Pop.full 8 x = (z / 16 + z) &&& Pop.mk 15 8 := by unfold Pop.full Pop.s3; rw [hy, hz]
  have e8 : andI .u64 ((z / 16 + z : Nat) : Int) 1085102592571150095 = ((Pop.full 8 x : Nat) : Int) := by
    rw [mk15, hf]; exact and_u (by omega) (by rw [mk15n]; omega)
  rw [bnd_of d3, e7, e8]
  generalize Pop.full 8 x = f at *
  have d4 : shfI .shr .u64 ((f : Nat) : Int) 8 = some ((f / 256 : Nat) : Int) := by rw [shr_u64 (c := 256) (by decide) (by decide)]; congr 1
  have e9 : IntKind.u64.wrap ((f : Int) + ((f / 256 : Nat) : Int)) = (a : Int) := by
    rw [show (f : Int) + ((f / 256 : Nat) : Int) = (a : Int) by rw [ha]; omega]; exact wrap_nat (by omega)
  rw [bnd_of d4, e9]
  have d5 : shfI .shr .u64 ((a : Nat) : Int) 16 = some ((a / 65536 : Nat) : Int) := by rw [shr_u64 (c := 65536) (by decide) (by decide +kernel)]; congr 1
  have e10 : IntKind.u64.wrap ((a : Int) + ((a / 65536 : Nat) : Int)) = (b : Int) := by
    rw [show (a : Int) + ((a / 65536 : Nat) : Int) = (b : Int) by rw [hb]; omega]; exact wrap_nat (by omega)
  rw [bnd_of d5, e10]
  have d6 : shfI .shr .u64 ((b : Nat) : Int) 32 = some ((b / 4294967296 : Nat) : Int) := by rw [shr_u64 (c := 4294967296) (by decide) (by decide +kernel)]; congr 1
  have e11 : IntKind.u64.wrap ((b : Int) + ((b / 4294967296 : Nat) : Int)) = (c : Int) := by
    rw [show (b : Int) + ((b / 4294967296 : Nat) : Int) = (c : Int) by rw [hc]; omega]; exact wrap_nat (by omega)
  rw [bnd_of d6, e11, wrap_i64 (by omega) (by omega), and_127 (by omega), hc2, popS_eq]
  rfl
noncomputable def pop_ent : List V → List Blk → Option (Bool × Out)
  | [.s (.int .u64 x)], [] => some ((decide (0 ≤ x) && decide (x < 18446744073709551616)), (.s (.int .i64 (popS x)), []))
  | _, _ => none
theorem pop_ok : ∀ args bs out, pop_ent args bs = some (true, out) → Fact Tryd.prog noG 130 args bs out := by
  intro args bs out h
  unfold pop_ent at h
  split at h
  · rename_i x
    simp only [Option.some.injEq, Prod.mk.injEq] at h
    obtain ⟨hg, rfl⟩ := h
    exact pop_fact x hg
  · cases h
noncomputable def T_pop : Tbl := Tbl.cons 130 pop_ent T_refTexts
theorem T_pop_ok : CallOk Tryd.prog noG T_pop := cons_ok T_refTexts_ok pop_ok
/-! downpour/bitrow.Count -/
noncomputable def CountF_s2 {R : Type} (w6 w7 : Int) (ws : List Int) (w5 : Int) (c0 : Int → Int → Int → Option R) (c1 : Int → Option R) : Option R :=
  br (decide (w6 < w7))
    (bnd (ix ws w6) fun e0 =>
    grd (decide (0 ≤ e0) && decide (e0 < 18446744073709551616)) <|
    c0 (IntKind.i64.wrap (w5 + (popS e0))) w7 (IntKind.i64.wrap (w6 + 1)))
    (c1 w5)
theorem CountF_s2_eq (fuel k : Nat) (K : Ex → St → Option Out) (w6 w7 : Int) (ws : List Int) (w5 : Int) : lpN (sub (bodyOf Tryd.prog 82) [1, 1, 1, 0, 1, 0, 0]) (fnX Tryd.prog mode8 T_pop fuel 23 0) 4194332 [2, 3, 4, 11, 12, 13] (k + 1) ⟨[(2, vI 0), (3, vI 0), (4, vI w5), (11, vW ws), (12, vI w7), (13, vI w6)], [], 0, none⟩ K = CountF_s2 w6 w7 ws w5 (fun a0 a1 a2 => lpN (sub (bodyOf Tryd.prog 82) [1, 1, 1, 0, 1, 0, 0]) (fnX Tryd.prog mode8 T_pop fuel 23 0) 4194332 [2, 3, 4, 11, 12, 13] k ⟨[(2, vI 0), (3, vI 0), (4, vI a0), (11, vW ws), (12, vI a1), (13, vI a2)], [], 0, none⟩ K) (fun a3 => K (.exit 0) ⟨[(2, vI 0), (3, vI 0), (4, vI a3)], [], 0, none⟩) := by kernel_rfl
noncomputable def CountF_l1 {R : Type} (fuel : Nat) (ws : List Int) (k0 : Int → Option R) : Nat → Int → Int → Int → Option R
  | 0, _, _, _ => none
  | k + 1, w5, w7, w6 =>
    (CountF_s2 w6 w7 ws w5 (fun a0 a1 a2 => ( CountF_l1 fuel ws k0 k a0 a1 a2 )) (fun a3 => k0 a3))
theorem CountF_l1_eq (fuel : Nat) (ws : List Int) (K : Ex → St → Option Out) : ∀ (k : Nat) (w5 w7 w6 : Int), lpN (sub (bodyOf Tryd.prog 82) [1, 1, 1, 0, 1, 0, 0]) (fnX Tryd.prog mode8 T_pop fuel 23 0) 4194332 [2, 3, 4, 11, 12, 13] k ⟨[(2, vI 0), (3, vI 0), (4, vI w5), (11, vW ws), (12, vI w7), (13, vI w6)], [], 0, none⟩ K = CountF_l1 fuel ws (fun y9 => K (.exit 0) ⟨[(2, vI 0), (3, vI 0), (4, vI y9)], [], 0, none⟩) k w5 w7 w6
  | 0, _, _, _ => rfl
  | k + 1, w5, w7, w6 => by
    unfold CountF_l1
    exact (CountF_s2_eq fuel k K w6 w7 ws w5).trans (congr (congr (Eq.refl (CountF_s2 (R := Out) w6 w7 ws w5)) (funext fun a0 => funext fun a1 => funext fun a2 => CountF_l1_eq fuel ws K k a0 a1 a2)) (rfl))
noncomputable def CountF_s3 {R : Type} (x0 : Int) (c0 : Int → Int → Option R) : Option R :=
  c0 x0 0
theorem CountF_s3_eq (fuel : Nat)  (x0 : Int) : (kont (fnX Tryd.prog mode8 T_pop fuel 23 0) (bodyOf Tryd.prog 82) [1, 1, 1, 0, 1, 0] 12 (endK Tryd.prog 0 0 82)) (.exit 0) ⟨[(2, vI 0), (3, vI 0), (4, vI x0)], [], 0, none⟩ = CountF_s3 x0 (fun a0 a1 => some (.tup [vI a0, vI a1], [])) := by kernel_rfl
noncomputable def CountF_s1 {R : Type} (ws : List Int) (n : Int) (c0 : Int → Int → Option R) (c1 : Int → Int → Int → Option R) : Option R :=
  grd (okW ws) <|
  br (!(rtS n ws))
    (c0 0 1)
    (c1 0 ((ws.length : Nat) : Int) 0)
theorem CountF_s1_eq (fuel : Nat)  (ws : List Int) (n : Int) : callN Tryd.prog mode8 T_pop fuel 82 [.agg [vI n, vW ws]] [] = CountF_s1 ws n (fun a1 a2 => some (.tup [vI a1, vI a2], [])) (fun a0 a3 a4 => lpN (sub (bodyOf Tryd.prog 82) [1, 1, 1, 0, 1, 0, 0]) (fnX Tryd.prog mode8 T_pop fuel 23 0) 4194332 [2, 3, 4, 11, 12, 13] fuel ⟨[(2, vI 0), (3, vI 0), (4, vI a0), (11, vW ws), (12, vI a3), (13, vI a4)], [], 0, none⟩ (kont (fnX Tryd.prog mode8 T_pop fuel 23 0) (bodyOf Tryd.prog 82) [1, 1, 1, 0, 1, 0] 12 (endK Tryd.prog 0 0 82))) := by kernel_rfl
noncomputable def CountF {R : Type} (fuel : Nat) (n : Int) (ws : List Int) (r0 : Int → Int → Option R) : Option R :=
  (CountF_s1 ws n (fun a1 a2 => r0 a1 a2) (fun a0 a3 a4 => (CountF_l1 fuel ws (fun x0 => (CountF_s3 x0 (fun a5 a6 => r0 a5 a6))) fuel a0 a3 a4)))
theorem CountF_eq (fuel : Nat) (n : Int) (ws : List Int) : callN Tryd.prog mode8 T_pop fuel 82 [.agg [.s (.int .i64 n), .li .u64 ws]] [] = CountF fuel n ws (fun z0 z1 => some (.tup [.s (.int .i64 z0), .s (.int .i64 z1)], [])) := by
  unfold CountF
  exact (CountF_s1_eq fuel  ws n).trans (congr (congr (Eq.refl (CountF_s1 (R := Out) ws n)) (rfl)) (funext fun a0 => funext fun a1 => funext fun a2 => (CountF_l1_eq fuel ws (kont (fnX Tryd.prog mode8 T_pop fuel 23 0) (bodyOf Tryd.prog 82) [1, 1, 1, 0, 1, 0] 12 (endK Tryd.prog 0 0 82)) fuel a0 a1 a2).trans (congrFun (congrFun (congrFun (congrFun (congr (Eq.refl (CountF_l1 (R := Out) fuel ws)) (funext fun x0 => (CountF_s3_eq fuel  x0))) fuel) a0) a1) a2)))
theorem word_at {ws : List Int} (hok : Ok ws) {i : Nat} (hi : i < ws.length) : (ws[i]).toNat = val ws / 2 ^ (64 * i) % 2 ^ 64 := by
  have := getD_words ws.length (val ws) i hi
  rw [words_val hok, List.getD_eq_getElem?_getD, List.getElem?_eq_getElem hi] at this
  have h2 : ws[i] = _ := this
  rw [h2, Int.toNat_natCast]
theorem Count_loop {R : Type} (fuel : Nat) (ws : List Int) (hok : okW ws = true) (hx : ws.length ≤ 8) (k0 : Int → Option R) : ∀ (k i : Nat), i ≤ ws.length → ws.length < i + k → CountF_l1 fuel ws k0 k ((Pop.cnt (64 * i) (val ws) : Nat) : Int) (ws.length : Int) (i : Int) = k0 ((Pop.cnt (64 * ws.length) (val ws) : Nat) : Int)
  | 0, i, h1, h2 => by omega
  | k + 1, i, h1, h2 => by
    unfold CountF_l1 CountF_s2
    rw [br_if]
    by_cases hc : i < ws.length
    · have hw := okW_iff.1 hok _ (List.getElem_mem hc)
      have e : popS ws[i] = ((Pop.cnt 64 (val ws / 2 ^ (64 * i)) : Nat) : Int) := by
        rw [popS_eq]; unfold popI; rw [word_at (okW_iff.1 hok) hc, Pop.cnt_mod]
      have c1 := Pop.cnt_le (64 * i) (val ws)
      have c2 := Pop.cnt_le 64 (val ws / 2 ^ (64 * i))
      have e2 : Pop.cnt (64 * i) (val ws) + Pop.cnt 64 (val ws / 2 ^ (64 * i)) = Pop.cnt (64 * (i + 1)) (val ws) := by rw [Nat.mul_add, Nat.mul_one, Pop.cnt_add]
      rw [if_pos (by simpa using hc), bnd_of ((ix_nat ws i).trans (List.getElem?_eq_getElem hc)), grd_of (by simp; omega), e, wrap_i64 (by omega) (by omega), wrap_i64 (by omega) (by omega), show (i : Int) + 1 = ((i + 1 : Nat) : Int) by omega, show ((Pop.cnt (64 * i) (val ws) : Nat) : Int) + ((Pop.cnt 64 (val ws / 2 ^ (64 * i)) : Nat) : Int) = ((Pop.cnt (64 * (i + 1)) (val ws) : Nat) : Int) by omega]
      exact Count_loop fuel ws hok hx k0 k (i + 1) (by omega) (by omega)
    · have e : i = ws.length := by omega
      subst e
      rw [if_neg (by simp)]
theorem Count_fact (n : Int) (ws : List Int) (hg : (okW ws) = true) : Fact Tryd.prog noG 82 [.agg [.s (.int .i64 n), .li .u64 ws]] [] (.tup [.s (.int .i64 (if rtS n ws = true then (((plS ws).length : Nat) : Int) else 0)), .s (.int .i64 (if rtS n ws = true then 0 else 1))], []) := by
  refine callN_fact hN hM T_pop_ok (n := 10) (mode := mode8) ?_
  rw [CountF_eq]
  unfold CountF CountF_s1
  rw [grd_of hg, br_if]
  by_cases h : rtS n ws = true
  · have hl := rt_le h
    obtain ⟨⟨h0, h1⟩, h2, h3⟩ := rtS_iff.1 h
    have hw := nw_cast h0
    rw [if_neg (by simp [h]), if_pos h, if_pos h]
    dsimp only
    have e0 : (0 : Int) = ((Pop.cnt (64 * 0) (val ws) : Nat) : Int) := rfl
    have := Count_loop (R := Out) 10 ws hg hl
    refine (this _ 10 0 (by omega) (by omega)).trans ?_
    unfold CountF_s3
    rw [pl_plc hg h, plc_length, Pop.cnt_above h3 (by omega)]
  · rw [if_pos (by simp [h]), if_neg h, if_neg h]
noncomputable def Count_ent : List V → List Blk → Option (Bool × Out)
  | [.agg [.s (.int .i64 n), w0]], [] => (asSl (.int .u64) w0).bind fun ws => some ((okW ws), (.tup [.s (.int .i64 (if rtS n ws = true then (((plS ws).length : Nat) : Int) else 0)), .s (.int .i64 (if rtS n ws = true then 0 else 1))], []))
  | _, _ => none
theorem Count_ok : ∀ args bs out, Count_ent args bs = some (true, out) → Fact Tryd.prog noG 82 args bs out := by
  intro args bs out h
  unfold Count_ent at h
  split at h
  · rename_i n w0
    obtain ⟨ws, h_ws, h⟩ := Option.bind_eq_some_iff.1 h
    simp only [Option.some.injEq, Prod.mk.injEq] at h
    obtain ⟨hg, rfl⟩ := h
    exact (Count_fact n ws hg).args (fun _ _ _ => fun _ h => RVs_two (fun _ h => RV_agg_two (fun _ h => RVs_two (fun _ h => h) (fun _ h => RVs_two (fun _ h => RV_li h_ws h) (fun _ h => h) h) h) h) (fun _ h => h) h)
  · cases h
noncomputable def T_Count : Tbl := Tbl.cons 82 Count_ent T_pop
theorem T_Count_ok : CallOk Tryd.prog noG T_Count := cons_ok T_pop_ok Count_ok
/-! downpour/bitrow.Xor$1 -/
noncomputable def xor1F_s1 {R : Type} (x y : Int) (c0 : Int → Option R) : Option R :=
  c0 (xorI .u64 x y)
theorem xor1F_s1_eq (fuel : Nat)  (x y : Int) : callN Tryd.prog mode8 T_Count fuel 137 [vU x, vU y] [] = xor1F_s1 x y (fun a1 => some (vU a1, [])) := by kernel_rfl
noncomputable def xor1F {R : Type} (fuel : Nat) (x y : Int) (r0 : Int → Option R) : Option R :=
  (xor1F_s1 x y (fun a1 => r0 a1))
theorem xor1F_eq (fuel : Nat) (x y : Int) : callN Tryd.prog mode8 T_Count fuel 137 [.s (.int .u64 x), .s (.int .u64 y)] [] = xor1F fuel x y (fun z0 => some (.s (.int .u64 z0), [])) := by
  unfold xor1F
  exact (xor1F_s1_eq fuel  x y)
theorem xor1_fact (x : Int) (y : Int) : Fact Tryd.prog noG 137 [.s (.int .u64 x), .s (.int .u64 y)] [] (.s (.int .u64 (xorI .u64 x y)), []) := by
  refine callN_fact hN hM T_Count_ok (n := 0) (mode := mode8) ?_
  rw [xor1F_eq]
  rfl
noncomputable def xor1_ent : List V → List Blk → Option (Bool × Out)
  | [.s (.int .u64 x), .s (.int .u64 y)], [] => some (true, (.s (.int .u64 (xorI .u64 x y)), []))
  | _, _ => none
theorem xor1_ok : ∀ args bs out, xor1_ent args bs = some (true, out) → Fact Tryd.prog noG 137 args bs out := by
  intro args bs out h
  unfold xor1_ent at h
  split at h
  · rename_i x y
    simp only [Option.some.injEq, Prod.mk.injEq] at h
    obtain ⟨_, rfl⟩ := h
    exact xor1_fact x y
  · cases h
noncomputable def T_xor1 : Tbl := Tbl.cons 137 xor1_ent T_Count
theorem T_xor1_ok : CallOk Tryd.prog noG T_xor1 := cons_ok T_Count_ok xor1_ok
/-! downpour/bitrow.joined -/
noncomputable abbrev qb3 (fuel : Nat) : Ctx Out := (fnX Tryd.prog mode8 T_xor1 fuel 54 0)
noncomputable abbrev qb4 : Code := (sub (bodyOf Tryd.prog 136) [1, 1, 1, 0, 1, 0, 0])
noncomputable def joinXF_s2 {R : Type} (w0 w1 : Int) (a b : List Int) (w2 : Nat) (w3 : List Int) (n m : Int) (c0 : Int → Int → Nat → List Int → Option R) (c1 : Nat → List Int → Option R) : Option R :=
  br (decide (w0 < w1))
    (bnd (ix a w0) fun e0 =>
    bnd (ix b w0) fun e1 =>
    bnd (below w0 w2) fun j0 =>
    bnd (w3[(0 + j0)]?) fun e2 =>
    c0 w1 (IntKind.i64.wrap (w0 + 1)) w2 (w3.set (0 + j0) (xorI .u64 e0 e1)))
    (c1 w2 w3)
theorem joinXF_s2_eq (fuel k : Nat) (K : Ex → St → Option Out) (w0 w1 : Int) (a b : List Int) (w2 : Nat) (w3 : List Int) (n m : Int) : lpN qb4 (qb3 fuel) 9007199254741440 [2, 3, 4, 6, 7, 8, 32, 33] (k + 1) ⟨[(2, .fn (.func 137) [] []), (3, .ptr 0 2 0 0), (4, .ptr 1 2 0 0), (6, .ptr 2 2 0 0), (7, vI 0), (8, .ptr 3 2 0 0), (32, vI w1), (33, vI w0)], [(0, some ⟨44, .agg [vI n, vW a], true⟩), (1, some ⟨44, .agg [vI m, vW b], true⟩), (2, some ⟨44, .agg [vI 0, vN], true⟩), (3, some ⟨44, .agg [vI n, .sl 4 1 0 w2], true⟩), (4, some ⟨79, vW w3, true⟩)], 5, none⟩ K = joinXF_s2 w0 w1 a b w2 w3 n m (fun a0 a1 a2 a3 => lpN qb4 (qb3 fuel) 9007199254741440 [2, 3, 4, 6, 7, 8, 32, 33] k ⟨[(2, .fn (.func 137) [] []), (3, .ptr 0 2 0 0), (4, .ptr 1 2 0 0), (6, .ptr 2 2 0 0), (7, vI 0), (8, .ptr 3 2 0 0), (32, vI a0), (33, vI a1)], [(0, some ⟨44, .agg [vI n, vW a], true⟩), (1, some ⟨44, .agg [vI m, vW b], true⟩), (2, some ⟨44, .agg [vI 0, vN], true⟩), (3, some ⟨44, .agg [vI n, .sl 4 1 0 a2], true⟩), (4, some ⟨79, vW a3, true⟩)], 5, none⟩ K) (fun a4 a5 => K (.exit 1) ⟨[(6, .ptr 0 2 0 0), (7, vI 0), (8, .ptr 1 2 0 0)], [(0, some ⟨44, .agg [vI 0, vN], true⟩), (1, some ⟨44, .agg [vI n, .sl 2 1 0 a4], true⟩), (2, some ⟨79, vW a5, true⟩)], 3, none⟩) := by kernel_rfl
noncomputable def joinXF_l1 {R : Type} (fuel : Nat) (n : Int) (a : List Int) (m : Int) (b : List Int) (k0 : Nat → List Int → Option R) : Nat → Int → Int → Nat → List Int → Option R
  | 0, _, _, _, _ => none
  | k + 1, w0, w1, w2, w3 =>
    (joinXF_s2 w1 w0 a b w2 w3 n m (fun a0 a1 a2 a3 => ( joinXF_l1 fuel n a m b k0 k a0 a1 a2 a3 )) (fun a4 a5 => k0 a4 a5))
theorem joinXF_l1_eq (fuel : Nat) (n : Int) (a : List Int) (m : Int) (b : List Int) (K : Ex → St → Option Out) : ∀ (k : Nat) (w0 w1 : Int) (w2 : Nat) (w3 : List Int), lpN qb4 (qb3 fuel) 9007199254741440 [2, 3, 4, 6, 7, 8, 32, 33] k ⟨[(2, .fn (.func 137) [] []), (3, .ptr 0 2 0 0), (4, .ptr 1 2 0 0), (6, .ptr 2 2 0 0), (7, vI 0), (8, .ptr 3 2 0 0), (32, vI w0), (33, vI w1)], [(0, some ⟨44, .agg [vI n, vW a], true⟩), (1, some ⟨44, .agg [vI m, vW b], true⟩), (2, some ⟨44, .agg [vI 0, vN], true⟩), (3, some ⟨44, .agg [vI n, .sl 4 1 0 w2], true⟩), (4, some ⟨79, vW w3, true⟩)], 5, none⟩ K = joinXF_l1 fuel n a m b (fun y0 y1 => K (.exit 1) ⟨[(6, .ptr 0 2 0 0), (7, vI 0), (8, .ptr 1 2 0 0)], [(0, some ⟨44, .agg [vI 0, vN], true⟩), (1, some ⟨44, .agg [vI n, .sl 2 1 0 y0], true⟩), (2, some ⟨79, vW y1, true⟩)], 3, none⟩) k w0 w1 w2 w3
  | 0, _, _, _, _ => rfl
  | k + 1, w0, w1, w2, w3 => by
    unfold joinXF_l1
    exact (joinXF_s2_eq fuel k K w1 w0 a b w2 w3 n m).trans (congr (congr (Eq.refl (joinXF_s2 (R := Out) w1 w0 a b w2 w3 n m)) (funext fun a0 => funext fun a1 => funext fun a2 => funext fun a3 => joinXF_l1_eq fuel n a m b K k a0 a1 a2 a3)) (rfl))
noncomputable def joinXF_s3 {R : Type} (n : Int) (x0 : List Int) (x1 : Nat) (c0 : Int → List Int → Int → Option R) : Option R :=
  c0 n ((x0.drop 0).take x1) 0
theorem joinXF_s3_eq (fuel : Nat)  (n : Int) (x0 : List Int) (x1 : Nat) : (kont (qb3 fuel) (bodyOf Tryd.prog 136) [1, 1, 1, 0, 1, 0] 192 (endK Tryd.prog 0 0 136)) (.exit 1) ⟨[(6, .ptr 0 2 0 0), (7, vI 0), (8, .ptr 1 2 0 0)], [(0, some ⟨44, .agg [vI 0, vN], true⟩), (1, some ⟨44, .agg [vI n, .sl 2 1 0 x1], true⟩), (2, some ⟨79, vW x0, true⟩)], 3, none⟩ = joinXF_s3 n x0 x1 (fun a0 a1 a2 => some (.tup [.agg [vI a0, vW a1], vI a2], [])) := by kernel_rfl
noncomputable def joinXF_s1 {R : Type} (a : List Int) (n : Int) (b : List Int) (m : Int) (c0 : Int → Int → Option R) (c1 : Int → Int → Nat → List Int → Option R) : Option R :=
  grd (okW a) <|
  br (!(rtS n a))
    (c0 0 1)
    (grd (okW b) <|
    br (!(rtS m b))
      (c0 0 1)
      (br (n != m)
        (c0 0 2)
        (grd (szB n) <|
        c1 (((nw n) : Nat) : Int) 0 (nw n) (zerosS (nw n)))))
theorem joinXF_s1_eq (fuel : Nat)  (a : List Int) (n : Int) (b : List Int) (m : Int) : callN Tryd.prog mode8 T_xor1 fuel 136 [.agg [vI n, vW a], .agg [vI m, vW b], .fn (.func 137) [] []] [] = joinXF_s1 a n b m (fun a1 a2 => some (.tup [.agg [vI a1, vN], vI a2], [])) (fun a0 a3 a4 a5 => lpN qb4 (qb3 fuel) 9007199254741440 [2, 3, 4, 6, 7, 8, 32, 33] fuel ⟨[(2, .fn (.func 137) [] []), (3, .ptr 0 2 0 0), (4, .ptr 1 2 0 0), (6, .ptr 2 2 0 0), (7, vI 0), (8, .ptr 3 2 0 0), (32, vI a0), (33, vI a3)], [(0, some ⟨44, .agg [vI n, vW a], true⟩), (1, some ⟨44, .agg [vI m, vW b], true⟩), (2, some ⟨44, .agg [vI 0, vN], true⟩), (3, some ⟨44, .agg [vI n, .sl 4 1 0 a4], true⟩), (4, some ⟨79, vW a5, true⟩)], 5, none⟩ (kont (qb3 fuel) (bodyOf Tryd.prog 136) [1, 1, 1, 0, 1, 0] 192 (endK Tryd.prog 0 0 136))) := by kernel_rfl
noncomputable def joinXF {R : Type} (fuel : Nat) (n : Int) (a : List Int) (m : Int) (b : List Int) (r0 : Int → Int → Option R) (r1 : Int → List Int → Int → Option R) : Option R :=
  (joinXF_s1 a n b m (fun a1 a2 => r0 a1 a2) (fun a0 a3 a4 a5 => (joinXF_l1 fuel n a m b (fun x0 x1 => (joinXF_s3 n x1 x0 (fun a6 a7 a8 => r1 a6 a7 a8))) fuel a0 a3 a4 a5)))
theorem joinXF_eq (fuel : Nat) (n : Int) (a : List Int) (m : Int) (b : List Int) : callN Tryd.prog mode8 T_xor1 fuel 136 [.agg [.s (.int .i64 n), .li .u64 a], .agg [.s (.int .i64 m), .li .u64 b], .fn (.func 137) [] []] [] = joinXF fuel n a m b (fun z0 z1 => some (.tup [.agg [.s (.int .i64 z0), .s (.slice none 0 0)], .s (.int .i64 z1)], [])) (fun z0 z1 z2 => some (.tup [.agg [.s (.int .i64 z0), .li .u64 z1], .s (.int .i64 z2)], [])) := by
  unfold joinXF
  exact (joinXF_s1_eq fuel  a n b m).trans (congr (congr (Eq.refl (joinXF_s1 (R := Out) a n b m)) (rfl)) (funext fun a0 => funext fun a1 => funext fun a2 => funext fun a3 => (joinXF_l1_eq fuel n a m b (kont (qb3 fuel) (bodyOf Tryd.prog 136) [1, 1, 1, 0, 1, 0] 192 (endK Tryd.prog 0 0 136)) fuel a0 a1 a2 a3).trans (congrFun (congrFun (congrFun (congrFun (congrFun (congr (Eq.refl (joinXF_l1 (R := Out) fuel n a m b)) (funext fun x0 => funext fun x1 => (joinXF_s3_eq fuel  n x1 x0))) fuel) a0) a1) a2) a3)))
theorem joinX_loop {R : Type} (fuel : Nat) (n m : Int) (a b : List Int) (hl : a.length = b.length) (hx : a.length ≤ 8) (z : List Int) (hz : z.length = a.length) (k0 : Nat → List Int → Option R) : ∀ (k j : Nat), j ≤ a.length → a.length < j + k → joinXF_l1 fuel n a m b k0 k (a.length : Int) (j : Int) a.length ((a.zipWith (fun x y => xorI .u64 x y) b).take j ++ z.drop j) = k0 a.length (a.zipWith (fun x y => xorI .u64 x y) b)
  | 0, j, h1, h2 => by omega
  | k + 1, j, h1, h2 => by
    have ht : (a.zipWith (fun x y => xorI .u64 x y) b).length = z.length := by rw [List.length_zipWith]; omega
    unfold joinXF_l1 joinXF_s2
    rw [br_if]
    by_cases hc : j < a.length
    · have hx8 : xorI .u64 a[j] b[j] = (a.zipWith (fun x y => xorI .u64 x y) b)[j]'(by omega) := by rw [List.getElem_zipWith]
      have eb : below (j : Int) a.length = some j := by rw [below_of (by omega) (by omega)]; rfl
      rw [if_pos (by simpa using hc), bnd_of ((ix_nat a j).trans (List.getElem?_eq_getElem hc)), bnd_of ((ix_nat b j).trans (List.getElem?_eq_getElem (by omega))), bnd_of eb, bnd_of (get_step ht (by omega)), hx8, Nat.zero_add, set_step ht (by omega), wrap_i64 (by omega) (by omega), show (j : Int) + 1 = ((j + 1 : Nat) : Int) by omega]
      exact joinX_loop fuel n m a b hl hx z hz k0 k (j + 1) (by omega) (by omega)
    · have e : j = a.length := by omega
      subst e
      rw [if_neg (by simp), List.drop_eq_nil_of_le (by omega), List.append_nil, List.take_of_length_le (by omega)]
theorem joinX_fact (n : Int) (a : List Int) (m : Int) (b : List Int) (hg : (okW a && okW b) = true) : Fact Tryd.prog noG 136 [.agg [.s (.int .i64 n), .li .u64 a], .agg [.s (.int .i64 m), .li .u64 b], .fn (.func 137) [] []] [] (.tup [.agg [.s (.int .i64 (xorN n a m b)), .li .u64 (xorW n a m b)], .s (.int .i64 (xorE n a m b))], []) := by
  rw [Bool.and_eq_true] at hg
  obtain ⟨ha, hb⟩ := hg
  have hnil : ∀ e : Int, xorE n a m b = e → e ≠ 0 → Fact Tryd.prog noG 136 [.agg [.s (.int .i64 n), .li .u64 a], .agg [.s (.int .i64 m), .li .u64 b], .fn (.func 137) [] []] [] (.tup [.agg [.s (.int .i64 0), .s (.slice none 0 0)], .s (.int .i64 e)], []) → Fact Tryd.prog noG 136 [.agg [.s (.int .i64 n), .li .u64 a], .agg [.s (.int .i64 m), .li .u64 b], .fn (.func 137) [] []] [] (.tup [.agg [.s (.int .i64 (xorN n a m b)), .li .u64 (xorW n a m b)], .s (.int .i64 (xorE n a m b))], []) := by
    intro e h1 h2 h
    have e1 : xorN n a m b = 0 := by rw [xorN_eq]; unfold xorNI; rw [if_neg (by rw [h1]; exact h2)]
    have e2 : xorW n a m b = [] := by rw [xorW_eq]; unfold xorWI; rw [if_neg (by rw [h1]; exact h2)]
    rw [h1, e1, e2]
    exact h.out fun _ _ _ x h => RV_tup_two (fun _ h => RVs_two (fun _ h => RV_agg_two (fun _ h => RVs_two (fun _ h => h) (fun _ h => RVs_two (fun _ h => RV_nil_li h) (fun _ h => h) h) h) h) (fun _ h => h) h) h
  by_cases h1 : rtS n a = true
  · by_cases h2 : rtS m b = true
    · by_cases h3 : n = m
      · have hl : a.length = b.length := by rw [rt_lens h1, rt_lens h2, h3]
        have hla := rt_le h1
        have e0 := xorE_ok h1 h2 h3
        have e1 : xorN n a m b = n := by rw [xorN_eq]; unfold xorNI; rw [if_pos e0]
        have e2 : xorW n a m b = a.zipWith (fun x y => xorI .u64 x y) b := by rw [xorW_eq]; unfold xorWI; rw [if_pos e0]
        rw [e0, e1, e2]
        refine callN_fact hN hM T_xor1_ok (n := 10) (mode := mode8) ?_
        rw [joinXF_eq]
        unfold joinXF joinXF_s1
        have hsz : szB n = true := szB_iff.2 (rtS_iff.1 h1).1
        rw [grd_of ha, h1, br_if, if_neg (by simp), grd_of hb, h2, br_if, if_neg (by simp), br_if, if_neg (by simp [h3]), grd_of hsz, ← rt_lens h1]
        dsimp only
        have hz : (zerosS a.length).length = a.length := by rw [zerosS_eq]; exact List.length_replicate
        have := joinX_loop (R := Out) 10 n m a b hl hla (zerosS a.length) hz
        refine (this _ 10 0 (by omega) (by omega)).trans ?_
        unfold joinXF_s3
        rw [List.drop_zero, List.take_of_length_le (by rw [List.length_zipWith]; omega)]
      · refine hnil 2 (by rw [xorE_eq]; unfold xorEI; rw [if_pos ⟨h1, h2⟩, if_neg h3]) (by decide) ?_
        refine callN_fact hN hM T_xor1_ok (n := 0) (mode := mode8) ?_
        rw [joinXF_eq]
        unfold joinXF joinXF_s1
        rw [grd_of ha, h1, br_if, if_neg (by simp), grd_of hb, h2, br_if, if_neg (by simp), br_if, if_pos (by simp [h3])]
    · refine hnil 1 (by rw [xorE_eq]; unfold xorEI; rw [if_neg (fun h => h2 h.2)]) (by decide) ?_
      refine callN_fact hN hM T_xor1_ok (n := 0) (mode := mode8) ?_
      rw [joinXF_eq]
      unfold joinXF joinXF_s1
      rw [grd_of ha, h1, br_if, if_neg (by simp), grd_of hb, br_if, if_pos (by simp [h2])]
  · refine hnil 1 (by rw [xorE_eq]; unfold xorEI; rw [if_neg (fun h => h1 h.1)]) (by decide) ?_
    refine callN_fact hN hM T_xor1_ok (n := 0) (mode := mode8) ?_
    rw [joinXF_eq]
    unfold joinXF joinXF_s1
    rw [grd_of ha, br_if, if_pos (by simp [h1])]
noncomputable def joinX_ent : List V → List Blk → Option (Bool × Out)
  | [.agg [.s (.int .i64 n), w0], .agg [.s (.int .i64 m), w1], .fn (.func 137) [] []], [] => (asSl (.int .u64) w0).bind fun a => (asSl (.int .u64) w1).bind fun b => some ((okW a && okW b), (.tup [.agg [.s (.int .i64 (xorN n a m b)), .li .u64 (xorW n a m b)], .s (.int .i64 (xorE n a m b))], []))
  | _, _ => none
theorem joinX_ok : ∀ args bs out, joinX_ent args bs = some (true, out) → Fact Tryd.prog noG 136 args bs out := by
  intro args bs out h
  unfold joinX_ent at h
  split at h
  · rename_i n w0 m w1
    obtain ⟨a, h_a, h⟩ := Option.bind_eq_some_iff.1 h
    obtain ⟨b, h_b, h⟩ := Option.bind_eq_some_iff.1 h
    simp only [Option.some.injEq, Prod.mk.injEq] at h
    obtain ⟨hg, rfl⟩ := h
    exact (joinX_fact n a m b hg).args (fun _ _ _ => fun _ h => RVs_two (fun _ h => RV_agg_two (fun _ h => RVs_two (fun _ h => h) (fun _ h => RVs_two (fun _ h => RV_li h_a h) (fun _ h => h) h) h) h) (fun _ h => RVs_two (fun _ h => RV_agg_two (fun _ h => RVs_two (fun _ h => h) (fun _ h => RVs_two (fun _ h => RV_li h_b h) (fun _ h => h) h) h) h) (fun _ h => h) h) h)
  · cases h
noncomputable def T_joinX : Tbl := Tbl.cons 136 joinX_ent T_xor1
theorem T_joinX_ok : CallOk Tryd.prog noG T_joinX := cons_ok T_xor1_ok joinX_ok
/-! downpour/bitrow.Xor -/
noncomputable def XorF_s1 {R : Type} (a b : List Int) (n m : Int) (c0 : Int → List Int → Int → Option R) : Option R :=
  grd (okW a && okW b) <|
  c0 (xorN n a m b) (xorW n a m b) (xorE n a m b)
theorem XorF_s1_eq (fuel : Nat)  (a b : List Int) (n m : Int) : callN Tryd.prog mode8 T_joinX fuel 91 [.agg [vI n, vW a], .agg [vI m, vW b]] [] = XorF_s1 a b n m (fun a1 a2 a3 => some (.tup [.agg [vI a1, vW a2], vI a3], [])) := by kernel_rfl
noncomputable def XorF {R : Type} (fuel : Nat) (n : Int) (a : List Int) (m : Int) (b : List Int) (r0 : Int → List Int → Int → Option R) : Option R :=
  (XorF_s1 a b n m (fun a1 a2 a3 => r0 a1 a2 a3))
theorem XorF_eq (fuel : Nat) (n : Int) (a : List Int) (m : Int) (b : List Int) : callN Tryd.prog mode8 T_joinX fuel 91 [.agg [.s (.int .i64 n), .li .u64 a], .agg [.s (.int .i64 m), .li .u64 b]] [] = XorF fuel n a m b (fun z0 z1 z2 => some (.tup [.agg [.s (.int .i64 z0), .li .u64 z1], .s (.int .i64 z2)], [])) := by
  unfold XorF
  exact (XorF_s1_eq fuel  a b n m)
theorem Xor_fact (n : Int) (a : List Int) (m : Int) (b : List Int) (hg : (okW a && okW b) = true) : Fact Tryd.prog noG 91 [.agg [.s (.int .i64 n), .li .u64 a], .agg [.s (.int .i64 m), .li .u64 b]] [] (.tup [.agg [.s (.int .i64 (xorN n a m b)), .li .u64 (xorW n a m b)], .s (.int .i64 (xorE n a m b))], []) := by
  refine callN_fact hN hM T_joinX_ok (n := 0) (mode := mode8) ?_
  rw [XorF_eq]
  unfold XorF XorF_s1
  rw [grd_of hg]
noncomputable def Xor_ent : List V → List Blk → Option (Bool × Out)
  | [.agg [.s (.int .i64 n), w0], .agg [.s (.int .i64 m), w1]], [] => (asSl (.int .u64) w0).bind fun a => (asSl (.int .u64) w1).bind fun b => some ((okW a && okW b), (.tup [.agg [.s (.int .i64 (xorN n a m b)), .li .u64 (xorW n a m b)], .s (.int .i64 (xorE n a m b))], []))
  | _, _ => none
theorem Xor_ok : ∀ args bs out, Xor_ent args bs = some (true, out) → Fact Tryd.prog noG 91 args bs out := by
  intro args bs out h
  unfold Xor_ent at h
  split at h
  · rename_i n w0 m w1
    obtain ⟨a, h_a, h⟩ := Option.bind_eq_some_iff.1 h
    obtain ⟨b, h_b, h⟩ := Option.bind_eq_some_iff.1 h
    simp only [Option.some.injEq, Prod.mk.injEq] at h
    obtain ⟨hg, rfl⟩ := h
    exact (Xor_fact n a m b hg).args (fun _ _ _ => fun _ h => RVs_two (fun _ h => RV_agg_two (fun _ h => RVs_two (fun _ h => h) (fun _ h => RVs_two (fun _ h => RV_li h_a h) (fun _ h => h) h) h) h) (fun _ h => RVs_two (fun _ h => RV_agg_two (fun _ h => RVs_two (fun _ h => h) (fun _ h => RVs_two (fun _ h => RV_li h_b h) (fun _ h => h) h) h) h) (fun _ h => h) h) h)
  · cases h
noncomputable def T_Xor : Tbl := Tbl.cons 91 Xor_ent T_joinX
theorem T_Xor_ok : CallOk Tryd.prog noG T_Xor := cons_ok T_joinX_ok Xor_ok
def mode9 : FuncId → Nat := fun f => bif Nat.beq f 78 then 2 else 0
def mode10 : FuncId → Nat := fun f => 0
/-! downpour/downpourref01.Xor -/
noncomputable abbrev qb5 (fuel : Nat) : Ctx Out := (fnX Tryd.prog mode10 T_Xor fuel 27 0)
noncomputable abbrev qb6 : Code := (sub (bodyOf Tryd.prog 160) [1, 1, 0, 1, 0, 0])
noncomputable def refXorF_s2 {R : Type} (w3 n : Int) (a b w4 : List Int) (w2 : Nat) (m : Int) (c0 : Nat → Int → List Int → Option R) (c1 : Nat → List Int → Option R) : Option R :=
  br (decide (w3 < n))
    (grd (okW a && decide (0 ≤ w3) && decide (w3 < 64 * (a.length : Int)) && decide (a.length ≤ 1000000)) <|
    grd (okW b && decide (0 ≤ w3) && decide (w3 < 64 * (b.length : Int)) && decide (b.length ≤ 1000000)) <|
    bnd (divI .rem .i64 (IntKind.i64.wrap ((bitS a w3) + (bitS b w3))) 2) fun v8 =>
    grd (Nat.beq w4.length w2) <|
    grd (okN (w2 + 1) 8) <|
    c0 ((w4 ++ [v8]).length) (IntKind.i64.wrap (w3 + 1)) (w4 ++ [v8]))
    (c1 w2 w4)
theorem refXorF_s2_eq (fuel k : Nat) (K : Ex → St → Option Out) (w3 n : Int) (a b w4 : List Int) (w2 : Nat) (m : Int) : lpN qb6 (qb5 fuel) 100663344 [2, 3, 4, 5, 6] (k + 1) ⟨[(2, .ptr 0 2 0 0), (3, .ptr 1 2 0 0), (4, .ptr 2 2 0 0), (5, .sl 3 1 0 w2), (6, vI w3)], [(0, some ⟨44, .agg [vI n, vW a], true⟩), (1, some ⟨44, .agg [vI m, vW b], true⟩), (2, some ⟨44, .agg [vI 0, vN], true⟩), (3, bL 3 w4)], 4, none⟩ K = refXorF_s2 w3 n a b w4 w2 m (fun a9 a0 a1 => lpN qb6 (qb5 fuel) 100663344 [2, 3, 4, 5, 6] k ⟨[(2, .ptr 0 2 0 0), (3, .ptr 1 2 0 0), (4, .ptr 2 2 0 0), (5, .sl 3 1 0 a9), (6, vI a0)], [(0, some ⟨44, .agg [vI n, vW a], true⟩), (1, some ⟨44, .agg [vI m, vW b], true⟩), (2, some ⟨44, .agg [vI 0, vN], true⟩), (3, bL 3 a1)], 4, none⟩ K) (fun a2 a3 => K (.exit 0) ⟨[(4, .ptr 0 2 0 0), (5, .sl 1 1 0 a2)], [(0, some ⟨44, .agg [vI 0, vN], true⟩), (1, bL 3 a3)], 2, none⟩) := by kernel_rfl
noncomputable def refXorF_l1 {R : Type} (fuel : Nat) (n : Int) (a : List Int) (m : Int) (b : List Int) (k0 : Nat → List Int → Option R) : Nat → Nat → Int → List Int → Option R
  | 0, _, _, _ => none
  | k + 1, w2, w3, w4 =>
    (refXorF_s2 w3 n a b w4 w2 m (fun a9 a0 a1 => ( refXorF_l1 fuel n a m b k0 k a9 a0 a1 )) (fun a2 a3 => k0 a2 a3))
theorem refXorF_l1_eq (fuel : Nat) (n : Int) (a : List Int) (m : Int) (b : List Int) (K : Ex → St → Option Out) : ∀ (k w2 : Nat) (w3 : Int) (w4 : List Int), lpN qb6 (qb5 fuel) 100663344 [2, 3, 4, 5, 6] k ⟨[(2, .ptr 0 2 0 0), (3, .ptr 1 2 0 0), (4, .ptr 2 2 0 0), (5, .sl 3 1 0 w2), (6, vI w3)], [(0, some ⟨44, .agg [vI n, vW a], true⟩), (1, some ⟨44, .agg [vI m, vW b], true⟩), (2, some ⟨44, .agg [vI 0, vN], true⟩), (3, bL 3 w4)], 4, none⟩ K = refXorF_l1 fuel n a m b (fun y6 y7 => K (.exit 0) ⟨[(4, .ptr 0 2 0 0), (5, .sl 1 1 0 y6)], [(0, some ⟨44, .agg [vI 0, vN], true⟩), (1, bL 3 y7)], 2, none⟩) k w2 w3 w4
  | 0, _, _, _ => rfl
  | k + 1, w2, w3, w4 => by
    unfold refXorF_l1
    exact (refXorF_s2_eq fuel k K w3 n a b w4 w2 m).trans (congr (congr (Eq.refl (refXorF_s2 (R := Out) w3 n a b w4 w2 m)) (funext fun a9 => funext fun a0 => funext fun a1 => refXorF_l1_eq fuel n a m b K k a9 a0 a1)) (rfl))
noncomputable def refXorF_s3 {R : Type} (x0 : List Int) (x1 : Nat) (c0 : Int → List Int → Option R) : Option R :=
  grd (decide (((x0.drop 0).take x1).length ≤ 512)) <|
  c0 ((((x0.drop 0).take x1).length : Nat) : Int) (fromS ((x0.drop 0).take x1))
theorem refXorF_s3_eq (fuel : Nat)  (x0 : List Int) (x1 : Nat) : (kont (qb5 fuel) (bodyOf Tryd.prog 160) [1, 1, 0, 1, 0] 16 (endK Tryd.prog 0 0 160)) (.exit 0) ⟨[(4, .ptr 0 2 0 0), (5, .sl 1 1 0 x1)], [(0, some ⟨44, .agg [vI 0, vN], true⟩), (1, bL 3 x0)], 2, none⟩ = refXorF_s3 x0 x1 (fun a0 a1 => some (.agg [vI a0, vW a1], [])) := by kernel_rfl
noncomputable def refXorF_s1 {R : Type} (n : Int) (a : List Int) (m : Int) (b : List Int) (c0 : Nat → Int → List Int → Option R) : Option R :=
  c0 0 0 ([])
theorem refXorF_s1_eq (fuel : Nat)  (n : Int) (a : List Int) (m : Int) (b : List Int) : callN Tryd.prog mode10 T_Xor fuel 160 [.agg [vI n, vW a], .agg [vI m, vW b]] [] = refXorF_s1 n a m b (fun a0 a1 a2 => lpN qb6 (qb5 fuel) 100663344 [2, 3, 4, 5, 6] fuel ⟨[(2, .ptr 0 2 0 0), (3, .ptr 1 2 0 0), (4, .ptr 2 2 0 0), (5, .sl 3 1 0 a0), (6, vI a1)], [(0, some ⟨44, .agg [vI n, vW a], true⟩), (1, some ⟨44, .agg [vI m, vW b], true⟩), (2, some ⟨44, .agg [vI 0, vN], true⟩), (3, bL 3 a2)], 4, none⟩ (kont (qb5 fuel) (bodyOf Tryd.prog 160) [1, 1, 0, 1, 0] 16 (endK Tryd.prog 0 0 160))) := by kernel_rfl
noncomputable def refXorF {R : Type} (fuel : Nat) (n : Int) (a : List Int) (m : Int) (b : List Int) (r0 : Int → List Int → Option R) : Option R :=
  (refXorF_s1 n a m b (fun a0 a1 a2 => (refXorF_l1 fuel n a m b (fun x0 x1 => (refXorF_s3 x1 x0 (fun a3 a4 => r0 a3 a4))) fuel a0 a1 a2)))
theorem refXorF_eq (fuel : Nat) (n : Int) (a : List Int) (m : Int) (b : List Int) : callN Tryd.prog mode10 T_Xor fuel 160 [.agg [.s (.int .i64 n), .li .u64 a], .agg [.s (.int .i64 m), .li .u64 b]] [] = refXorF fuel n a m b (fun z0 z1 => some (.agg [.s (.int .i64 z0), .li .u64 z1], [])) := by
  unfold refXorF
  exact (refXorF_s1_eq fuel  n a m b).trans (congr (Eq.refl (refXorF_s1 (R := Out) n a m b)) (funext fun a0 => funext fun a1 => funext fun a2 => (refXorF_l1_eq fuel n a m b (kont (qb5 fuel) (bodyOf Tryd.prog 160) [1, 1, 0, 1, 0] 16 (endK Tryd.prog 0 0 160)) fuel a0 a1 a2).trans (congrFun (congrFun (congrFun (congrFun (congr (Eq.refl (refXorF_l1 (R := Out) fuel n a m b)) (funext fun x0 => funext fun x1 => (refXorF_s3_eq fuel  x1 x0))) fuel) a0) a1) a2)))
def xbit (a b : List Int) (i : Nat) : Int := (bitI a (i : Int) + bitI b (i : Int)) % 2
theorem bit_range (a : List Int) (i : Int) : 0 ≤ bitI a i ∧ bitI a i ≤ 1 := by unfold bitI; split <;> omega
theorem refXor_loop {R : Type} (fuel N : Nat) (m : Int) (a b : List Int) (ha : okW a = true) (hb : okW b = true) (hl : a.length = b.length) (hm : N ≤ 64 * a.length) (hx : a.length ≤ 8) (k0 : Nat → List Int → Option R) : ∀ (k j : Nat), j ≤ N → N < j + k → refXorF_l1 fuel (N : Int) a m b k0 k j (j : Int) ((List.range j).map (xbit a b)) = k0 N ((List.range N).map (xbit a b))
  | 0, j, h1, h2 => by omega
  | k + 1, j, h1, h2 => by
    unfold refXorF_l1 refXorF_s2
    rw [br_if]
    by_cases hc : j < N
    · have r1 := bit_range a (j : Int)
      have r2 := bit_range b (j : Int)
      have e : (List.range j).map (xbit a b) ++ [xbit a b j] = (List.range (j + 1)).map (xbit a b) := by rw [List.range_succ, List.map_append]; rfl
      have ed : divI .rem .i64 (bitI a (j : Int) + bitI b (j : Int)) 2 = some (xbit a b j) := rem_pos (by omega) (by decide)
      rw [if_pos (by simpa using hc), grd_of (by rw [ha]; simp; omega), grd_of (by rw [hb]; simp; omega), bitS_eq, wrap_i64 (x := bitI a (j : Int) + bitI b (j : Int)) (by omega) (by omega), bnd_of ed, grd_of (by rw [List.length_map, List.length_range]; exact beq_self j), grd_of (okN_of (by omega) (by omega)), e, List.length_map, List.length_range, wrap_i64 (by omega) (by omega), show (j : Int) + 1 = ((j + 1 : Nat) : Int) by omega]
      exact refXor_loop fuel N m a b ha hb hl hm hx k0 k (j + 1) (by omega) (by omega)
    · have e : j = N := by omega
      subst e
      rw [if_neg (by simp)]
theorem refXor_fact (n : Int) (a : List Int) (m : Int) (b : List Int) (hg : (rtS n a && rtS m b && decide (n = m) && okW a && okW b) = true) : Fact Tryd.prog noG 160 [.agg [.s (.int .i64 n), .li .u64 a], .agg [.s (.int .i64 m), .li .u64 b]] [] (.agg [.s (.int .i64 n), .li .u64 (xorW n a m b)], []) := by
  simp only [Bool.and_eq_true, decide_eq_true_eq] at hg
  obtain ⟨⟨⟨⟨h1, h2⟩, h3⟩, ha⟩, hb⟩ := hg
  have hl : a.length = b.length := by rw [rt_lens h1, rt_lens h2, h3]
  have hx := rt_le h1
  obtain ⟨⟨h0, h512⟩, hlen, hlt⟩ := rtS_iff.1 h1
  have hltb := rt_lt h2
  have hw := nw_cast h0
  obtain ⟨v1, v2, v3⟩ := xor_val ha hb h1 h2 h3
  obtain ⟨N, rfl⟩ : ∃ N : Nat, n = (N : Int) := ⟨n.toNat, by omega⟩
  refine callN_fact hN hM T_Xor_ok (n := N + 1) (mode := mode10) ?_
  rw [refXorF_eq]
  unfold refXorF refXorF_s1
  dsimp only
  have := refXor_loop (R := Out) (N + 1) N m a b ha hb hl (by omega) hx
  refine (this _ (N + 1) 0 (by omega) (by omega)).trans ?_
  unfold refXorF_s3
  have hlr : ((List.range N).map (xbit a b)).length = N := by rw [List.length_map, List.length_range]
  rw [List.drop_zero, List.take_of_length_le (by omega), grd_of (by simp [hlr]; omega), hlr]
  have e : fromS ((List.range N).map (xbit a b)) = xorW (N : Int) a m b := by
    rw [fromS_eq]
    unfold fromI
    rw [hlr, ← words_val v1, v3, v2]
    congr 1
    refine Nat.eq_of_testBit_eq fun i => ?_
    rw [testBit_bn, Nat.testBit_xor, List.getD_eq_getElem?_getD, List.getElem?_map]
    by_cases hi : i < N
    · rw [List.getElem?_range hi]
      show decide (xbit a b i = 1) = _
      unfold xbit bitI
      rw [Int.toNat_natCast]
      cases (val a).testBit i <;> cases (val b).testBit i <;> rfl
    · rw [List.getElem?_eq_none (by rw [List.length_range]; omega)]
      have z1 : (val a).testBit i = false := Nat.testBit_lt_two_pow (Nat.lt_of_lt_of_le hlt (Nat.pow_le_pow_right (by omega) (by omega)))
      have z2 : (val b).testBit i = false := Nat.testBit_lt_two_pow (Nat.lt_of_lt_of_le hltb (Nat.pow_le_pow_right (by omega) (by omega)))
      rw [z1, z2]; rfl
  rw [e]
noncomputable def refXor_ent : List V → List Blk → Option (Bool × Out)
  | [.agg [.s (.int .i64 n), w0], .agg [.s (.int .i64 m), w1]], [] => (asSl (.int .u64) w0).bind fun a => (asSl (.int .u64) w1).bind fun b => some ((rtS n a && rtS m b && decide (n = m) && okW a && okW b), (.agg [.s (.int .i64 n), .li .u64 (xorW n a m b)], []))
  | _, _ => none
theorem refXor_ok : ∀ args bs out, refXor_ent args bs = some (true, out) → Fact Tryd.prog noG 160 args bs out := by
  intro args bs out h
  unfold refXor_ent at h
  split at h
  · rename_i n w0 m w1
    obtain ⟨a, h_a, h⟩ := Option.bind_eq_some_iff.1 h
    obtain ⟨b, h_b, h⟩ := Option.bind_eq_some_iff.1 h
    simp only [Option.some.injEq, Prod.mk.injEq] at h
    obtain ⟨hg, rfl⟩ := h
    exact (refXor_fact n a m b hg).args (fun _ _ _ => fun _ h => RVs_two (fun _ h => RV_agg_two (fun _ h => RVs_two (fun _ h => h) (fun _ h => RVs_two (fun _ h => RV_li h_a h) (fun _ h => h) h) h) h) (fun _ h => RVs_two (fun _ h => RV_agg_two (fun _ h => RVs_two (fun _ h => h) (fun _ h => RVs_two (fun _ h => RV_li h_b h) (fun _ h => h) h) h) h) (fun _ h => h) h) h)
  · cases h
noncomputable def T_refXor : Tbl := Tbl.cons 160 refXor_ent T_Xor
theorem T_refXor_ok : CallOk Tryd.prog noG T_refXor := cons_ok T_Xor_ok refXor_ok
/-! Blocks that a row names. -/
noncomputable def pickLI (l : List ByteArray) (ws : List Int) : List ByteArray := (plS ws).map fun i => l.getD i.toNat ByteArray.empty
noncomputable def pickL : List ByteArray → List Int → List ByteArray := Classical.choose (⟨pickLI, rfl⟩ : ∃ f, f = pickLI)
theorem pickL_eq : pickL = pickLI := Classical.choose_spec (⟨pickLI, rfl⟩ : ∃ f, f = pickLI)
noncomputable def pickEI (n : Int) (l : List ByteArray) (m : Int) (ws : List Int) : Int := if bok n l = true then (if rtS m ws = true ∧ m = (l.length : Int) then 0 else 1) else 2
noncomputable def pickE : Int → List ByteArray → Int → List Int → Int := Classical.choose (⟨pickEI, rfl⟩ : ∃ f, f = pickEI)
theorem pickE_eq : pickE = pickEI := Classical.choose_spec (⟨pickEI, rfl⟩ : ∃ f, f = pickEI)
noncomputable def pickTI (n : Int) (l : List ByteArray) (m : Int) (ws : List Int) : ByteArray := if pickE n l m ws = 0 then txt (sumS n (pickL l ws)) else ByteArray.empty
noncomputable def pickT : Int → List ByteArray → Int → List Int → ByteArray := Classical.choose (⟨pickTI, rfl⟩ : ∃ f, f = pickTI)
theorem pickT_eq : pickT = pickTI := Classical.choose_spec (⟨pickTI, rfl⟩ : ∃ f, f = pickTI)
def bitsRI (m : Int) (ws : List Int) : List Int := (List.range m.toNat).map fun (i : Nat) => bitI ws (i : Int)
noncomputable def bitsR : Int → List Int → List Int := Classical.choose (⟨bitsRI, rfl⟩ : ∃ f, f = bitsRI)
theorem bitsR_eq : bitsR = bitsRI := Classical.choose_spec (⟨bitsRI, rfl⟩ : ∃ f, f = bitsRI)
theorem bitsR_len (m : Int) (ws : List Int) : (bitsR m ws).length = m.toNat := by rw [bitsR_eq]; unfold bitsRI; simp
theorem pick_range {m : Int} {ws : List Int} {l : List ByteArray} (hok : okW ws = true) (h : rtS m ws = true) (hm : m = (l.length : Int)) {i : Int} (hi : i ∈ plS ws) : 0 ≤ i ∧ i < (l.length : Int) := by
  rw [pl_plc hok h] at hi
  obtain ⟨j, h1, h2, rfl⟩ := (mem_plc _ _ _).1 hi
  omega
theorem sumB_filter (a : List Int) : ∀ (z : List (ByteArray × Int)), z.foldl (fun a p => if p.2 = 1 then xb a (bytesL p.1) else a) a = sumL a ((z.filter fun p => decide (p.2 = 1)).map (·.1)) := by
  intro z
  induction z generalizing a with
  | nil => rfl
  | cons p t ih =>
    rw [List.foldl_cons, ih]
    by_cases h : p.2 = 1
    · rw [if_pos h, List.filter_cons_of_pos (by simpa using h)]; rfl
    · rw [if_neg h, List.filter_cons_of_neg (by simpa using h)]
theorem zip_filter (v : Nat) : ∀ (k : Nat) (l : List ByteArray), k ≤ l.length → (((l.take k).zip ((List.range k).map fun (i : Nat) => if v.testBit i = true then (1 : Int) else 0)).filter fun p => decide (p.2 = 1)).map (·.1) = (plc v k).map fun i => l.getD i.toNat ByteArray.empty
  | 0, l, h => by simp [plc]
  | k + 1, l, h => by
    have hk : k < l.length := by omega
    rw [List.take_succ_eq_append_getElem hk, List.range_succ, List.map_append, List.zip_append (by rw [List.length_take, List.length_map, List.length_range]; omega), List.filter_append, List.map_append, zip_filter v k l (by omega), plc_succ, List.map_append]
    congr 1
    have e : l.getD ((k : Nat) : Int).toNat ByteArray.empty = l[k] := by rw [Int.toNat_natCast, List.getD_eq_getElem?_getD, List.getElem?_eq_getElem hk]; rfl
    by_cases hb : v.testBit k = true
    · rw [← e]; simp [hb]
    · simp [hb]
/-- The document's sum by bits is that of the blocks that are named. -/
theorem sumB_pick {n m : Int} {l : List ByteArray} {ws : List Int} (hok : okW ws = true) (h : rtS m ws = true) (hm : m = (l.length : Int)) : sumBS n l (bitsR m ws) = sumS n (pickL l ws) := by
  rw [sumBS_eq, sumS_eq, bitsR_eq, pickL_eq]
  unfold sumBI sumI bitsRI pickLI
  rw [sumB_filter, pl_plc hok h, hm, Int.toNat_natCast]
  have := zip_filter (val ws) l.length l (Nat.le_refl _)
  rw [List.take_length] at this
  rw [← this]
  congr 5
def mode11 : FuncId → Nat := fun f => bif Nat.beq f 93 then 2 else 0
def mode12 : FuncId → Nat := fun f => 0
/-! downpour/downpourref02.Bits -/
noncomputable abbrev qb7 (fuel : Nat) : Ctx Out := (fnX Tryd.prog mode12 T_refXor fuel 19 0)
noncomputable def refBitsF_s2 {R : Type} (w2 m : Int) (ws w3 : List Int) (w1 : Nat) (c0 : Nat → Int → List Int → Option R) (c1 : Nat → List Int → Option R) : Option R :=
  br (decide (w2 < m))
    (grd (okW ws && decide (0 ≤ w2) && decide (w2 < 64 * (ws.length : Int)) && decide (ws.length ≤ 1000000)) <|
    grd (Nat.beq w3.length w1) <|
    grd (okN (w1 + 1) 8) <|
    c0 ((w3 ++ [(bitS ws w2)]).length) (IntKind.i64.wrap (w2 + 1)) (w3 ++ [(bitS ws w2)]))
    (c1 w1 w3)
theorem refBitsF_s2_eq (fuel k : Nat) (K : Ex → St → Option Out) (w2 m : Int) (ws w3 : List Int) (w1 : Nat) : lpN (sub (bodyOf Tryd.prog 102) [1, 1, 0, 1, 0, 0]) (qb7 fuel) 262156 [1, 2, 3, 4] (k + 1) ⟨[(1, .ptr 0 2 0 0), (2, vN), (3, .sl 1 1 0 w1), (4, vI w2)], [(0, some ⟨44, .agg [vI m, vW ws], true⟩), (1, bL 3 w3)], 2, none⟩ K = refBitsF_s2 w2 m ws w3 w1 (fun a6 a7 a8 => lpN (sub (bodyOf Tryd.prog 102) [1, 1, 0, 1, 0, 0]) (qb7 fuel) 262156 [1, 2, 3, 4] k ⟨[(1, .ptr 0 2 0 0), (2, vN), (3, .sl 1 1 0 a6), (4, vI a7)], [(0, some ⟨44, .agg [vI m, vW ws], true⟩), (1, bL 3 a8)], 2, none⟩ K) (fun a9 a0 => K (.exit 0) ⟨[(2, vN), (3, .sl 0 1 0 a9)], [(0, bL 3 a0)], 1, none⟩) := by kernel_rfl
noncomputable def refBitsF_l1 {R : Type} (fuel : Nat) (m : Int) (ws : List Int) (k0 : Nat → List Int → Option R) : Nat → Nat → Int → List Int → Option R
  | 0, _, _, _ => none
  | k + 1, w1, w2, w3 =>
    (refBitsF_s2 w2 m ws w3 w1 (fun a6 a7 a8 => ( refBitsF_l1 fuel m ws k0 k a6 a7 a8 )) (fun a9 a0 => k0 a9 a0))
theorem refBitsF_l1_eq (fuel : Nat) (m : Int) (ws : List Int) (K : Ex → St → Option Out) : ∀ (k w1 : Nat) (w2 : Int) (w3 : List Int), lpN (sub (bodyOf Tryd.prog 102) [1, 1, 0, 1, 0, 0]) (qb7 fuel) 262156 [1, 2, 3, 4] k ⟨[(1, .ptr 0 2 0 0), (2, vN), (3, .sl 1 1 0 w1), (4, vI w2)], [(0, some ⟨44, .agg [vI m, vW ws], true⟩), (1, bL 3 w3)], 2, none⟩ K = refBitsF_l1 fuel m ws (fun y4 y5 => K (.exit 0) ⟨[(2, vN), (3, .sl 0 1 0 y4)], [(0, bL 3 y5)], 1, none⟩) k w1 w2 w3
  | 0, _, _, _ => rfl
  | k + 1, w1, w2, w3 => by
    unfold refBitsF_l1
    exact (refBitsF_s2_eq fuel k K w2 m ws w3 w1).trans (congr (congr (Eq.refl (refBitsF_s2 (R := Out) w2 m ws w3 w1)) (funext fun a6 => funext fun a7 => funext fun a8 => refBitsF_l1_eq fuel m ws K k a6 a7 a8)) (rfl))
noncomputable def refBitsF_s3 {R : Type} (x0 : List Int) (x1 : Nat) (c0 : List Int → Option R) : Option R :=
  c0 ((x0.drop 0).take x1)
theorem refBitsF_s3_eq (fuel : Nat)  (x0 : List Int) (x1 : Nat) : (kont (qb7 fuel) (bodyOf Tryd.prog 102) [1, 1, 0, 1, 0] 4 (endK Tryd.prog 0 0 102)) (.exit 0) ⟨[(2, vN), (3, .sl 0 1 0 x1)], [(0, bL 3 x0)], 1, none⟩ = refBitsF_s3 x0 x1 (fun a0 => some (vL a0, [])) := by kernel_rfl
noncomputable def refBitsF_s1 {R : Type} (m : Int) (ws : List Int) (c0 : Nat → Int → List Int → Option R) : Option R :=
  c0 0 0 ([])
theorem refBitsF_s1_eq (fuel : Nat)  (m : Int) (ws : List Int) : callN Tryd.prog mode12 T_refXor fuel 102 [.agg [vI m, vW ws]] [] = refBitsF_s1 m ws (fun a0 a1 a2 => lpN (sub (bodyOf Tryd.prog 102) [1, 1, 0, 1, 0, 0]) (qb7 fuel) 262156 [1, 2, 3, 4] fuel ⟨[(1, .ptr 0 2 0 0), (2, vN), (3, .sl 1 1 0 a0), (4, vI a1)], [(0, some ⟨44, .agg [vI m, vW ws], true⟩), (1, bL 3 a2)], 2, none⟩ (kont (qb7 fuel) (bodyOf Tryd.prog 102) [1, 1, 0, 1, 0] 4 (endK Tryd.prog 0 0 102))) := by kernel_rfl
noncomputable def refBitsF {R : Type} (fuel : Nat) (m : Int) (ws : List Int) (r0 : List Int → Option R) : Option R :=
  (refBitsF_s1 m ws (fun a0 a1 a2 => (refBitsF_l1 fuel m ws (fun x0 x1 => (refBitsF_s3 x1 x0 (fun a3 => r0 a3))) fuel a0 a1 a2)))
theorem refBitsF_eq (fuel : Nat) (m : Int) (ws : List Int) : callN Tryd.prog mode12 T_refXor fuel 102 [.agg [.s (.int .i64 m), .li .u64 ws]] [] = refBitsF fuel m ws (fun z0 => some (.li .i64 z0, [])) := by
  unfold refBitsF
  exact (refBitsF_s1_eq fuel  m ws).trans (congr (Eq.refl (refBitsF_s1 (R := Out) m ws)) (funext fun a0 => funext fun a1 => funext fun a2 => (refBitsF_l1_eq fuel m ws (kont (qb7 fuel) (bodyOf Tryd.prog 102) [1, 1, 0, 1, 0] 4 (endK Tryd.prog 0 0 102)) fuel a0 a1 a2).trans (congrFun (congrFun (congrFun (congrFun (congr (Eq.refl (refBitsF_l1 (R := Out) fuel m ws)) (funext fun x0 => funext fun x1 => (refBitsF_s3_eq fuel  x1 x0))) fuel) a0) a1) a2)))
theorem refBits_loop {R : Type} (fuel : Nat) (m : Nat) (ws : List Int) (hok : okW ws = true) (hm : m ≤ 64 * ws.length) (hx : ws.length ≤ 1000) (k0 : Nat → List Int → Option R) : ∀ (k j : Nat), j ≤ m → m < j + k → refBitsF_l1 fuel (m : Int) ws k0 k j (j : Int) (bitsR (j : Int) ws) = k0 m (bitsR (m : Int) ws)
  | 0, j, h1, h2 => by omega
  | k + 1, j, h1, h2 => by
    unfold refBitsF_l1 refBitsF_s2
    rw [br_if]
    by_cases hc : j < m
    · have e : bitsR (j : Int) ws ++ [bitS ws (j : Int)] = bitsR ((j + 1 : Nat) : Int) ws := by
        rw [bitsR_eq, bitS_eq]; unfold bitsRI
        rw [Int.toNat_natCast, Int.toNat_natCast, List.range_succ, List.map_append]; rfl
      rw [if_pos (by simpa using hc), grd_of (by rw [hok]; simp; omega), grd_of (by rw [bitsR_len, Int.toNat_natCast]; exact beq_self j), grd_of (okN_of (by omega) (by omega)), e, bitsR_len, Int.toNat_natCast, wrap_i64 (by omega) (by omega), show (j : Int) + 1 = ((j + 1 : Nat) : Int) by omega]
      exact refBits_loop fuel m ws hok hm hx k0 k (j + 1) (by omega) (by omega)
    · have e : j = m := by omega
      subst e
      rw [if_neg (by simp)]
theorem refBits_fact (m : Int) (ws : List Int) (hg : (okW ws && decide (m ≤ 64 * (ws.length : Int)) && decide (ws.length ≤ 1000)) = true) : Fact Tryd.prog noG 102 [.agg [.s (.int .i64 m), .li .u64 ws]] [] (.li .i64 (bitsR m ws), []) := by
  simp only [Bool.and_eq_true, decide_eq_true_eq] at hg
  obtain ⟨⟨hok, hm⟩, hx⟩ := hg
  by_cases h0 : 0 ≤ m
  · obtain ⟨j, rfl⟩ : ∃ j : Nat, m = (j : Int) := ⟨m.toNat, by omega⟩
    refine callN_fact hN hM T_refXor_ok (n := j + 1) (mode := mode12) ?_
    rw [refBitsF_eq]
    unfold refBitsF refBitsF_s1
    have e0 : ([] : List Int) = bitsR ((0 : Nat) : Int) ws := by rw [bitsR_eq]; rfl
    dsimp only
    rw [e0, show (0 : Int) = ((0 : Nat) : Int) from rfl, refBits_loop (j + 1) j ws hok (by omega) hx _ (j + 1) 0 (by omega) (by omega)]
    unfold refBitsF_s3
    rw [List.drop_zero, List.take_of_length_le (by rw [bitsR_len, Int.toNat_natCast]; exact Nat.le_refl _)]
  · have e0 : bitsR m ws = [] := by rw [bitsR_eq]; unfold bitsRI; rw [show m.toNat = 0 by omega]; rfl
    rw [e0]
    refine callN_fact hN hM T_refXor_ok (n := 1) (mode := mode12) ?_
    rw [refBitsF_eq]
    unfold refBitsF refBitsF_s1 refBitsF_l1 refBitsF_s2
    dsimp only
    rw [br_if, if_neg (by simp; omega)]
    rfl
noncomputable def refBits_ent : List V → List Blk → Option (Bool × Out)
  | [.agg [.s (.int .i64 m), w0]], [] => (asSl (.int .u64) w0).bind fun ws => some ((okW ws && decide (m ≤ 64 * (ws.length : Int)) && decide (ws.length ≤ 1000)), (.li .i64 (bitsR m ws), []))
  | _, _ => none
theorem refBits_ok : ∀ args bs out, refBits_ent args bs = some (true, out) → Fact Tryd.prog noG 102 args bs out := by
  intro args bs out h
  unfold refBits_ent at h
  split at h
  · rename_i m w0
    obtain ⟨ws, h_ws, h⟩ := Option.bind_eq_some_iff.1 h
    simp only [Option.some.injEq, Prod.mk.injEq] at h
    obtain ⟨hg, rfl⟩ := h
    exact (refBits_fact m ws hg).args (fun _ _ _ => fun _ h => RVs_two (fun _ h => RV_agg_two (fun _ h => RVs_two (fun _ h => h) (fun _ h => RVs_two (fun _ h => RV_li h_ws h) (fun _ h => h) h) h) h) (fun _ h => h) h)
  · cases h
noncomputable def T_refBits : Tbl := Tbl.cons 102 refBits_ent T_refXor
theorem T_refBits_ok : CallOk Tryd.prog noG T_refBits := cons_ok T_refXor_ok refBits_ok
/-! Matrices that may be. -/
abbrev Rw := Int × List Int
noncomputable def okMI (m : List Rw) : Bool := m.all fun r => okW r.2
noncomputable def okM : List Rw → Bool := Classical.choose (⟨okMI, rfl⟩ : ∃ f, f = okMI)
theorem okM_eq : okM = okMI := Classical.choose_spec (⟨okMI, rfl⟩ : ∃ f, f = okMI)
theorem okM_iff {m : List Rw} : okM m = true ↔ ∀ r, r ∈ m → okW r.2 = true := by rw [okM_eq]; unfold okMI; simp
noncomputable def badI (n z : Int) (ws : List Int) : Bool := decide (z ≠ n) || !(rtS z ws)
noncomputable def badR : Int → Int → List Int → Bool := Classical.choose (⟨badI, rfl⟩ : ∃ f, f = badI)
theorem badR_eq : badR = badI := Classical.choose_spec (⟨badI, rfl⟩ : ∃ f, f = badI)
noncomputable def badFrom (n : Int) : List Rw → Int → Int
  | [], _ => -1
  | r :: t, j => if badR n r.1 r.2 = true then j else badFrom n t (j + 1)
noncomputable def badAtI (n : Int) (m : List Rw) : Int := badFrom n m 0
noncomputable def badAt : Int → List Rw → Int := Classical.choose (⟨badAtI, rfl⟩ : ∃ f, f = badAtI)
theorem badAt_eq : badAt = badAtI := Classical.choose_spec (⟨badAtI, rfl⟩ : ∃ f, f = badAtI)
noncomputable def mrtI (n : Int) (m : List Rw) : Bool := decide (0 ≤ n) && decide (n ≤ 64) && decide (m.length ≤ 64) && m.all fun r => !(badR n r.1 r.2)
noncomputable def mrt : Int → List Rw → Bool := Classical.choose (⟨mrtI, rfl⟩ : ∃ f, f = mrtI)
theorem mrt_eq : mrt = mrtI := Classical.choose_spec (⟨mrtI, rfl⟩ : ∃ f, f = mrtI)
theorem badR_iff {n z : Int} {ws : List Int} : badR n z ws = false ↔ z = n ∧ rtS z ws = true := by rw [badR_eq]; unfold badI; simp
theorem mrt_iff {n : Int} {m : List Rw} : mrt n m = true ↔ (0 ≤ n ∧ n ≤ 64) ∧ m.length ≤ 64 ∧ ∀ r, r ∈ m → r.1 = n ∧ rtS r.1 r.2 = true := by
  rw [mrt_eq]; unfold mrtI
  simp only [Bool.and_eq_true, decide_eq_true_eq, List.all_eq_true, Bool.not_eq_true', badR_iff, and_assoc]
theorem badFrom_iff (n : Int) : ∀ (t : List Rw) (j : Int), 0 ≤ j → (0 ≤ badFrom n t j ↔ ∃ r, r ∈ t ∧ badR n r.1 r.2 = true) ∧ (badFrom n t j < 0 → badFrom n t j = -1)
  | [], j, h => by simp [badFrom]
  | r :: t, j, h => by
    have ih := badFrom_iff n t (j + 1) (by omega)
    rw [badFrom]
    by_cases hb : badR n r.1 r.2 = true
    · rw [if_pos hb]; exact ⟨⟨fun _ => ⟨r, List.mem_cons_self, hb⟩, fun _ => h⟩, fun g => by omega⟩
    · rw [if_neg hb]
      refine ⟨ih.1.trans ⟨fun ⟨x, h1, h2⟩ => ⟨x, List.mem_cons_of_mem _ h1, h2⟩, fun ⟨x, h1, h2⟩ => ?_⟩, ih.2⟩
      rcases List.mem_cons.1 h1 with rfl | h1
      · exact absurd h2 hb
      · exact ⟨x, h1, h2⟩
def mode13 : FuncId → Nat := fun f => bif Nat.beq f 155 then 2 else bif Nat.beq f 109 then 2 else bif Nat.beq f 110 then 2 else 0
/-! downpour/matrix.sized -/
noncomputable def msizedF_s1 {R : Type} (z : Int) (c0 : Bool → Option R) : Option R :=
  br (decide (z ≥ 0))
    (c0 (decide (z ≤ 64)))
    (c0 false)
theorem msizedF_s1_eq (fuel : Nat)  (z : Int) : callN Tryd.prog mode13 T_refBits fuel 108 [vI z] [] = msizedF_s1 z (fun a1 => some (vB a1, [])) := by kernel_rfl
noncomputable def msizedF {R : Type} (fuel : Nat) (z : Int) (r0 : Bool → Option R) : Option R :=
  (msizedF_s1 z (fun a1 => r0 a1))
theorem msizedF_eq (fuel : Nat) (z : Int) : callN Tryd.prog mode13 T_refBits fuel 108 [.s (.int .i64 z)] [] = msizedF fuel z (fun z0 => some (.s (.bool z0), [])) := by
  unfold msizedF
  exact (msizedF_s1_eq fuel  z)
theorem msized_fact (z : Int) : Fact Tryd.prog noG 108 [.s (.int .i64 z)] [] (.s (.bool (decide (0 ≤ z) && decide (z ≤ 64))), []) := by
  refine callN_fact hN hM T_refBits_ok (n := 0) (mode := mode13) ?_
  rw [msizedF_eq]
  unfold msizedF msizedF_s1
  rw [br_if]
  by_cases h : z ≥ 0
  · rw [if_pos (by simpa using h), decide_eq_true h, Bool.true_and]
  · rw [if_neg (by simpa using h), decide_eq_false h, Bool.false_and]
noncomputable def msized_ent : List V → List Blk → Option (Bool × Out)
  | [.s (.int .i64 z)], [] => some (true, (.s (.bool (decide (0 ≤ z) && decide (z ≤ 64))), []))
  | _, _ => none
theorem msized_ok : ∀ args bs out, msized_ent args bs = some (true, out) → Fact Tryd.prog noG 108 args bs out := by
  intro args bs out h
  unfold msized_ent at h
  split at h
  · rename_i z
    simp only [Option.some.injEq, Prod.mk.injEq] at h
    obtain ⟨_, rfl⟩ := h
    exact msized_fact z
  · cases h
noncomputable def T_msized : Tbl := Tbl.cons 108 msized_ent T_refBits
theorem T_msized_ok : CallOk Tryd.prog noG T_msized := cons_ok T_refBits_ok msized_ok
/-! downpour/matrix.Right$1 -/
noncomputable def right1F_s1 {R : Type} (z n : Int) (m : List (Int × List Int)) (ws : List Int) (c0 : Bool → Int → (List (Int × List Int)) → Option R) : Option R :=
  br (z != n)
    (c0 true n m)
    (grd (okW ws) <|
    c0 (!(rtS z ws)) n m)
theorem right1F_s1_eq (fuel : Nat)  (z n : Int) (m : List (Int × List Int)) (ws : List Int) : callN Tryd.prog mode13 T_msized fuel 110 [.agg [vI z, vW ws], .ptr 0 2 0 0] [⟨24, .agg [vI n, vR m], true⟩] = right1F_s1 z n m ws (fun a1 a2 a3 => some (vB a1, [some ⟨24, .agg [vI a2, vR a3], true⟩])) := by kernel_rfl
noncomputable def right1F {R : Type} (fuel : Nat) (z : Int) (ws : List Int) (n : Int) (m : List (Int × List Int)) (r0 : Bool → Int → (List (Int × List Int)) → Option R) : Option R :=
  (right1F_s1 z n m ws (fun a1 a2 a3 => r0 a1 a2 a3))
theorem right1F_eq (fuel : Nat) (z : Int) (ws : List Int) (n : Int) (m : List (Int × List Int)) : callN Tryd.prog mode13 T_msized fuel 110 [.agg [.s (.int .i64 z), .li .u64 ws], .ptr 0 2 0 0] [⟨24, .agg [.s (.int .i64 n), .lt (.pair (.int .i64) (.sl (.int .u64))) m], true⟩] = right1F fuel z ws n m (fun z0 z1 z2 => some (.s (.bool z0), [some ⟨24, .agg [.s (.int .i64 z1), .lt (.pair (.int .i64) (.sl (.int .u64))) z2], true⟩])) := by
  unfold right1F
  exact (right1F_s1_eq fuel  z n m ws)
theorem right1_fact (z : Int) (ws : List Int) (n : Int) (m : List (Int × List Int)) (hg : (okW ws) = true) : Fact Tryd.prog noG 110 [.agg [.s (.int .i64 z), .li .u64 ws], .ptr 0 2 0 0] [⟨24, .agg [.s (.int .i64 n), .lt (.pair (.int .i64) (.sl (.int .u64))) m], true⟩] (.s (.bool (badR n z ws)), [some ⟨24, .agg [.s (.int .i64 n), .lt (.pair (.int .i64) (.sl (.int .u64))) m], true⟩]) := by
  refine callN_fact hN hM T_msized_ok (n := 0) (mode := mode13) ?_
  rw [right1F_eq]
  unfold right1F right1F_s1
  rw [br_if, badR_eq]
  unfold badI
  by_cases h : z = n
  · rw [if_neg (by simp [h]), grd_of hg, decide_eq_false (by simp [h]), Bool.false_or]
  · rw [if_pos (by simp [h]), decide_eq_true h, Bool.true_or]
noncomputable def right1_ent : List V → List Blk → Option (Bool × Out)
  | [.agg [.s (.int .i64 z), w0], .ptr 0 2 0 0], [⟨24, .agg [.s (.int .i64 n), .lt (.pair (.int .i64) (.sl (.int .u64))) m], true⟩] => (asSl (.int .u64) w0).bind fun ws => some ((okW ws), (.s (.bool (badR n z ws)), [some ⟨24, .agg [.s (.int .i64 n), .lt (.pair (.int .i64) (.sl (.int .u64))) m], true⟩]))
  | _, _ => none
theorem right1_ok : ∀ args bs out, right1_ent args bs = some (true, out) → Fact Tryd.prog noG 110 args bs out := by
  intro args bs out h
  unfold right1_ent at h
  split at h
  · rename_i z w0 n m
    obtain ⟨ws, h_ws, h⟩ := Option.bind_eq_some_iff.1 h
    simp only [Option.some.injEq, Prod.mk.injEq] at h
    obtain ⟨hg, rfl⟩ := h
    exact (right1_fact z ws n m hg).args (fun _ _ _ => fun _ h => RVs_two (fun _ h => RV_agg_two (fun _ h => RVs_two (fun _ h => h) (fun _ h => RVs_two (fun _ h => RV_li h_ws h) (fun _ h => h) h) h) h) (fun _ h => h) h)
  · cases h
noncomputable def T_right1 : Tbl := Tbl.cons 110 right1_ent T_msized
theorem T_right1_ok : CallOk Tryd.prog noG T_right1 := cons_ok T_msized_ok right1_ok
/-! slices.IndexFunc[[]downpour/api.Row,downpour/api.Row] -/
noncomputable abbrev qb8 (n : Int) (m : List (Int × List Int)) : List (Nat × Option Blk) := [(0, some ⟨24, .agg [vI n, vR m], true⟩)]
noncomputable abbrev qb9 (fuel : Nat) : Ctx Out := (fnX Tryd.prog mode13 T_right1 fuel 19 1)
noncomputable abbrev qb10 : Code := (bodyOf Tryd.prog 155)
noncomputable def idxRF_s2 {R : Type} (w3 w4 : Int) (r : List (Int × List Int)) (n : Int) (m : List (Int × List Int)) (c0 : Int → Option R) (c1 : Int → Int → Option R) (c2 : Option R) : Option R :=
  br (decide (w3 < w4))
    (bnd (ix r w3) fun e7 =>
    grd (okW e7.2) <|
    br (badR n e7.1 e7.2)
      (c0 w3)
      (c1 w4 (IntKind.i64.wrap (w3 + 1))))
    (c2)
theorem idxRF_s2_eq (fuel k : Nat) (K : Ex → St → Option Out) (w3 w4 : Int) (r : List (Int × List Int)) (n : Int) (m : List (Int × List Int)) : lpN (sub qb10 [1, 0, 1, 0, 0]) (qb9 fuel) 16 [0, 1, 4, 7, 8] (k + 1) ⟨[(0, vR r), (1, .fn (.func 110) [] [.ptr 0 2 0 0]), (4, vI 0), (7, vI w4), (8, vI w3)], (qb8 n m), 1, none⟩ K = idxRF_s2 w3 w4 r n m (fun a8 => K .ret ⟨[(4, vI a8)], (qb8 n m), 1, none⟩) (fun a9 a0 => lpN (sub qb10 [1, 0, 1, 0, 0]) (qb9 fuel) 16 [0, 1, 4, 7, 8] k ⟨[(0, vR r), (1, .fn (.func 110) [] [.ptr 0 2 0 0]), (4, vI 0), (7, vI a9), (8, vI a0)], (qb8 n m), 1, none⟩ K) (K (.exit 0) ⟨[(4, vI 0)], (qb8 n m), 1, none⟩) := by kernel_rfl
noncomputable def idxRF_l1 {R : Type} (fuel : Nat) (r : List (Int × List Int)) (n : Int) (m : List (Int × List Int)) (k0 : Int → Option R) (k1 : Option R) : Nat → Int → Int → Option R
  | 0, _, _ => none
  | k + 1, w4, w3 =>
    (idxRF_s2 w3 w4 r n m (fun a8 => k0 a8) (fun a9 a0 => ( idxRF_l1 fuel r n m k0 k1 k a9 a0 )) (k1))
theorem idxRF_l1_eq (fuel : Nat) (r : List (Int × List Int)) (n : Int) (m : List (Int × List Int)) (K : Ex → St → Option Out) : ∀ (k : Nat) (w4 w3 : Int), lpN (sub qb10 [1, 0, 1, 0, 0]) (qb9 fuel) 16 [0, 1, 4, 7, 8] k ⟨[(0, vR r), (1, .fn (.func 110) [] [.ptr 0 2 0 0]), (4, vI 0), (7, vI w4), (8, vI w3)], (qb8 n m), 1, none⟩ K = idxRF_l1 fuel r n m (fun y6 => K .ret ⟨[(4, vI y6)], (qb8 n m), 1, none⟩) (K (.exit 0) ⟨[(4, vI 0)], (qb8 n m), 1, none⟩) k w4 w3
  | 0, _, _ => rfl
  | k + 1, w4, w3 => by
    unfold idxRF_l1
    exact (idxRF_s2_eq fuel k K w3 w4 r n m).trans (congr (congr (congr (Eq.refl (idxRF_s2 (R := Out) w3 w4 r n m)) (rfl)) (funext fun a9 => funext fun a0 => idxRF_l1_eq fuel r n m K k a9 a0)) (rfl))
noncomputable def idxRF_s3 {R : Type} (x0 n : Int) (m : List (Int × List Int)) (c0 : Int → Int → (List (Int × List Int)) → Option R) : Option R :=
  c0 x0 n m
theorem idxRF_s3_eq (fuel : Nat)  (x0 n : Int) (m : List (Int × List Int)) : (kont (qb9 fuel) qb10 [1, 0, 1, 0] 16 (endK Tryd.prog 2 1 155)) .ret ⟨[(4, vI x0)], (qb8 n m), 1, none⟩ = idxRF_s3 x0 n m (fun a0 a1 a2 => some (vI a0, [some ⟨24, .agg [vI a1, vR a2], true⟩])) := by kernel_rfl
noncomputable def idxRF_s4 {R : Type} (n : Int) (m : List (Int × List Int)) (c0 : Int → Int → (List (Int × List Int)) → Option R) : Option R :=
  c0 (-1) n m
theorem idxRF_s4_eq (fuel : Nat)  (n : Int) (m : List (Int × List Int)) : (kont (qb9 fuel) qb10 [1, 0, 1, 0] 16 (endK Tryd.prog 2 1 155)) (.exit 0) ⟨[(4, vI 0)], (qb8 n m), 1, none⟩ = idxRF_s4 n m (fun a0 a1 a2 => some (vI a0, [some ⟨24, .agg [vI a1, vR a2], true⟩])) := by kernel_rfl
noncomputable def idxRF_s1 {R : Type} (r : List (Int × List Int)) (n : Int) (m : List (Int × List Int)) (c0 : Int → Int → Option R) : Option R :=
  c0 ((r.length : Nat) : Int) 0
theorem idxRF_s1_eq (fuel : Nat)  (r : List (Int × List Int)) (n : Int) (m : List (Int × List Int)) : callN Tryd.prog mode13 T_right1 fuel 155 [vR r, .fn (.func 110) [] [.ptr 0 2 0 0]] [⟨24, .agg [vI n, vR m], true⟩] = idxRF_s1 r n m (fun a0 a1 => lpN (sub qb10 [1, 0, 1, 0, 0]) (qb9 fuel) 16 [0, 1, 4, 7, 8] fuel ⟨[(0, vR r), (1, .fn (.func 110) [] [.ptr 0 2 0 0]), (4, vI 0), (7, vI a0), (8, vI a1)], (qb8 n m), 1, none⟩ (kont (qb9 fuel) qb10 [1, 0, 1, 0] 16 (endK Tryd.prog 2 1 155))) := by kernel_rfl
noncomputable def idxRF {R : Type} (fuel : Nat) (r : List (Int × List Int)) (n : Int) (m : List (Int × List Int)) (r0 : Int → Int → (List (Int × List Int)) → Option R) : Option R :=
  (idxRF_s1 r n m (fun a0 a1 => (idxRF_l1 fuel r n m (fun x0 => (idxRF_s3 x0 n m (fun a2 a3 a4 => r0 a2 a3 a4))) ((idxRF_s4 n m (fun a5 a6 a7 => r0 a5 a6 a7))) fuel a0 a1)))
theorem idxRF_eq (fuel : Nat) (r : List (Int × List Int)) (n : Int) (m : List (Int × List Int)) : callN Tryd.prog mode13 T_right1 fuel 155 [.lt (.pair (.int .i64) (.sl (.int .u64))) r, .fn (.func 110) [] [.ptr 0 2 0 0]] [⟨24, .agg [.s (.int .i64 n), .lt (.pair (.int .i64) (.sl (.int .u64))) m], true⟩] = idxRF fuel r n m (fun z0 z1 z2 => some (.s (.int .i64 z0), [some ⟨24, .agg [.s (.int .i64 z1), .lt (.pair (.int .i64) (.sl (.int .u64))) z2], true⟩])) := by
  unfold idxRF
  exact (idxRF_s1_eq fuel  r n m).trans (congr (Eq.refl (idxRF_s1 (R := Out) r n m)) (funext fun a0 => funext fun a1 => (idxRF_l1_eq fuel r n m (kont (qb9 fuel) qb10 [1, 0, 1, 0] 16 (endK Tryd.prog 2 1 155)) fuel a0 a1).trans (congrFun (congrFun (congrFun (congr (congr (Eq.refl (idxRF_l1 (R := Out) fuel r n m)) (funext fun x0 => (idxRF_s3_eq fuel  x0 n m))) ((idxRF_s4_eq fuel  n m))) fuel) a0) a1)))
theorem idxR_loop {R : Type} (fuel : Nat) (r : List Rw) (n : Int) (m : List Rw) (hok : okM r = true) (hx : r.length ≤ 1000000) (k0 : Int → Option R) (k1 : Option R) : ∀ (k j : Nat), j ≤ r.length → r.length < j + k → idxRF_l1 fuel r n m k0 k1 k (r.length : Int) (j : Int) = if badFrom n (r.drop j) (j : Int) < 0 then k1 else k0 (badFrom n (r.drop j) (j : Int))
  | 0, j, h1, h2 => by omega
  | k + 1, j, h1, h2 => by
    unfold idxRF_l1 idxRF_s2
    rw [br_if]
    by_cases hc : j < r.length
    · have hw := okM_iff.1 hok _ (List.getElem_mem hc)
      rw [if_pos (by simpa using hc), bnd_of ((ix_nat r j).trans (List.getElem?_eq_getElem hc)), grd_of hw, br_if, List.drop_eq_getElem_cons hc, badFrom, wrap_i64 (by omega) (by omega), show (j : Int) + 1 = ((j + 1 : Nat) : Int) by omega]
      dsimp only
      rw [idxR_loop fuel r n m hok hx k0 k1 k (j + 1) (by omega) (by omega)]
      by_cases h : badR n (r[j]).1 (r[j]).2 = true
      · rw [if_pos h, if_pos h, if_neg (by omega)]
      · rw [if_neg h, if_neg h]
    · rw [if_neg (by simpa using hc), List.drop_eq_nil_of_le (by omega)]
      rfl
theorem idxR_fact (r : List (Int × List Int)) (n : Int) (m : List (Int × List Int)) (hg : (okM r && decide (r.length ≤ 1000000)) = true) : Fact Tryd.prog noG 155 [.lt (.pair (.int .i64) (.sl (.int .u64))) r, .fn (.func 110) [] [.ptr 0 2 0 0]] [⟨24, .agg [.s (.int .i64 n), .lt (.pair (.int .i64) (.sl (.int .u64))) m], true⟩] (.s (.int .i64 (badAt n r)), [some ⟨24, .agg [.s (.int .i64 n), .lt (.pair (.int .i64) (.sl (.int .u64))) m], true⟩]) := by
  rw [Bool.and_eq_true] at hg
  obtain ⟨hok, hx⟩ := hg
  have hx := of_decide_eq_true hx
  refine callN_fact hN hM T_right1_ok (n := r.length + 1) (mode := mode13) ?_
  rw [idxRF_eq]
  unfold idxRF idxRF_s1
  dsimp only
  have := idxR_loop (R := Out) (r.length + 1) r n m hok hx
  refine (this _ _ (r.length + 1) 0 (by omega) (by omega)).trans ?_
  rw [List.drop_zero, badAt_eq]
  unfold badAtI idxRF_s3 idxRF_s4
  rw [show ((0 : Nat) : Int) = 0 from rfl]
  by_cases h : badFrom n r 0 < 0
  · rw [if_pos h, (badFrom_iff n r 0 (by omega)).2 h]
  · rw [if_neg h]
noncomputable def idxR_ent : List V → List Blk → Option (Bool × Out)
  | [w0, .fn (.func 110) [] [.ptr 0 2 0 0]], [⟨24, .agg [.s (.int .i64 n), .lt (.pair (.int .i64) (.sl (.int .u64))) m], true⟩] => (asSl (.pair (.int .i64) (.sl (.int .u64))) w0).bind fun r => some ((okM r && decide (r.length ≤ 1000000)), (.s (.int .i64 (badAt n r)), [some ⟨24, .agg [.s (.int .i64 n), .lt (.pair (.int .i64) (.sl (.int .u64))) m], true⟩]))
  | _, _ => none
theorem idxR_ok : ∀ args bs out, idxR_ent args bs = some (true, out) → Fact Tryd.prog noG 155 args bs out := by
  intro args bs out h
  unfold idxR_ent at h
  split at h
  · rename_i w0 n m
    obtain ⟨r, h_r, h⟩ := Option.bind_eq_some_iff.1 h
    simp only [Option.some.injEq, Prod.mk.injEq] at h
    obtain ⟨hg, rfl⟩ := h
    exact (idxR_fact r n m hg).args (fun _ _ _ => fun _ h => RVs_two (fun _ h => RV_sl (s := (.pair (.int .i64) (.sl (.int .u64)))) h_r h) (fun _ h => h) h)
  · cases h
noncomputable def T_idxR : Tbl := Tbl.cons 155 idxR_ent T_right1
theorem T_idxR_ok : CallOk Tryd.prog noG T_idxR := cons_ok T_right1_ok idxR_ok
/-! slices.ContainsFunc[[]downpour/api.Row,downpour/api.Row] -/
noncomputable def contRF_s1 {R : Type} (r : List (Int × List Int)) (n : Int) (m : List (Int × List Int)) (c0 : Bool → Int → (List (Int × List Int)) → Option R) : Option R :=
  grd (okM r && decide (r.length ≤ 1000000)) <|
  c0 (decide (((badAt n r) : Int) ≥ 0)) n m
theorem contRF_s1_eq (fuel : Nat)  (r : List (Int × List Int)) (n : Int) (m : List (Int × List Int)) : callN Tryd.prog mode13 T_idxR fuel 109 [vR r, .fn (.func 110) [] [.ptr 0 2 0 0]] [⟨24, .agg [vI n, vR m], true⟩] = contRF_s1 r n m (fun a1 a2 a3 => some (vB a1, [some ⟨24, .agg [vI a2, vR a3], true⟩])) := by kernel_rfl
noncomputable def contRF {R : Type} (fuel : Nat) (r : List (Int × List Int)) (n : Int) (m : List (Int × List Int)) (r0 : Bool → Int → (List (Int × List Int)) → Option R) : Option R :=
  (contRF_s1 r n m (fun a1 a2 a3 => r0 a1 a2 a3))
theorem contRF_eq (fuel : Nat) (r : List (Int × List Int)) (n : Int) (m : List (Int × List Int)) : callN Tryd.prog mode13 T_idxR fuel 109 [.lt (.pair (.int .i64) (.sl (.int .u64))) r, .fn (.func 110) [] [.ptr 0 2 0 0]] [⟨24, .agg [.s (.int .i64 n), .lt (.pair (.int .i64) (.sl (.int .u64))) m], true⟩] = contRF fuel r n m (fun z0 z1 z2 => some (.s (.bool z0), [some ⟨24, .agg [.s (.int .i64 z1), .lt (.pair (.int .i64) (.sl (.int .u64))) z2], true⟩])) := by
  unfold contRF
  exact (contRF_s1_eq fuel  r n m)
theorem contR_fact (r : List (Int × List Int)) (n : Int) (m : List (Int × List Int)) (hg : (okM r && decide (r.length ≤ 1000000)) = true) : Fact Tryd.prog noG 109 [.lt (.pair (.int .i64) (.sl (.int .u64))) r, .fn (.func 110) [] [.ptr 0 2 0 0]] [⟨24, .agg [.s (.int .i64 n), .lt (.pair (.int .i64) (.sl (.int .u64))) m], true⟩] (.s (.bool (decide (0 ≤ badAt n r))), [some ⟨24, .agg [.s (.int .i64 n), .lt (.pair (.int .i64) (.sl (.int .u64))) m], true⟩]) := by
  refine callN_fact hN hM T_idxR_ok (n := 0) (mode := mode13) ?_
  rw [contRF_eq]
  unfold contRF contRF_s1
  rw [grd_of hg]
noncomputable def contR_ent : List V → List Blk → Option (Bool × Out)
  | [w0, .fn (.func 110) [] [.ptr 0 2 0 0]], [⟨24, .agg [.s (.int .i64 n), .lt (.pair (.int .i64) (.sl (.int .u64))) m], true⟩] => (asSl (.pair (.int .i64) (.sl (.int .u64))) w0).bind fun r => some ((okM r && decide (r.length ≤ 1000000)), (.s (.bool (decide (0 ≤ badAt n r))), [some ⟨24, .agg [.s (.int .i64 n), .lt (.pair (.int .i64) (.sl (.int .u64))) m], true⟩]))
  | _, _ => none
theorem contR_ok : ∀ args bs out, contR_ent args bs = some (true, out) → Fact Tryd.prog noG 109 args bs out := by
  intro args bs out h
  unfold contR_ent at h
  split at h
  · rename_i w0 n m
    obtain ⟨r, h_r, h⟩ := Option.bind_eq_some_iff.1 h
    simp only [Option.some.injEq, Prod.mk.injEq] at h
    obtain ⟨hg, rfl⟩ := h
    exact (contR_fact r n m hg).args (fun _ _ _ => fun _ h => RVs_two (fun _ h => RV_sl (s := (.pair (.int .i64) (.sl (.int .u64)))) h_r h) (fun _ h => h) h)
  · cases h
noncomputable def T_contR : Tbl := Tbl.cons 109 contR_ent T_idxR
theorem T_contR_ok : CallOk Tryd.prog noG T_contR := cons_ok T_idxR_ok contR_ok
/-! downpour/matrix.Right -/
noncomputable def mRightF_s1 {R : Type} (n : Int) (m : List (Int × List Int)) (c0 : Bool → Option R) : Option R :=
  br (decide (0 ≤ n) && decide (n ≤ 64))
    (br (decide ((((m.length : Nat) : Int) : Int) ≤ 64))
      (grd (okM m && decide (m.length ≤ 1000000)) <|
      c0 (!(decide (0 ≤ badAt n m))))
      (c0 false))
    (c0 false)
theorem mRightF_s1_eq (fuel : Nat)  (n : Int) (m : List (Int × List Int)) : callN Tryd.prog mode13 T_contR fuel 56 [.agg [vI n, vR m]] [] = mRightF_s1 n m (fun a1 => some (vB a1, [])) := by kernel_rfl
noncomputable def mRightF {R : Type} (fuel : Nat) (n : Int) (m : List (Int × List Int)) (r0 : Bool → Option R) : Option R :=
  (mRightF_s1 n m (fun a1 => r0 a1))
theorem mRightF_eq (fuel : Nat) (n : Int) (m : List (Int × List Int)) : callN Tryd.prog mode13 T_contR fuel 56 [.agg [.s (.int .i64 n), .lt (.pair (.int .i64) (.sl (.int .u64))) m]] [] = mRightF fuel n m (fun z0 => some (.s (.bool z0), [])) := by
  unfold mRightF
  exact (mRightF_s1_eq fuel  n m)
theorem bad_none {n : Int} {m : List Rw} : (!(decide (0 ≤ badAt n m))) = m.all fun r => !(badR n r.1 r.2) := by
  have := (badFrom_iff n m 0 (by omega)).1
  rw [badAt_eq]; unfold badAtI
  by_cases h : 0 ≤ badFrom n m 0
  · obtain ⟨r, h1, h2⟩ := this.1 h
    have : (m.all fun r => !(badR n r.1 r.2)) = false := by
      rw [Bool.eq_false_iff]; intro g
      have := List.all_eq_true.1 g r h1
      rw [h2] at this; cases this
    rw [this, decide_eq_true h]; rfl
  · have : (m.all fun r => !(badR n r.1 r.2)) = true := by
      rw [List.all_eq_true]; intro r hr
      rw [Bool.not_eq_true', Bool.eq_false_iff]
      exact fun g => h (this.2 ⟨r, hr, g⟩)
    rw [this, decide_eq_false h]; rfl
theorem mRight_fact (n : Int) (m : List (Int × List Int)) (hg : (okM m) = true) : Fact Tryd.prog noG 56 [.agg [.s (.int .i64 n), .lt (.pair (.int .i64) (.sl (.int .u64))) m]] [] (.s (.bool (mrt n m)), []) := by
  refine callN_fact hN hM T_contR_ok (n := 0) (mode := mode13) ?_
  rw [mRightF_eq]
  unfold mRightF mRightF_s1
  rw [br_if, mrt_eq]
  unfold mrtI
  by_cases h : (decide (0 ≤ n) && decide (n ≤ 64)) = true
  · rw [if_pos h, h, Bool.true_and, br_if]
    by_cases hl : m.length ≤ 64
    · rw [if_pos (by simp; omega), grd_of (by rw [hg]; simp; omega), bad_none, decide_eq_true hl, Bool.true_and]
    · rw [if_neg (by simp; omega), decide_eq_false hl, Bool.false_and]
  · rw [if_neg h, Bool.eq_false_iff.2 h, Bool.false_and, Bool.false_and]
noncomputable def mRight_ent : List V → List Blk → Option (Bool × Out)
  | [.agg [.s (.int .i64 n), w0]], [] => (asSl (.pair (.int .i64) (.sl (.int .u64))) w0).bind fun m => some ((okM m), (.s (.bool (mrt n m)), []))
  | _, _ => none
theorem mRight_ok : ∀ args bs out, mRight_ent args bs = some (true, out) → Fact Tryd.prog noG 56 args bs out := by
  intro args bs out h
  unfold mRight_ent at h
  split at h
  · rename_i n w0
    obtain ⟨m, h_m, h⟩ := Option.bind_eq_some_iff.1 h
    simp only [Option.some.injEq, Prod.mk.injEq] at h
    obtain ⟨hg, rfl⟩ := h
    exact (mRight_fact n m hg).args (fun _ _ _ => fun _ h => RVs_two (fun _ h => RV_agg_two (fun _ h => RVs_two (fun _ h => h) (fun _ h => RVs_two (fun _ h => RV_sl (s := (.pair (.int .i64) (.sl (.int .u64)))) h_m h) (fun _ h => h) h) h) h) (fun _ h => h) h)
  · cases h
noncomputable def T_mRight : Tbl := Tbl.cons 56 mRight_ent T_contR
theorem T_mRight_ok : CallOk Tryd.prog noG T_mRight := cons_ok T_contR_ok mRight_ok
def mode14 : FuncId → Nat := fun f => 0
/-! downpour/downpourref03.Right -/
noncomputable abbrev qb11 (n : Int) (m : List (Int × List Int)) : List (Nat × Option Blk) := [(0, some ⟨24, .agg [vI n, vR m], true⟩)]
noncomputable abbrev qb12 (fuel : Nat) : Ctx Out := (fnX Tryd.prog mode14 T_mRight fuel 37 0)
noncomputable abbrev qb13 : List (Nat × V) := [(1, .ptr 0 2 0 0), (2, vB false)]
noncomputable def refMRightF_s2 {R : Type} (w4 w3 : Int) (m : List (Int × List Int)) (n : Int) (c0 c1 : Option R) (c2 : Int → Int → Option R) (c3 : Option R) : Option R :=
  br (decide (w4 < w3))
    (bnd (ix m w4) fun e6 =>
    br (e6.1 != n)
      (c0)
      (grd (okW e6.2) <|
      br (!(rtS e6.1 e6.2))
        (c1)
        (c2 w3 (IntKind.i64.wrap (w4 + 1)))))
    (c3)
theorem refMRightF_s2_eq (fuel k : Nat) (K : Ex → St → Option Out) (w4 w3 : Int) (m : List (Int × List Int)) (n : Int) : lpN (sub (bodyOf Tryd.prog 16) [1, 0, 1, 0, 0]) (qb12 fuel) 137430564870 [1, 2, 6, 7, 8] (k + 1) ⟨[(1, .ptr 0 2 0 0), (2, vB false), (6, vR m), (7, vI w3), (8, vI w4)], (qb11 n m), 1, none⟩ K = refMRightF_s2 w4 w3 m n (K .ret ⟨qb13, (qb11 n m), 1, none⟩) (K .ret ⟨qb13, (qb11 n m), 1, none⟩) (fun a7 a8 => lpN (sub (bodyOf Tryd.prog 16) [1, 0, 1, 0, 0]) (qb12 fuel) 137430564870 [1, 2, 6, 7, 8] k ⟨[(1, .ptr 0 2 0 0), (2, vB false), (6, vR m), (7, vI a7), (8, vI a8)], (qb11 n m), 1, none⟩ K) (K (.exit 0) ⟨qb13, (qb11 n m), 1, none⟩) := by kernel_rfl
noncomputable def refMRightF_l1 {R : Type} (fuel : Nat) (m : List (Int × List Int)) (n : Int) (k0 k1 : Option R) : Nat → Int → Int → Option R
  | 0, _, _ => none
  | k + 1, w3, w4 =>
    (refMRightF_s2 w4 w3 m n (k0) (k0) (fun a7 a8 => ( refMRightF_l1 fuel m n k0 k1 k a7 a8 )) (k1))
theorem refMRightF_l1_eq (fuel : Nat) (m : List (Int × List Int)) (n : Int) (K : Ex → St → Option Out) : ∀ (k : Nat) (w3 w4 : Int), lpN (sub (bodyOf Tryd.prog 16) [1, 0, 1, 0, 0]) (qb12 fuel) 137430564870 [1, 2, 6, 7, 8] k ⟨[(1, .ptr 0 2 0 0), (2, vB false), (6, vR m), (7, vI w3), (8, vI w4)], (qb11 n m), 1, none⟩ K = refMRightF_l1 fuel m n (K .ret ⟨qb13, (qb11 n m), 1, none⟩) (K (.exit 0) ⟨qb13, (qb11 n m), 1, none⟩) k w3 w4
  | 0, _, _ => rfl
  | k + 1, w3, w4 => by
    unfold refMRightF_l1
    exact (refMRightF_s2_eq fuel k K w4 w3 m n).trans (congr (congr (congr (congr (Eq.refl (refMRightF_s2 (R := Out) w4 w3 m n)) (rfl)) (rfl)) (funext fun a7 => funext fun a8 => refMRightF_l1_eq fuel m n K k a7 a8)) (rfl))
noncomputable def refMRightF_s3 {R : Type} (n : Int) (m : List (Int × List Int)) (c0 : Bool → Option R) : Option R :=
  c0 false
theorem refMRightF_s3_eq (fuel : Nat)  (n : Int) (m : List (Int × List Int)) : (kont (qb12 fuel) (bodyOf Tryd.prog 16) [1, 0, 1, 0] 4 (endK Tryd.prog 0 0 16)) .ret ⟨qb13, (qb11 n m), 1, none⟩ = refMRightF_s3 n m (fun a0 => some (vB a0, [])) := by kernel_rfl
noncomputable def refMRightF_s4 {R : Type} (n : Int) (m : List (Int × List Int)) (c0 : Bool → Option R) : Option R :=
  br (decide (n ≥ 0))
    (br (decide (n ≤ 64))
      (c0 (decide ((((m.length : Nat) : Int) : Int) ≤ 64)))
      (c0 false))
    (c0 false)
theorem refMRightF_s4_eq (fuel : Nat)  (n : Int) (m : List (Int × List Int)) : (kont (qb12 fuel) (bodyOf Tryd.prog 16) [1, 0, 1, 0] 4 (endK Tryd.prog 0 0 16)) (.exit 0) ⟨qb13, (qb11 n m), 1, none⟩ = refMRightF_s4 n m (fun a0 => some (vB a0, [])) := by kernel_rfl
noncomputable def refMRightF_s1 {R : Type} (m : List (Int × List Int)) (n : Int) (c0 : Int → Int → Option R) : Option R :=
  c0 ((m.length : Nat) : Int) 0
theorem refMRightF_s1_eq (fuel : Nat)  (m : List (Int × List Int)) (n : Int) : callN Tryd.prog mode14 T_mRight fuel 16 [.agg [vI n, vR m]] [] = refMRightF_s1 m n (fun a9 a0 => lpN (sub (bodyOf Tryd.prog 16) [1, 0, 1, 0, 0]) (qb12 fuel) 137430564870 [1, 2, 6, 7, 8] fuel ⟨[(1, .ptr 0 2 0 0), (2, vB false), (6, vR m), (7, vI a9), (8, vI a0)], (qb11 n m), 1, none⟩ (kont (qb12 fuel) (bodyOf Tryd.prog 16) [1, 0, 1, 0] 4 (endK Tryd.prog 0 0 16))) := by kernel_rfl
noncomputable def refMRightF {R : Type} (fuel : Nat) (n : Int) (m : List (Int × List Int)) (r0 : Bool → Option R) : Option R :=
  (refMRightF_s1 m n (fun a9 a0 => (refMRightF_l1 fuel m n ((refMRightF_s3 n m (fun a1 => r0 a1))) ((refMRightF_s4 n m (fun a2 => r0 a2))) fuel a9 a0)))
theorem refMRightF_eq (fuel : Nat) (n : Int) (m : List (Int × List Int)) : callN Tryd.prog mode14 T_mRight fuel 16 [.agg [.s (.int .i64 n), .lt (.pair (.int .i64) (.sl (.int .u64))) m]] [] = refMRightF fuel n m (fun z0 => some (.s (.bool z0), [])) := by
  unfold refMRightF
  exact (refMRightF_s1_eq fuel  m n).trans (congr (Eq.refl (refMRightF_s1 (R := Out) m n)) (funext fun a9 => funext fun a0 => (refMRightF_l1_eq fuel m n (kont (qb12 fuel) (bodyOf Tryd.prog 16) [1, 0, 1, 0] 4 (endK Tryd.prog 0 0 16)) fuel a9 a0).trans (congrFun (congrFun (congrFun (congr (congr (Eq.refl (refMRightF_l1 (R := Out) fuel m n)) ((refMRightF_s3_eq fuel  n m))) ((refMRightF_s4_eq fuel  n m))) fuel) a9) a0)))
theorem refMRight_loop {R : Type} (fuel : Nat) (m : List Rw) (n : Int) (hok : okM m = true) (hx : m.length ≤ 1000000) (k0 k1 : Option R) : ∀ (k j : Nat), j ≤ m.length → m.length < j + k → refMRightF_l1 fuel m n k0 k1 k (m.length : Int) (j : Int) = if ((m.drop j).all fun r => !(badR n r.1 r.2)) = true then k1 else k0
  | 0, j, h1, h2 => by omega
  | k + 1, j, h1, h2 => by
    unfold refMRightF_l1 refMRightF_s2
    rw [br_if]
    by_cases hc : j < m.length
    · have hw := okM_iff.1 hok _ (List.getElem_mem hc)
      rw [if_pos (by simpa using hc), bnd_of ((ix_nat m j).trans (List.getElem?_eq_getElem hc)), br_if, grd_of hw, br_if, List.drop_eq_getElem_cons hc, wrap_i64 (by omega) (by omega), show (j : Int) + 1 = ((j + 1 : Nat) : Int) by omega]
      dsimp only
      rw [refMRight_loop fuel m n hok hx k0 k1 k (j + 1) (by omega) (by omega), List.all_cons, badR_eq]
      unfold badI
      generalize m[j] = x
      by_cases h1 : x.1 = n
      · by_cases h2 : rtS x.1 x.2 = true
        · rw [if_neg (by simp [h1]), if_neg (by simp [h2]), decide_eq_false (by simp [h1]), h2, Bool.false_or, Bool.not_true, Bool.not_false, Bool.true_and]
        · rw [if_neg (by simp [h1]), if_pos (by simp [h2]), decide_eq_false (by simp [h1]), Bool.eq_false_iff.2 h2, Bool.false_or, Bool.not_false, Bool.not_true, Bool.false_and, if_neg (by decide)]
      · rw [if_pos (by simp [h1]), decide_eq_true h1, Bool.true_or, Bool.not_true, Bool.false_and, if_neg (by decide)]
    · rw [if_neg (by simpa using hc), List.drop_eq_nil_of_le (by omega), List.all_nil, if_pos rfl]
theorem refMRight_fact (n : Int) (m : List (Int × List Int)) (hg : (okM m && decide (m.length ≤ 1000000)) = true) : Fact Tryd.prog noG 16 [.agg [.s (.int .i64 n), .lt (.pair (.int .i64) (.sl (.int .u64))) m]] [] (.s (.bool (mrt n m)), []) := by
  rw [Bool.and_eq_true] at hg
  obtain ⟨hok, hx⟩ := hg
  have hx := of_decide_eq_true hx
  refine callN_fact hN hM T_mRight_ok (n := m.length + 1) (mode := mode14) ?_
  rw [refMRightF_eq]
  unfold refMRightF refMRightF_s1
  dsimp only
  have := refMRight_loop (R := Out) (m.length + 1) m n hok hx
  refine (this _ _ (m.length + 1) 0 (by omega) (by omega)).trans ?_
  rw [List.drop_zero, mrt_eq]
  unfold mrtI refMRightF_s3 refMRightF_s4
  by_cases ha : (m.all fun r => !(badR n r.1 r.2)) = true
  · rw [if_pos ha, ha, Bool.and_true, br_if, br_if]
    by_cases h1 : 0 ≤ n
    · rw [if_pos (by simpa using h1), decide_eq_true h1, Bool.true_and]
      by_cases h2 : n ≤ 64
      · rw [if_pos (by simpa using h2), decide_eq_true h2, Bool.true_and]
        have : decide (((m.length : Nat) : Int) ≤ 64) = decide (m.length ≤ 64) := by rw [decide_eq_decide]; omega
        rw [this]
      · rw [if_neg (by simpa using h2), decide_eq_false h2]; rfl
    · rw [if_neg (by simpa using h1), decide_eq_false h1]; rfl
  · rw [if_neg ha, Bool.eq_false_iff.2 ha, Bool.and_false]
noncomputable def refMRight_ent : List V → List Blk → Option (Bool × Out)
  | [.agg [.s (.int .i64 n), w0]], [] => (asSl (.pair (.int .i64) (.sl (.int .u64))) w0).bind fun m => some ((okM m && decide (m.length ≤ 1000000)), (.s (.bool (mrt n m)), []))
  | _, _ => none
theorem refMRight_ok : ∀ args bs out, refMRight_ent args bs = some (true, out) → Fact Tryd.prog noG 16 args bs out := by
  intro args bs out h
  unfold refMRight_ent at h
  split at h
  · rename_i n w0
    obtain ⟨m, h_m, h⟩ := Option.bind_eq_some_iff.1 h
    simp only [Option.some.injEq, Prod.mk.injEq] at h
    obtain ⟨hg, rfl⟩ := h
    exact (refMRight_fact n m hg).args (fun _ _ _ => fun _ h => RVs_two (fun _ h => RV_agg_two (fun _ h => RVs_two (fun _ h => h) (fun _ h => RVs_two (fun _ h => RV_sl (s := (.pair (.int .i64) (.sl (.int .u64)))) h_m h) (fun _ h => h) h) h) h) (fun _ h => h) h)
  · cases h
noncomputable def T_refMRight : Tbl := Tbl.cons 16 refMRight_ent T_mRight
theorem T_refMRight_ok : CallOk Tryd.prog noG T_refMRight := cons_ok T_mRight_ok refMRight_ok
end Go.Proofs.YtfpdcfgjhkiklaaDoor
