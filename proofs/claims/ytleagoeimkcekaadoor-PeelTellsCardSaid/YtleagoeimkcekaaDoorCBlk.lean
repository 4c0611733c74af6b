/- Blocks: what each function tells. -/
import Derived.Test.YtleagoeimkcekaaDoorPmTab
import Derived.KernelRfl
import Derived.Test.YtleagoeimkcekaaDoorProg
import Derived.Test.YtleagoeimkcekaaDoorCore
set_option autoImplicit false
set_option maxRecDepth 100000
set_option maxHeartbeats 4000000
set_option linter.unusedVariables false
set_option linter.unusedSimpArgs false
namespace Go.Proofs.YtleagoeimkcekaaDoor
open Go Go.PM Go.Proofs Go.Shelf Go.PM.Row Go.PM.Bits Go.PM.Bit Go.PM.Blk
/-! Blocks: what the functions tell. -/
theorem ba_eq {a : ByteArray} {l : List UInt8} (h : a.data.toList = l) : a = ⟨⟨l⟩⟩ := by
  obtain ⟨⟨d⟩⟩ := a
  subst h; rfl
def sz64 (n : Int) : Bool := decide (0 ≤ n) && decide (n ≤ 64)
theorem sz64_iff {n : Int} : sz64 n = true ↔ 0 ≤ n ∧ n ≤ 64 := by unfold sz64; simp
noncomputable def xorTI (a b : ByteArray) : ByteArray := if bok a.size [a, b] = true then txt (xb (bytesL a) (bytesL b)) else ByteArray.empty
noncomputable def xorT : ByteArray → ByteArray → ByteArray := Classical.choose (⟨xorTI, rfl⟩ : ∃ f, f = xorTI)
theorem xorT_eq : xorT = xorTI := Classical.choose_spec (⟨xorTI, rfl⟩ : ∃ f, f = xorTI)
noncomputable def sumTI (n : Int) (l : List ByteArray) : ByteArray := if bok n l = true then txt (sumS n l) else ByteArray.empty
noncomputable def sumT : Int → List ByteArray → ByteArray := Classical.choose (⟨sumTI, rfl⟩ : ∃ f, f = sumTI)
theorem sumT_eq : sumT = sumTI := Classical.choose_spec (⟨sumTI, rfl⟩ : ∃ f, f = sumTI)
noncomputable def zeroTI (n : Int) : ByteArray := if sz64 n = true then txt (zb n.toNat) else ByteArray.empty
noncomputable def zeroT : Int → ByteArray := Classical.choose (⟨zeroTI, rfl⟩ : ∃ f, f = zeroTI)
theorem zeroT_eq : zeroT = zeroTI := Classical.choose_spec (⟨zeroTI, rfl⟩ : ∃ f, f = zeroTI)
noncomputable def trimLI (s : ByteArray) : ByteArray := txt ((bytesL s).dropWhile fun x => decide (x = 0))
noncomputable def trimLS : ByteArray → ByteArray := Classical.choose (⟨trimLI, rfl⟩ : ∃ f, f = trimLI)
theorem trimLS_eq : trimLS = trimLI := Classical.choose_spec (⟨trimLI, rfl⟩ : ∃ f, f = trimLI)
noncomputable def trimRI (s : ByteArray) : ByteArray := txt (((bytesL s).reverse.dropWhile fun x => decide (x = 0)).reverse)
noncomputable def trimRS : ByteArray → ByteArray := Classical.choose (⟨trimRI, rfl⟩ : ∃ f, f = trimRI)
theorem trimRS_eq : trimRS = trimRI := Classical.choose_spec (⟨trimRI, rfl⟩ : ∃ f, f = trimRI)
noncomputable def sumBI (n : Int) (l : List ByteArray) (b : List Int) : List Int := (l.zip b).foldl (fun a p => if p.2 = 1 then xb a (bytesL p.1) else a) (zb n.toNat)
noncomputable def sumBS : Int → List ByteArray → List Int → List Int := Classical.choose (⟨sumBI, rfl⟩ : ∃ f, f = sumBI)
theorem sumBS_eq : sumBS = sumBI := Classical.choose_spec (⟨sumBI, rfl⟩ : ∃ f, f = sumBI)
def ones (k : Nat) : List Int := List.replicate k 1
theorem ones_len (k : Nat) : (ones k).length = k := by unfold ones; simp
def eqTI (a b : List ByteArray) : Bool := decide (a = b)
noncomputable def eqTS : List ByteArray → List ByteArray → Bool := Classical.choose (⟨eqTI, rfl⟩ : ∃ f, f = eqTI)
theorem eqTS_eq : eqTS = eqTI := Classical.choose_spec (⟨eqTI, rfl⟩ : ∃ f, f = eqTI)
theorem empty_bytes : bytesL ByteArray.empty = [] := rfl
theorem eq_empty {s : ByteArray} : s = ByteArray.empty ↔ bytesL s = [] := ⟨fun h => by rw [h]; rfl, fun h => bytes_inj (h.trans empty_bytes.symm)⟩
theorem set_step {a t : List Int} {j : Nat} (hl : t.length = a.length) (hj : j < a.length) : (t.take j ++ a.drop j).set j (t[j]'(by omega)) = t.take (j + 1) ++ a.drop (j + 1) := by
  have h1 : (t.take j).length = j := by rw [List.length_take]; omega
  rw [List.drop_eq_getElem_cons hj, List.set_append_right _ _ (by omega), h1, Nat.sub_self, List.set_cons_zero, List.take_succ_eq_append_getElem (by omega), List.append_assoc]
  rfl
theorem get_step {a t : List Int} {j : Nat} (hl : t.length = a.length) (hj : j < a.length) : (t.take j ++ a.drop j)[0 + j]? = some a[j] := by
  have h1 : (t.take j).length = j := by rw [List.length_take]; omega
  rw [Nat.zero_add, List.getElem?_append_right (by omega), h1, Nat.sub_self, List.drop_eq_getElem_cons hj]
  rfl
theorem getD_get {a : List Int} {j : Nat} (hj : j < a.length) : a.getD j 0 = a[j] := by rw [List.getD_eq_getElem?_getD, List.getElem?_eq_getElem hj]; rfl
theorem fill_eq (a : List Int) (n : Nat) (h : a.length = n) : (List.replicate n (0 : Int)).take 0 ++ (a.take n) ++ (List.replicate n (0 : Int)).drop (0 + (a.take n).length) = a := by
  subst h
  rw [List.take_length, List.take_zero, List.nil_append, List.drop_eq_nil_of_le (by simp), List.append_nil]
def mode4 : FuncId → Nat := fun f => bif Nat.beq f 114 then 2 else 0
/-! downpour/block.sized -/
noncomputable def bsizedF_s1 {R : Type} (n : Int) (c0 : Bool → Option R) : Option R :=
  br (decide (n ≥ 0))
    (c0 (decide (n ≤ 64)))
    (c0 false)
theorem bsizedF_s1_eq (fuel : Nat)  (n : Int) : callN Tryd.prog mode4 T_places fuel 115 [.s (.int .i64 n)] [] = bsizedF_s1 n (fun (a1 : Bool) => some (.s (.bool a1), [])) := by kernel_rfl
noncomputable def bsizedF {R : Type} (fuel : Nat) (n : Int) (r0 : Bool → Option R) : Option R :=
  (bsizedF_s1 n (fun (a1 : Bool) => r0 a1))
theorem bsizedF_eq (fuel : Nat) (n : Int) : callN Tryd.prog mode4 T_places fuel 115 [.s (.int .i64 n)] [] = bsizedF fuel n (fun (z0 : Bool) => some (.s (.bool z0), [])) := by
  unfold bsizedF
  exact (bsizedF_s1_eq fuel  n)
theorem bsized_fact (n : Int) : Fact Tryd.prog gTab 115 [.s (.int .i64 n)] [] (.s (.bool (sz64 n)), []) := by
  refine callN_fact hN hM T_places_ok (n := 0) (mode := mode4) ?_
  rw [bsizedF_eq]
  unfold bsizedF bsizedF_s1 sz64
  rw [br_if]
  by_cases h : n ≥ 0
  · rw [if_pos (by simpa using h), decide_eq_true h, Bool.true_and]
  · rw [if_neg (by simpa using h), decide_eq_false h, Bool.false_and]
noncomputable def bsized_ent : List V → List Blk → Option (Bool × Out)
  | [.s (.int .i64 n)], [] => some (true, (.s (.bool (sz64 n)), []))
  | _, _ => none
theorem bsized_ok : ∀ args bs out, bsized_ent args bs = some (true, out) → Fact Tryd.prog gTab 115 args bs out := by
  intro args bs out h
  unfold bsized_ent at h
  split at h
  · rename_i n
    simp only [Option.some.injEq, Prod.mk.injEq] at h
    obtain ⟨_, rfl⟩ := h
    exact bsized_fact n
  · cases h
noncomputable def T_bsized : Tbl := Tbl.cons 115 bsized_ent T_places
theorem T_bsized_ok : CallOk Tryd.prog gTab T_bsized := cons_ok T_places_ok bsized_ok
/-! downpour/block.into -/
noncomputable def intoF_s2 {R : Type} (w8 : Int) (w7 : Int) (m : Nat) (w9 : List Int) (s : ByteArray) (c0 : Int → Int → List Int → Option R) (c1 : List Int → Option R) : Option R :=
  br (decide (w8 < w7))
    (bnd (below w8 m) fun j16 =>
    bnd (w9[(0 + j16)]?) fun e17 =>
    bnd (ix s.data.toList w8) fun ub18 =>
    bnd (below w8 m) fun j19 =>
    bnd (w9[(0 + j19)]?) fun e20 =>
    c0 w7 (IntKind.i64.wrap (w8 + 1)) (w9.set (0 + j19) (xorI .u8 e17 ((ub18.toNat : Nat) : Int))))
    (c1 w9)
theorem intoF_s2_eq (fuel : Nat) (k : Nat) (K : Ex → St → Option Out) (w8 : Int) (w7 : Int) (m : Nat) (w9 : List Int) (s : ByteArray) : lpN (sub (bodyOf Tryd.prog 114) [1, 0, 0]) (fnX Tryd.prog mode4 T_bsized fuel 20 1) 0 [0, 1, 6, 7] (k + 1) ⟨[(0, .sl 0 1 0 m), (1, .s (.string s)), (6, .s (.int .i64 w7)), (7, .s (.int .i64 w8))], [(0, some ⟨5, .li .u8 w9, true⟩)], 1, none⟩ K = intoF_s2 w8 w7 m w9 s (fun (a21 : Int) (a22 : Int) (a23 : List Int) => lpN (sub (bodyOf Tryd.prog 114) [1, 0, 0]) (fnX Tryd.prog mode4 T_bsized fuel 20 1) 0 [0, 1, 6, 7] k ⟨[(0, .sl 0 1 0 m), (1, .s (.string s)), (6, .s (.int .i64 a21)), (7, .s (.int .i64 a22))], [(0, some ⟨5, .li .u8 a23, true⟩)], 1, none⟩ K) (fun (a24 : List Int) => K (.exit 0) ⟨[], [(0, some ⟨5, .li .u8 a24, true⟩)], 1, none⟩) := by kernel_rfl
noncomputable def intoF_l1 {R : Type} (fuel : Nat) (m : Nat) (s : ByteArray) (k0 : List Int → Option R) : Nat → Int → Int → List Int → Option R
  | 0, _, _, _ => none
  | k + 1, w7, w8, w9 =>
    (intoF_s2 w8 w7 m w9 s (fun (a21 : Int) (a22 : Int) (a23 : List Int) => ( intoF_l1 fuel m s k0 k a21 a22 a23 )) (fun (a24 : List Int) => k0 a24))
theorem intoF_l1_eq (fuel : Nat) (m : Nat) (s : ByteArray) (K : Ex → St → Option Out) : ∀ (k : Nat) (w7 : Int) (w8 : Int) (w9 : List Int), lpN (sub (bodyOf Tryd.prog 114) [1, 0, 0]) (fnX Tryd.prog mode4 T_bsized fuel 20 1) 0 [0, 1, 6, 7] k ⟨[(0, .sl 0 1 0 m), (1, .s (.string s)), (6, .s (.int .i64 w7)), (7, .s (.int .i64 w8))], [(0, some ⟨5, .li .u8 w9, true⟩)], 1, none⟩ K = intoF_l1 fuel m s (fun (y15 : List Int) => K (.exit 0) ⟨[], [(0, some ⟨5, .li .u8 y15, true⟩)], 1, none⟩) k w7 w8 w9
  | 0, _, _, _ => rfl
  | k + 1, w7, w8, w9 => by
    unfold intoF_l1
    exact (intoF_s2_eq fuel k K w8 w7 m w9 s).trans (congr (congr (Eq.refl (intoF_s2 (R := Out) w8 w7 m w9 s)) (funext fun a21 => funext fun a22 => funext fun a23 => intoF_l1_eq fuel m s K k a21 a22 a23)) (rfl))
noncomputable def intoF_s3 {R : Type} (x28 : List Int) (c0 : List Int → Option R) : Option R :=
  c0 x28
theorem intoF_s3_eq (fuel : Nat)  (x28 : List Int) : (kont (fnX Tryd.prog mode4 T_bsized fuel 20 1) (bodyOf Tryd.prog 114) [1, 0] 0 (endK Tryd.prog 2 1 114)) (.exit 0) ⟨[], [(0, some ⟨5, .li .u8 x28, true⟩)], 1, none⟩ = intoF_s3 x28 (fun (a29 : List Int) => some (.tup [], [some ⟨5, .li .u8 a29, true⟩])) := by kernel_rfl
noncomputable def intoF_s1 {R : Type} (m : Nat) (a : List Int) (s : ByteArray) (c0 : Int → Int → List Int → Option R) : Option R :=
  c0 ((m : Nat) : Int) 0 a
theorem intoF_s1_eq (fuel : Nat)  (m : Nat) (a : List Int) (s : ByteArray) : callN Tryd.prog mode4 T_bsized fuel 114 [.sl 0 1 0 m, .s (.string s)] [⟨5, .li .u8 a, true⟩] = intoF_s1 m a s (fun (a25 : Int) (a26 : Int) (a27 : List Int) => lpN (sub (bodyOf Tryd.prog 114) [1, 0, 0]) (fnX Tryd.prog mode4 T_bsized fuel 20 1) 0 [0, 1, 6, 7] fuel ⟨[(0, .sl 0 1 0 m), (1, .s (.string s)), (6, .s (.int .i64 a25)), (7, .s (.int .i64 a26))], [(0, some ⟨5, .li .u8 a27, true⟩)], 1, none⟩ (kont (fnX Tryd.prog mode4 T_bsized fuel 20 1) (bodyOf Tryd.prog 114) [1, 0] 0 (endK Tryd.prog 2 1 114))) := by kernel_rfl
noncomputable def intoF {R : Type} (fuel : Nat) (m : Nat) (s : ByteArray) (a : List Int) (r0 : List Int → Option R) : Option R :=
  (intoF_s1 m a s (fun (a25 : Int) (a26 : Int) (a27 : List Int) => (intoF_l1 fuel m s (fun (x28 : List Int) => (intoF_s3 x28 (fun (a29 : List Int) => r0 a29))) fuel a25 a26 a27)))
theorem intoF_eq (fuel : Nat) (m : Nat) (s : ByteArray) (a : List Int) : callN Tryd.prog mode4 T_bsized fuel 114 [.sl 0 1 0 m, .s (.string s)] [⟨5, .li .u8 a, true⟩] = intoF fuel m s a (fun (z0 : List Int) => some (.tup [], [some ⟨5, .li .u8 z0, true⟩])) := by
  unfold intoF
  exact (intoF_s1_eq fuel  m a s).trans (congr (Eq.refl (intoF_s1 (R := Out) m a s)) (funext fun a25 => funext fun a26 => funext fun a27 => (intoF_l1_eq fuel m s (kont (fnX Tryd.prog mode4 T_bsized fuel 20 1) (bodyOf Tryd.prog 114) [1, 0] 0 (endK Tryd.prog 2 1 114)) fuel a25 a26 a27).trans (congrFun (congrFun (congrFun (congrFun (congr (Eq.refl (intoF_l1 (R := Out) fuel m s)) (funext fun x28 => (intoF_s3_eq fuel  x28))) fuel) a25) a26) a27)))
theorem into_loop {R : Type} (fuel : Nat) (s : ByteArray) (a : List Int) (hs : a.length ≤ s.size) (hx : a.length ≤ 1000000) (k0 : List Int → Option R) : ∀ (k j : Nat), j ≤ a.length → a.length < j + k → intoF_l1 fuel a.length s k0 k (a.length : Int) (j : Int) ((xb a (bytesL s)).take j ++ a.drop j) = k0 (xb a (bytesL s))
  | 0, j, h1, h2 => by omega
  | k + 1, j, h1, h2 => by
    have hl : (xb a (bytesL s)).length = a.length := by rw [xb_len, bytes_len]; omega
    unfold intoF_l1 intoF_s2
    rw [br_if]
    by_cases hc : j < a.length
    · obtain ⟨c, e1, e2⟩ := ix_byte s j (by omega)
      have hx8 : xorI .u8 a[j] ((c.toNat : Nat) : Int) = (xb a (bytesL s))[j]'(by omega) := by
        rw [← getD_get (a := xb a (bytesL s)) (by omega), xb_getD hc (by rw [bytes_len]; omega), e2, getD_get hc]
      have eb : below (j : Int) a.length = some j := by rw [below_of (by omega) (by omega)]; rfl
      rw [if_pos (by simpa using hc), bnd_of eb, bnd_of (get_step hl hc), bnd_of e1, bnd_of eb, bnd_of (get_step hl hc), hx8, Nat.zero_add, set_step hl hc, wrap_i64 (by omega) (by omega), show (j : Int) + 1 = ((j + 1 : Nat) : Int) by omega]
      exact into_loop fuel s a hs hx k0 k (j + 1) (by omega) (by omega)
    · have e : j = a.length := by omega
      subst e
      rw [if_neg (by simp), List.drop_length, List.append_nil, List.take_of_length_le (by omega)]
theorem into_fact (m : Nat) (s : ByteArray) (a : List Int) (hg : (decide (m = a.length) && decide (a.length ≤ s.size) && decide (a.length ≤ 1000000)) = true) : Fact Tryd.prog gTab 114 [.sl 0 1 0 m, .s (.string s)] [⟨5, .li .u8 a, true⟩] (.tup [], [some ⟨5, .li .u8 (xb a (bytesL s)), true⟩]) := by
  simp only [Bool.and_eq_true, decide_eq_true_eq] at hg
  obtain ⟨⟨rfl, hs⟩, hx⟩ := hg
  refine callN_fact hN hM T_bsized_ok (n := a.length + 1) (mode := mode4) ?_
  rw [intoF_eq]
  unfold intoF intoF_s1
  exact into_loop (a.length + 1) s a hs hx _ (a.length + 1) 0 (by omega) (by omega)
noncomputable def into_ent : List V → List Blk → Option (Bool × Out)
  | [.sl 0 1 0 m, .s (.string s)], [⟨5, .li .u8 a, true⟩] => some ((decide (m = a.length) && decide (a.length ≤ s.size) && decide (a.length ≤ 1000000)), (.tup [], [some ⟨5, .li .u8 (xb a (bytesL s)), true⟩]))
  | _, _ => none
theorem into_ok : ∀ args bs out, into_ent args bs = some (true, out) → Fact Tryd.prog gTab 114 args bs out := by
  intro args bs out h
  unfold into_ent at h
  split at h
  · rename_i m s a
    simp only [Option.some.injEq, Prod.mk.injEq] at h
    obtain ⟨hg, rfl⟩ := h
    exact into_fact m s a hg
  · cases h
noncomputable def T_into : Tbl := Tbl.cons 114 into_ent T_bsized
theorem T_into_ok : CallOk Tryd.prog gTab T_into := cons_ok T_bsized_ok into_ok
/-! downpour/block.may -/
noncomputable def bmayF_s2 {R : Type} (w5 : Int) (w6 : Int) (l : List ByteArray) (n : Int) (c0 : Option R) (c1 : Int → Int → Option R) (c2 : Option R) : Option R :=
  br (decide (w5 < w6))
    (bnd (ix l w5) fun e8 =>
    br (((e8.size : Nat) : Int) != n)
      (c0)
      (c1 w6 (IntKind.i64.wrap (w5 + 1))))
    (c2)
theorem bmayF_s2_eq (fuel : Nat) (k : Nat) (K : Ex → St → Option Out) (w5 : Int) (w6 : Int) (l : List ByteArray) (n : Int) : lpN (sub (bodyOf Tryd.prog 113) [1, 1, 0, 1, 0, 0]) (fnX Tryd.prog mode4 T_into fuel 26 0) 16 [0, 4, 15, 16, 17] (k + 1) ⟨[(0, .s (.int .i64 n)), (4, .s (.int .i64 0)), (15, .ls l), (16, .s (.int .i64 w6)), (17, .s (.int .i64 w5))], [], 0, none⟩ K = bmayF_s2 w5 w6 l n (K .ret ⟨[(4, .s (.int .i64 2))], [], 0, none⟩) (fun (a9 : Int) (a10 : Int) => lpN (sub (bodyOf Tryd.prog 113) [1, 1, 0, 1, 0, 0]) (fnX Tryd.prog mode4 T_into fuel 26 0) 16 [0, 4, 15, 16, 17] k ⟨[(0, .s (.int .i64 n)), (4, .s (.int .i64 0)), (15, .ls l), (16, .s (.int .i64 a9)), (17, .s (.int .i64 a10))], [], 0, none⟩ K) (K (.exit 0) ⟨[(4, .s (.int .i64 0))], [], 0, none⟩) := by kernel_rfl
noncomputable def bmayF_l1 {R : Type} (fuel : Nat) (n : Int) (l : List ByteArray) (k0 : Option R) (k1 : Option R) : Nat → Int → Int → Option R
  | 0, _, _ => none
  | k + 1, w6, w5 =>
    (bmayF_s2 w5 w6 l n (k0) (fun (a9 : Int) (a10 : Int) => ( bmayF_l1 fuel n l k0 k1 k a9 a10 )) (k1))
theorem bmayF_l1_eq (fuel : Nat) (n : Int) (l : List ByteArray) (K : Ex → St → Option Out) : ∀ (k : Nat) (w6 : Int) (w5 : Int), lpN (sub (bodyOf Tryd.prog 113) [1, 1, 0, 1, 0, 0]) (fnX Tryd.prog mode4 T_into fuel 26 0) 16 [0, 4, 15, 16, 17] k ⟨[(0, .s (.int .i64 n)), (4, .s (.int .i64 0)), (15, .ls l), (16, .s (.int .i64 w6)), (17, .s (.int .i64 w5))], [], 0, none⟩ K = bmayF_l1 fuel n l (K .ret ⟨[(4, .s (.int .i64 2))], [], 0, none⟩) (K (.exit 0) ⟨[(4, .s (.int .i64 0))], [], 0, none⟩) k w6 w5
  | 0, _, _ => rfl
  | k + 1, w6, w5 => by
    unfold bmayF_l1
    exact (bmayF_s2_eq fuel k K w5 w6 l n).trans (congr (congr (congr (Eq.refl (bmayF_s2 (R := Out) w5 w6 l n)) (rfl)) (funext fun a9 => funext fun a10 => bmayF_l1_eq fuel n l K k a9 a10)) (rfl))
noncomputable def bmayF_s3 {R : Type}  (c0 : Int → Option R) : Option R :=
  c0 2
theorem bmayF_s3_eq (fuel : Nat)   : (kont (fnX Tryd.prog mode4 T_into fuel 26 0) (bodyOf Tryd.prog 113) [1, 1, 0, 1, 0] 16 (endK Tryd.prog 0 0 113)) .ret ⟨[(4, .s (.int .i64 2))], [], 0, none⟩ = bmayF_s3  (fun (a13 : Int) => some (.s (.int .i64 a13), [])) := by kernel_rfl
noncomputable def bmayF_s4 {R : Type}  (c0 : Int → Option R) : Option R :=
  c0 0
theorem bmayF_s4_eq (fuel : Nat)   : (kont (fnX Tryd.prog mode4 T_into fuel 26 0) (bodyOf Tryd.prog 113) [1, 1, 0, 1, 0] 16 (endK Tryd.prog 0 0 113)) (.exit 0) ⟨[(4, .s (.int .i64 0))], [], 0, none⟩ = bmayF_s4  (fun (a14 : Int) => some (.s (.int .i64 a14), [])) := by kernel_rfl
noncomputable def bmayF_s1 {R : Type} (n : Int) (l : List ByteArray) (c0 : Int → Option R) (c1 : Int → Int → Option R) : Option R :=
  br (!(sz64 n))
    (c0 2)
    (br (decide ((((l.length : Nat) : Int) : Int) > 64))
      (c0 2)
      (c1 ((l.length : Nat) : Int) 0))
theorem bmayF_s1_eq (fuel : Nat)  (n : Int) (l : List ByteArray) : callN Tryd.prog mode4 T_into fuel 113 [.s (.int .i64 n), .ls l] [] = bmayF_s1 n l (fun (a1 : Int) => some (.s (.int .i64 a1), [])) (fun (a11 : Int) (a12 : Int) => lpN (sub (bodyOf Tryd.prog 113) [1, 1, 0, 1, 0, 0]) (fnX Tryd.prog mode4 T_into fuel 26 0) 16 [0, 4, 15, 16, 17] fuel ⟨[(0, .s (.int .i64 n)), (4, .s (.int .i64 0)), (15, .ls l), (16, .s (.int .i64 a11)), (17, .s (.int .i64 a12))], [], 0, none⟩ (kont (fnX Tryd.prog mode4 T_into fuel 26 0) (bodyOf Tryd.prog 113) [1, 1, 0, 1, 0] 16 (endK Tryd.prog 0 0 113))) := by kernel_rfl
noncomputable def bmayF {R : Type} (fuel : Nat) (n : Int) (l : List ByteArray) (r0 : Int → Option R) : Option R :=
  (bmayF_s1 n l (fun (a1 : Int) => r0 a1) (fun (a11 : Int) (a12 : Int) => (bmayF_l1 fuel n l ((bmayF_s3 (fun (a13 : Int) => r0 a13))) ((bmayF_s4 (fun (a14 : Int) => r0 a14))) fuel a11 a12)))
theorem bmayF_eq (fuel : Nat) (n : Int) (l : List ByteArray) : callN Tryd.prog mode4 T_into fuel 113 [.s (.int .i64 n), .ls l] [] = bmayF fuel n l (fun (z0 : Int) => some (.s (.int .i64 z0), [])) := by
  unfold bmayF
  exact (bmayF_s1_eq fuel  n l).trans (congr (congr (Eq.refl (bmayF_s1 (R := Out) n l)) (rfl)) (funext fun a11 => funext fun a12 => (bmayF_l1_eq fuel n l (kont (fnX Tryd.prog mode4 T_into fuel 26 0) (bodyOf Tryd.prog 113) [1, 1, 0, 1, 0] 16 (endK Tryd.prog 0 0 113)) fuel a11 a12).trans (congrFun (congrFun (congrFun (congr (congr (Eq.refl (bmayF_l1 (R := Out) fuel n l)) ((bmayF_s3_eq fuel  ))) ((bmayF_s4_eq fuel  ))) fuel) a11) a12)))
theorem bmay_loop {R : Type} (fuel : Nat) (n : Int) (l : List ByteArray) (hx : l.length ≤ 1000000) (k0 k1 : Option R) : ∀ (k j : Nat), j ≤ l.length → l.length < j + k → bmayF_l1 fuel n l k0 k1 k (l.length : Int) (j : Int) = if (∀ s ∈ l.drop j, (s.size : Int) = n) then k1 else k0
  | 0, j, h1, h2 => by omega
  | k + 1, j, h1, h2 => by
    unfold bmayF_l1 bmayF_s2
    rw [br_if]
    by_cases hc : j < l.length
    · rw [if_pos (by simpa using hc), bnd_of ((ix_nat l j).trans (List.getElem?_eq_getElem hc)), br_if, List.drop_eq_getElem_cons hc, wrap_i64 (by omega) (by omega), show (j : Int) + 1 = ((j + 1 : Nat) : Int) by omega]
      dsimp only
      rw [bmay_loop fuel n l hx k0 k1 k (j + 1) (by omega) (by omega)]
      generalize l[j] = x
      generalize l.drop (j + 1) = t
      by_cases he : ((x.size : Nat) : Int) = n <;> simp [he]
    · rw [if_neg (by simpa using hc), List.drop_eq_nil_of_le (by omega)]
      simp
theorem bmay_fact (n : Int) (l : List ByteArray) : Fact Tryd.prog gTab 113 [.s (.int .i64 n), .ls l] [] (.s (.int .i64 (errB n l)), []) := by
  refine callN_fact hN hM T_into_ok (n := 66) (mode := mode4) ?_
  rw [bmayF_eq]
  unfold bmayF bmayF_s1 errB
  have hno : ∀ h : ¬ bok n l = true, bok n l = false := fun h => by rw [Bool.eq_false_iff]; exact h
  rw [br_if]
  by_cases hs : sz64 n = true
  · obtain ⟨h0, h1⟩ := sz64_iff.1 hs
    rw [if_neg (by simp [hs]), br_if]
    by_cases hx : l.length ≤ 64
    · rw [if_neg (by simp; omega)]
      have := bmay_loop (R := Out) 66 n l (by omega)
      dsimp only
      rw [show (0 : Int) = ((0 : Nat) : Int) from rfl, this _ _ 66 0 (by omega) (by omega), List.drop_zero]
      by_cases ha : ∀ s ∈ l, (s.size : Int) = n
      · rw [if_pos ha, if_pos (bok_iff.2 ⟨⟨h0, h1⟩, hx, ha⟩)]; rfl
      · rw [if_neg ha, hno fun h => ha (bok_iff.1 h).2.2]; rfl
    · rw [if_pos (by simp; omega), hno fun h => hx (bok_iff.1 h).2.1]; rfl
  · rw [if_pos (by simp [hs]), hno fun h => hs (sz64_iff.2 (bok_iff.1 h).1)]; rfl
noncomputable def bmay_ent : List V → List Blk → Option (Bool × Out)
  | [.s (.int .i64 n), w0], [] => (asSl .str w0).bind fun l => some (true, (.s (.int .i64 (errB n l)), []))
  | _, _ => none
theorem bmay_ok : ∀ args bs out, bmay_ent args bs = some (true, out) → Fact Tryd.prog gTab 113 args bs out := by
  intro args bs out h
  unfold bmay_ent at h
  split at h
  · rename_i n w0
    obtain ⟨l, h_l, h⟩ := Option.bind_eq_some_iff.1 h
    simp only [Option.some.injEq, Prod.mk.injEq] at h
    obtain ⟨_, rfl⟩ := h
    exact (bmay_fact n l).args (fun _ _ _ => fun _ h => RVs_two (fun _ h => h) (fun _ h => RVs_two (fun _ h => RV_ls h_l h) (fun _ h => h) h) h)
  · cases h
noncomputable def T_bmay : Tbl := Tbl.cons 113 bmay_ent T_into
theorem T_bmay_ok : CallOk Tryd.prog gTab T_bmay := cons_ok T_into_ok bmay_ok
/-! downpour/block.Xor -/
noncomputable def BxorF_s1 {R : Type} (a : ByteArray) (b : ByteArray) (c0 : ByteArray → Int → Option R) : Option R :=
  br (((errB ((a.size : Nat) : Int) ([a, b])) : Int) != 0)
    (c0 ByteArray.empty (errB ((a.size : Nat) : Int) ([a, b])))
    (bnd (mkN ((a.size : Nat) : Int) ((a.size : Nat) : Int) 1) fun n3 =>
    grd (decide (n3 = ((List.replicate n3 (0 : Int)).take 0 ++ ((bytesL a).take n3) ++ (List.replicate n3 (0 : Int)).drop (0 + ((bytesL a).take n3).length)).length) && decide (((List.replicate n3 (0 : Int)).take 0 ++ ((bytesL a).take n3) ++ (List.replicate n3 (0 : Int)).drop (0 + ((bytesL a).take n3).length)).length ≤ b.size) && decide (((List.replicate n3 (0 : Int)).take 0 ++ ((bytesL a).take n3) ++ (List.replicate n3 (0 : Int)).drop (0 + ((bytesL a).take n3).length)).length ≤ 1000000)) <|
    grd (Nat.ble (0 + n3) ((xb ((List.replicate n3 (0 : Int)).take 0 ++ ((bytesL a).take n3) ++ (List.replicate n3 (0 : Int)).drop (0 + ((bytesL a).take n3).length)) (bytesL b)).length)) <|
    c0 (txt ((((xb ((List.replicate n3 (0 : Int)).take 0 ++ ((bytesL a).take n3) ++ (List.replicate n3 (0 : Int)).drop (0 + ((bytesL a).take n3).length)) (bytesL b))).drop 0).take n3)) 0)
theorem BxorF_s1_eq (fuel : Nat)  (a : ByteArray) (b : ByteArray) : callN Tryd.prog mode4 T_bmay fuel 58 [.s (.string a), .s (.string b)] [] = BxorF_s1 a b (fun (a1 : ByteArray) (a2 : Int) => some (.tup [.s (.string a1), .s (.int .i64 a2)], [])) := by kernel_rfl
noncomputable def BxorF {R : Type} (fuel : Nat) (a : ByteArray) (b : ByteArray) (r0 : ByteArray → Int → Option R) : Option R :=
  (BxorF_s1 a b (fun (a1 : ByteArray) (a2 : Int) => r0 a1 a2))
theorem BxorF_eq (fuel : Nat) (a : ByteArray) (b : ByteArray) : callN Tryd.prog mode4 T_bmay fuel 58 [.s (.string a), .s (.string b)] [] = BxorF fuel a b (fun (z0 : ByteArray) (z1 : Int) => some (.tup [.s (.string z0), .s (.int .i64 z1)], [])) := by
  unfold BxorF
  exact (BxorF_s1_eq fuel  a b)
theorem Bxor_fact (a : ByteArray) (b : ByteArray) : Fact Tryd.prog gTab 58 [.s (.string a), .s (.string b)] [] (.tup [.s (.string (xorT a b)), .s (.int .i64 (errB ((a.size : Nat) : Int) [a, b]))], []) := by
  refine callN_fact hN hM T_bmay_ok (n := 0) (mode := mode4) ?_
  rw [BxorF_eq]
  unfold BxorF BxorF_s1
  rw [br_if, xorT_eq]
  unfold xorTI errB
  by_cases hb : bok ((a.size : Nat) : Int) [a, b] = true
  · obtain ⟨⟨h0, h1⟩, h2, h3⟩ := bok_iff.1 hb
    have hba := h3 b (by simp)
    have hl : (xb (bytesL a) (bytesL b)).length = a.size := by rw [xb_len, bytes_len, bytes_len]; omega
    rw [if_pos hb, if_pos hb, if_neg (by decide), bnd_of (mkN_of (by omega) (by omega) (by omega)), Int.toNat_natCast, fill_eq (bytesL a) a.size (bytes_len a), grd_of (by simp [bytes_len]; omega), grd_of (by rw [hl]; simp), List.drop_zero, ← hl, List.take_length]
  · rw [if_neg hb, if_neg hb, if_pos (by decide)]
noncomputable def Bxor_ent : List V → List Blk → Option (Bool × Out)
  | [.s (.string a), .s (.string b)], [] => some (true, (.tup [.s (.string (xorT a b)), .s (.int .i64 (errB ((a.size : Nat) : Int) [a, b]))], []))
  | _, _ => none
theorem Bxor_ok : ∀ args bs out, Bxor_ent args bs = some (true, out) → Fact Tryd.prog gTab 58 args bs out := by
  intro args bs out h
  unfold Bxor_ent at h
  split at h
  · rename_i a b
    simp only [Option.some.injEq, Prod.mk.injEq] at h
    obtain ⟨_, rfl⟩ := h
    exact Bxor_fact a b
  · cases h
noncomputable def T_Bxor : Tbl := Tbl.cons 58 Bxor_ent T_bmay
theorem T_Bxor_ok : CallOk Tryd.prog gTab T_Bxor := cons_ok T_bmay_ok Bxor_ok
/-! strings.trimLeftByte -/
noncomputable def trimLF_s2 {R : Type} (w3 : ByteArray) (c0 : ByteArray → Option R) (c1 : ByteArray → Option R) (c2 : ByteArray → Option R) : Option R :=
  br (decide ((((w3.size : Nat) : Int) : Int) > 0))
    (bnd (ix w3.data.toList 0) fun ub7 =>
    br ((((ub7.toNat : Nat) : Int) : Int) == 0)
      (bnd (upTo 1 w3.size) fun j8 =>
      c0 (w3.extract j8 w3.size))
      (c1 w3))
    (c2 w3)
theorem trimLF_s2_eq (fuel : Nat) (k : Nat) (K : Ex → St → Option Out) (w3 : ByteArray) : lpN (sub (bodyOf Tryd.prog 164) [1, 0, 0, 0]) (fnX Tryd.prog mode4 T_Bxor fuel 17 0) 65553 [0, 1, 4] (k + 1) ⟨[(0, .s (.string w3)), (1, .s (.int .u8 0)), (4, .s (.string ByteArray.empty))], [], 0, none⟩ K = trimLF_s2 w3 (fun (a9 : ByteArray) => lpN (sub (bodyOf Tryd.prog 164) [1, 0, 0, 0]) (fnX Tryd.prog mode4 T_Bxor fuel 17 0) 65553 [0, 1, 4] k ⟨[(0, .s (.string a9)), (1, .s (.int .u8 0)), (4, .s (.string ByteArray.empty))], [], 0, none⟩ K) (fun (a10 : ByteArray) => K (.exit 0) ⟨[(0, .s (.string a10)), (4, .s (.string ByteArray.empty))], [], 0, none⟩) (fun (a11 : ByteArray) => K (.exit 0) ⟨[(0, .s (.string a11)), (4, .s (.string ByteArray.empty))], [], 0, none⟩) := by kernel_rfl
noncomputable def trimLF_l1 {R : Type} (fuel : Nat)  (k0 : ByteArray → Option R) : Nat → ByteArray → Option R
  | 0, _ => none
  | k + 1, w3 =>
    (trimLF_s2 w3 (fun (a9 : ByteArray) => ( trimLF_l1 fuel k0 k a9 )) (fun (a10 : ByteArray) => k0 a10) (fun (a11 : ByteArray) => k0 a11))
theorem trimLF_l1_eq (fuel : Nat)  (K : Ex → St → Option Out) : ∀ (k : Nat) (w3 : ByteArray), lpN (sub (bodyOf Tryd.prog 164) [1, 0, 0, 0]) (fnX Tryd.prog mode4 T_Bxor fuel 17 0) 65553 [0, 1, 4] k ⟨[(0, .s (.string w3)), (1, .s (.int .u8 0)), (4, .s (.string ByteArray.empty))], [], 0, none⟩ K = trimLF_l1 fuel  (fun (y6 : ByteArray) => K (.exit 0) ⟨[(0, .s (.string y6)), (4, .s (.string ByteArray.empty))], [], 0, none⟩) k w3
  | 0, _ => rfl
  | k + 1, w3 => by
    unfold trimLF_l1
    exact (trimLF_s2_eq fuel k K w3).trans (congr (congr (congr (Eq.refl (trimLF_s2 (R := Out) w3)) (funext fun a9 => trimLF_l1_eq fuel  K k a9)) (rfl)) (rfl))
noncomputable def trimLF_s3 {R : Type} (x13 : ByteArray) (c0 : ByteArray → Option R) : Option R :=
  c0 x13
theorem trimLF_s3_eq (fuel : Nat)  (x13 : ByteArray) : (kont (fnX Tryd.prog mode4 T_Bxor fuel 17 0) (bodyOf Tryd.prog 164) [1, 0, 0] 16 (endK Tryd.prog 0 0 164)) (.exit 0) ⟨[(0, .s (.string x13)), (4, .s (.string ByteArray.empty))], [], 0, none⟩ = trimLF_s3 x13 (fun (a14 : ByteArray) => some (.s (.string a14), [])) := by kernel_rfl
noncomputable def trimLF_s1 {R : Type} (s : ByteArray) (c0 : ByteArray → Option R) : Option R :=
  c0 s
theorem trimLF_s1_eq (fuel : Nat)  (s : ByteArray) : callN Tryd.prog mode4 T_Bxor fuel 164 [.s (.string s), .s (.int .u8 0)] [] = trimLF_s1 s (fun (a12 : ByteArray) => lpN (sub (bodyOf Tryd.prog 164) [1, 0, 0, 0]) (fnX Tryd.prog mode4 T_Bxor fuel 17 0) 65553 [0, 1, 4] fuel ⟨[(0, .s (.string a12)), (1, .s (.int .u8 0)), (4, .s (.string ByteArray.empty))], [], 0, none⟩ (kont (fnX Tryd.prog mode4 T_Bxor fuel 17 0) (bodyOf Tryd.prog 164) [1, 0, 0] 16 (endK Tryd.prog 0 0 164))) := by kernel_rfl
noncomputable def trimLF {R : Type} (fuel : Nat) (s : ByteArray) (r0 : ByteArray → Option R) : Option R :=
  (trimLF_s1 s (fun (a12 : ByteArray) => (trimLF_l1 fuel (fun (x13 : ByteArray) => (trimLF_s3 x13 (fun (a14 : ByteArray) => r0 a14))) fuel a12)))
theorem trimLF_eq (fuel : Nat) (s : ByteArray) : callN Tryd.prog mode4 T_Bxor fuel 164 [.s (.string s), .s (.int .u8 0)] [] = trimLF fuel s (fun (z0 : ByteArray) => some (.s (.string z0), [])) := by
  unfold trimLF
  exact (trimLF_s1_eq fuel  s).trans (congr (Eq.refl (trimLF_s1 (R := Out) s)) (funext fun a12 => (trimLF_l1_eq fuel  (kont (fnX Tryd.prog mode4 T_Bxor fuel 17 0) (bodyOf Tryd.prog 164) [1, 0, 0] 16 (endK Tryd.prog 0 0 164)) fuel a12).trans (congrFun (congrFun (congr (Eq.refl (trimLF_l1 (R := Out) fuel )) (funext fun x13 => (trimLF_s3_eq fuel  x13))) fuel) a12)))
theorem trimL_loop {R : Type} (fuel : Nat) (k0 : ByteArray → Option R) : ∀ (k : Nat) (s : ByteArray), s.size < k → trimLF_l1 fuel k0 k s = k0 (trimLS s)
  | 0, s, h => by omega
  | k + 1, s, h => by
    unfold trimLF_l1 trimLF_s2
    rw [br_if, trimLS_eq]
    unfold trimLI
    by_cases hc : 0 < s.size
    · obtain ⟨c, e1, e2⟩ := ix_byte s 0 hc
      have e1 : ix s.data.toList 0 = some c := e1
      have hb : bytesL s = (bytesL s).getD 0 0 :: (bytesL s).drop 1 := by
        have hl := bytes_len s
        cases h3 : bytesL s with
        | nil => rw [h3] at hl; simp at hl; omega
        | cons x t => rfl
      rw [if_pos (by simp; omega), bnd_of e1, br_if, e2]
      by_cases hz : (bytesL s).getD 0 0 = 0
      · have hu : upTo 1 s.size = some 1 := by rw [upTo_of (by omega) (by omega)]; rfl
        rw [if_pos (by simpa using hz), bnd_of hu]
        dsimp only
        rw [trimL_loop fuel k0 k _ (by rw [ByteArray.size_extract]; omega), trimLS_eq]
        unfold trimLI
        have hd : bytesL (s.extract 1 s.size) = (bytesL s).drop 1 := by
          unfold bytesL
          rw [ByteArray.data_extract, Array.toList_extract, ← List.map_drop, List.extract_eq_take_drop, List.take_of_length_le (by rw [List.length_drop, Array.length_toList]; exact Nat.le_refl _)]
        rw [hd]
        conv => rhs; rw [hb]
        rw [List.dropWhile_cons_of_pos (by simpa using hz)]
      · rw [if_neg (by simpa using hz)]
        congr 1
        conv => rhs; rw [hb]
        rw [List.dropWhile_cons_of_neg (by simpa using hz), ← hb, txt_bytes]
    · rw [if_neg (by rw [decide_eq_true_eq]; omega)]
      have : bytesL s = [] := List.eq_nil_of_length_eq_zero (by rw [bytes_len]; omega)
      rw [this, eq_empty.2 this]; rfl
theorem trimL_fact (s : ByteArray) : Fact Tryd.prog gTab 164 [.s (.string s), .s (.int .u8 0)] [] (.s (.string (trimLS s)), []) := by
  refine callN_fact hN hM T_Bxor_ok (n := s.size + 1) (mode := mode4) ?_
  rw [trimLF_eq]
  unfold trimLF trimLF_s1
  dsimp only
  rw [trimL_loop _ _ _ _ (by omega)]
  rfl
noncomputable def trimL_ent : List V → List Blk → Option (Bool × Out)
  | [.s (.string s), .s (.int .u8 0)], [] => some (true, (.s (.string (trimLS s)), []))
  | _, _ => none
theorem trimL_ok : ∀ args bs out, trimL_ent args bs = some (true, out) → Fact Tryd.prog gTab 164 args bs out := by
  intro args bs out h
  unfold trimL_ent at h
  split at h
  · rename_i s
    simp only [Option.some.injEq, Prod.mk.injEq] at h
    obtain ⟨_, rfl⟩ := h
    exact trimL_fact s
  · cases h
noncomputable def T_trimL : Tbl := Tbl.cons 164 trimL_ent T_Bxor
theorem T_trimL_ok : CallOk Tryd.prog gTab T_trimL := cons_ok T_Bxor_ok trimL_ok
/-! strings.trimRightByte -/
noncomputable def trimRF_s2 {R : Type} (w3 : ByteArray) (c0 : ByteArray → Option R) (c1 : ByteArray → Option R) (c2 : ByteArray → Option R) : Option R :=
  br (decide ((((w3.size : Nat) : Int) : Int) > 0))
    (bnd (ix w3.data.toList (IntKind.i64.wrap (((w3.size : Nat) : Int) - 1))) fun ub7 =>
    br ((((ub7.toNat : Nat) : Int) : Int) == 0)
      (bnd (upTo (IntKind.i64.wrap (((w3.size : Nat) : Int) - 1)) w3.size) fun j8 =>
      c0 (w3.extract 0 j8))
      (c1 w3))
    (c2 w3)
theorem trimRF_s2_eq (fuel : Nat) (k : Nat) (K : Ex → St → Option Out) (w3 : ByteArray) : lpN (sub (bodyOf Tryd.prog 165) [1, 0, 0, 0]) (fnX Tryd.prog mode4 T_trimL fuel 23 0) 4194321 [0, 1, 4] (k + 1) ⟨[(0, .s (.string w3)), (1, .s (.int .u8 0)), (4, .s (.string ByteArray.empty))], [], 0, none⟩ K = trimRF_s2 w3 (fun (a9 : ByteArray) => lpN (sub (bodyOf Tryd.prog 165) [1, 0, 0, 0]) (fnX Tryd.prog mode4 T_trimL fuel 23 0) 4194321 [0, 1, 4] k ⟨[(0, .s (.string a9)), (1, .s (.int .u8 0)), (4, .s (.string ByteArray.empty))], [], 0, none⟩ K) (fun (a10 : ByteArray) => K (.exit 0) ⟨[(0, .s (.string a10)), (4, .s (.string ByteArray.empty))], [], 0, none⟩) (fun (a11 : ByteArray) => K (.exit 0) ⟨[(0, .s (.string a11)), (4, .s (.string ByteArray.empty))], [], 0, none⟩) := by kernel_rfl
noncomputable def trimRF_l1 {R : Type} (fuel : Nat)  (k0 : ByteArray → Option R) : Nat → ByteArray → Option R
  | 0, _ => none
  | k + 1, w3 =>
    (trimRF_s2 w3 (fun (a9 : ByteArray) => ( trimRF_l1 fuel k0 k a9 )) (fun (a10 : ByteArray) => k0 a10) (fun (a11 : ByteArray) => k0 a11))
theorem trimRF_l1_eq (fuel : Nat)  (K : Ex → St → Option Out) : ∀ (k : Nat) (w3 : ByteArray), lpN (sub (bodyOf Tryd.prog 165) [1, 0, 0, 0]) (fnX Tryd.prog mode4 T_trimL fuel 23 0) 4194321 [0, 1, 4] k ⟨[(0, .s (.string w3)), (1, .s (.int .u8 0)), (4, .s (.string ByteArray.empty))], [], 0, none⟩ K = trimRF_l1 fuel  (fun (y6 : ByteArray) => K (.exit 0) ⟨[(0, .s (.string y6)), (4, .s (.string ByteArray.empty))], [], 0, none⟩) k w3
  | 0, _ => rfl
  | k + 1, w3 => by
    unfold trimRF_l1
    exact (trimRF_s2_eq fuel k K w3).trans (congr (congr (congr (Eq.refl (trimRF_s2 (R := Out) w3)) (funext fun a9 => trimRF_l1_eq fuel  K k a9)) (rfl)) (rfl))
noncomputable def trimRF_s3 {R : Type} (x13 : ByteArray) (c0 : ByteArray → Option R) : Option R :=
  c0 x13
theorem trimRF_s3_eq (fuel : Nat)  (x13 : ByteArray) : (kont (fnX Tryd.prog mode4 T_trimL fuel 23 0) (bodyOf Tryd.prog 165) [1, 0, 0] 16 (endK Tryd.prog 0 0 165)) (.exit 0) ⟨[(0, .s (.string x13)), (4, .s (.string ByteArray.empty))], [], 0, none⟩ = trimRF_s3 x13 (fun (a14 : ByteArray) => some (.s (.string a14), [])) := by kernel_rfl
noncomputable def trimRF_s1 {R : Type} (s : ByteArray) (c0 : ByteArray → Option R) : Option R :=
  c0 s
theorem trimRF_s1_eq (fuel : Nat)  (s : ByteArray) : callN Tryd.prog mode4 T_trimL fuel 165 [.s (.string s), .s (.int .u8 0)] [] = trimRF_s1 s (fun (a12 : ByteArray) => lpN (sub (bodyOf Tryd.prog 165) [1, 0, 0, 0]) (fnX Tryd.prog mode4 T_trimL fuel 23 0) 4194321 [0, 1, 4] fuel ⟨[(0, .s (.string a12)), (1, .s (.int .u8 0)), (4, .s (.string ByteArray.empty))], [], 0, none⟩ (kont (fnX Tryd.prog mode4 T_trimL fuel 23 0) (bodyOf Tryd.prog 165) [1, 0, 0] 16 (endK Tryd.prog 0 0 165))) := by kernel_rfl
noncomputable def trimRF {R : Type} (fuel : Nat) (s : ByteArray) (r0 : ByteArray → Option R) : Option R :=
  (trimRF_s1 s (fun (a12 : ByteArray) => (trimRF_l1 fuel (fun (x13 : ByteArray) => (trimRF_s3 x13 (fun (a14 : ByteArray) => r0 a14))) fuel a12)))
theorem trimRF_eq (fuel : Nat) (s : ByteArray) : callN Tryd.prog mode4 T_trimL fuel 165 [.s (.string s), .s (.int .u8 0)] [] = trimRF fuel s (fun (z0 : ByteArray) => some (.s (.string z0), [])) := by
  unfold trimRF
  exact (trimRF_s1_eq fuel  s).trans (congr (Eq.refl (trimRF_s1 (R := Out) s)) (funext fun a12 => (trimRF_l1_eq fuel  (kont (fnX Tryd.prog mode4 T_trimL fuel 23 0) (bodyOf Tryd.prog 165) [1, 0, 0] 16 (endK Tryd.prog 0 0 165)) fuel a12).trans (congrFun (congrFun (congr (Eq.refl (trimRF_l1 (R := Out) fuel )) (funext fun x13 => (trimRF_s3_eq fuel  x13))) fuel) a12)))
theorem trimR_loop {R : Type} (fuel : Nat) (k0 : ByteArray → Option R) : ∀ (k : Nat) (s : ByteArray), s.size < k → s.size ≤ 1000000000000 → trimRF_l1 fuel k0 k s = k0 (trimRS s)
  | 0, s, h, _ => by omega
  | k + 1, s, h, hx => by
    unfold trimRF_l1 trimRF_s2
    rw [br_if, trimRS_eq]
    unfold trimRI
    by_cases hc : 0 < s.size
    · obtain ⟨c, e1, e2⟩ := ix_byte s (s.size - 1) (by omega)
      have hl := bytes_len s
      have hb : bytesL s = (bytesL s).take (s.size - 1) ++ [(bytesL s).getD (s.size - 1) 0] := by
        conv => lhs; rw [← List.take_length (l := bytesL s), hl, show s.size = (s.size - 1) + 1 by omega, List.take_succ_eq_append_getElem (by omega)]
        rw [getD_get (by omega)]
      rw [if_pos (by simp; omega), wrap_i64 (by omega) (by omega), show ((s.size : Nat) : Int) - 1 = ((s.size - 1 : Nat) : Int) by omega, bnd_of e1, br_if, e2]
      by_cases hz : (bytesL s).getD (s.size - 1) 0 = 0
      · have hu : upTo ((s.size - 1 : Nat) : Int) s.size = some (s.size - 1) := by rw [upTo_of (by omega) (by omega)]; rfl
        have hsz : (s.extract 0 (s.size - 1)).size = s.size - 1 := by rw [ByteArray.size_extract]; omega
        rw [if_pos (by simpa using hz), bnd_of hu]
        dsimp only
        rw [trimR_loop fuel k0 k _ (by omega) (by omega), trimRS_eq]
        unfold trimRI
        have hd : bytesL (s.extract 0 (s.size - 1)) = (bytesL s).take (s.size - 1) := by
          unfold bytesL
          rw [ByteArray.data_extract, Array.toList_extract, ← List.map_take, List.extract_eq_take_drop, List.drop_zero, Nat.sub_zero]
        rw [hd]
        conv => rhs; rw [hb]
        rw [List.reverse_append, List.reverse_singleton, List.singleton_append, List.dropWhile_cons_of_pos (by simpa using hz)]
      · rw [if_neg (by simpa using hz)]
        congr 1
        conv => rhs; rw [hb]
        rw [List.reverse_append, List.reverse_singleton, List.singleton_append, List.dropWhile_cons_of_neg (by simpa using hz), ← List.singleton_append, ← List.reverse_singleton, ← List.reverse_append, ← hb, List.reverse_reverse, txt_bytes]
    · rw [if_neg (by rw [decide_eq_true_eq]; omega)]
      have : bytesL s = [] := List.eq_nil_of_length_eq_zero (by rw [bytes_len]; omega)
      rw [this, eq_empty.2 this]; rfl
theorem trimR_fact (s : ByteArray) (hg : (decide (s.size ≤ 1000000000000)) = true) : Fact Tryd.prog gTab 165 [.s (.string s), .s (.int .u8 0)] [] (.s (.string (trimRS s)), []) := by
  refine callN_fact hN hM T_trimL_ok (n := s.size + 1) (mode := mode4) ?_
  rw [trimRF_eq]
  unfold trimRF trimRF_s1
  dsimp only
  rw [trimR_loop _ _ _ _ (by omega) (by simpa using hg)]
  rfl
noncomputable def trimR_ent : List V → List Blk → Option (Bool × Out)
  | [.s (.string s), .s (.int .u8 0)], [] => some ((decide (s.size ≤ 1000000000000)), (.s (.string (trimRS s)), []))
  | _, _ => none
theorem trimR_ok : ∀ args bs out, trimR_ent args bs = some (true, out) → Fact Tryd.prog gTab 165 args bs out := by
  intro args bs out h
  unfold trimR_ent at h
  split at h
  · rename_i s
    simp only [Option.some.injEq, Prod.mk.injEq] at h
    obtain ⟨hg, rfl⟩ := h
    exact trimR_fact s hg
  · cases h
noncomputable def T_trimR : Tbl := Tbl.cons 165 trimR_ent T_trimL
theorem T_trimR_ok : CallOk Tryd.prog gTab T_trimR := cons_ok T_trimL_ok trimR_ok
/-! strings.Trim -/
noncomputable def trimF_s1 {R : Type} (s : ByteArray) (c0 : ByteArray → Option R) : Option R :=
  br (eqS s ByteArray.empty)
    (c0 s)
    (grd (decide (s.size ≤ 1000000000000)) <|
    c0 (trimLS (trimRS s)))
theorem trimF_s1_eq (fuel : Nat)  (s : ByteArray) : callN Tryd.prog mode4 T_trimR fuel 117 [.s (.string s), .s (.string (⟨#[0]⟩ : ByteArray))] [] = trimF_s1 s (fun (a1 : ByteArray) => some (.s (.string a1), [])) := by kernel_rfl
noncomputable def trimF {R : Type} (fuel : Nat) (s : ByteArray) (r0 : ByteArray → Option R) : Option R :=
  (trimF_s1 s (fun (a1 : ByteArray) => r0 a1))
theorem trimF_eq (fuel : Nat) (s : ByteArray) : callN Tryd.prog mode4 T_trimR fuel 117 [.s (.string s), .s (.string (⟨#[0]⟩ : ByteArray))] [] = trimF fuel s (fun (z0 : ByteArray) => some (.s (.string z0), [])) := by
  unfold trimF
  exact (trimF_s1_eq fuel  s)
theorem trim_fact (s : ByteArray) (hg : (decide (s.size ≤ 1000000000000)) = true) : Fact Tryd.prog gTab 117 [.s (.string s), .s (.string (⟨#[0]⟩ : ByteArray))] [] (.s (.string (trimLS (trimRS s))), []) := by
  refine callN_fact hN hM T_trimR_ok (n := 0) (mode := mode4) ?_
  rw [trimF_eq]
  unfold trimF trimF_s1
  rw [br_if]
  by_cases h : s = ByteArray.empty
  · rw [if_pos (eqS_iff.2 h)]
    subst h
    have e1 : trimRS ByteArray.empty = ByteArray.empty := by rw [trimRS_eq]; rfl
    have e2 : trimLS ByteArray.empty = ByteArray.empty := by rw [trimLS_eq]; rfl
    rw [e1, e2]
  · rw [if_neg (fun e => h (eqS_iff.1 e)), grd_of hg]
noncomputable def trim_ent : List V → List Blk → Option (Bool × Out)
  | [.s (.string s), .s (.string y0)], [] => bif decide (y0.data.toList = [0]) then some ((decide (s.size ≤ 1000000000000)), (.s (.string (trimLS (trimRS s))), [])) else none
  | _, _ => none
theorem trim_ok : ∀ args bs out, trim_ent args bs = some (true, out) → Fact Tryd.prog gTab 117 args bs out := by
  intro args bs out h
  unfold trim_ent at h
  split at h
  · rename_i s y0
    replace h := cond_eq.1 h
    obtain ⟨e_y0, h⟩ := h
    obtain rfl := ba_eq (of_decide_eq_true e_y0)
    simp only [Option.some.injEq, Prod.mk.injEq] at h
    obtain ⟨hg, rfl⟩ := h
    exact trim_fact s hg
  · cases h
noncomputable def T_trim : Tbl := Tbl.cons 117 trim_ent T_trimR
theorem T_trim_ok : CallOk Tryd.prog gTab T_trim := cons_ok T_trimR_ok trim_ok
/-! downpour/block.Nought -/
noncomputable def NoughtF_s1 {R : Type} (s : ByteArray) (c0 : Bool → Option R) : Option R :=
  grd (decide (s.size ≤ 1000000000000)) <|
  c0 (eqS (trimLS (trimRS s)) ByteArray.empty)
theorem NoughtF_s1_eq (fuel : Nat)  (s : ByteArray) : callN Tryd.prog mode4 T_trim fuel 60 [.s (.string s)] [] = NoughtF_s1 s (fun (a1 : Bool) => some (.s (.bool a1), [])) := by kernel_rfl
noncomputable def NoughtF {R : Type} (fuel : Nat) (s : ByteArray) (r0 : Bool → Option R) : Option R :=
  (NoughtF_s1 s (fun (a1 : Bool) => r0 a1))
theorem NoughtF_eq (fuel : Nat) (s : ByteArray) : callN Tryd.prog mode4 T_trim fuel 60 [.s (.string s)] [] = NoughtF fuel s (fun (z0 : Bool) => some (.s (.bool z0), [])) := by
  unfold NoughtF
  exact (NoughtF_s1_eq fuel  s)
theorem dw_nil {l : List Int} : (l.dropWhile fun x => decide (x = 0)) = [] ↔ ∀ x, x ∈ l → x = 0 := by
  induction l with
  | nil => simp
  | cons x t ih =>
    by_cases h : x = 0
    · rw [List.dropWhile_cons_of_pos (by simpa using h), ih]; simp [h]
    · rw [List.dropWhile_cons_of_neg (by simpa using h)]; simp [h]
theorem nought_trim (s : ByteArray) : eqS (trimLS (trimRS s)) ByteArray.empty = nought s := by
  rw [nought_eq, eqS_decide]
  unfold noughtI
  rw [decide_eq_decide, eq_empty, trimLS_eq, trimRS_eq]
  unfold trimLI trimRI
  have h1 : ByteOk ((bytesL s).reverse.dropWhile fun x => decide (x = 0)).reverse := fun x hx => bytes_ok s x (List.mem_reverse.1 ((List.dropWhile_sublist _).subset (List.mem_reverse.1 hx)))
  rw [bytes_txt h1]
  rw [bytes_txt fun x hx => h1 x ((List.dropWhile_sublist _).subset hx), dw_nil]
  constructor
  · intro h x hx
    refine Classical.byContradiction fun hn => ?_
    have hne : (bytesL s).reverse.dropWhile (fun x => decide (x = 0)) ≠ [] := fun e => hn (dw_nil.1 e x (List.mem_reverse.2 hx))
    have := List.head_dropWhile_not (fun x : Int => decide (x = 0)) hne
    have hm := h _ (List.mem_reverse.2 (List.head_mem hne))
    rw [hm] at this
    simp at this
  · intro h x hx
    exact h x (List.mem_reverse.1 ((List.dropWhile_sublist _).subset (List.mem_reverse.1 hx)))
theorem Nought_fact (s : ByteArray) (hg : (decide (s.size ≤ 1000000000000)) = true) : Fact Tryd.prog gTab 60 [.s (.string s)] [] (.s (.bool (nought s)), []) := by
  refine callN_fact hN hM T_trim_ok (n := 0) (mode := mode4) ?_
  rw [NoughtF_eq]
  unfold NoughtF NoughtF_s1
  rw [grd_of hg, nought_trim]
noncomputable def Nought_ent : List V → List Blk → Option (Bool × Out)
  | [.s (.string s)], [] => some ((decide (s.size ≤ 1000000000000)), (.s (.bool (nought s)), []))
  | _, _ => none
theorem Nought_ok : ∀ args bs out, Nought_ent args bs = some (true, out) → Fact Tryd.prog gTab 60 args bs out := by
  intro args bs out h
  unfold Nought_ent at h
  split at h
  · rename_i s
    simp only [Option.some.injEq, Prod.mk.injEq] at h
    obtain ⟨hg, rfl⟩ := h
    exact Nought_fact s hg
  · cases h
noncomputable def T_Nought : Tbl := Tbl.cons 60 Nought_ent T_trim
theorem T_Nought_ok : CallOk Tryd.prog gTab T_Nought := cons_ok T_trim_ok Nought_ok
def mode5 : FuncId → Nat := fun f => 0
/-! downpour/downpourref02.Sum -/
noncomputable def refSumF_s3 {R : Type} (w64 : Int) (w66 : Int) (l : List ByteArray) (b : List Int) (w28 : Int) (w63 : Int) (w65 : Bool) (n : Int) (w27 : Nat) (w29 : List Int) (c0 : Int → Bool → Int → Int → Option R) (c1 : Int → Bool → Int → Int → Option R) (c2 : Int → Bool → Int → Int → Bool → Option R) : Option R :=
  br (decide (w64 < w66))
    (bnd (ix l w64) fun e75 =>
    bnd (ix b w64) fun e76 =>
    br (e76 == 1)
      (bnd (ix e75.data.toList w28) fun ub77 =>
      c0 (xorI .u8 w63 ((ub77.toNat : Nat) : Int)) w65 w66 (IntKind.i64.wrap (w64 + 1)))
      (c1 w63 w65 w66 (IntKind.i64.wrap (w64 + 1))))
    (c2 w63 w65 w66 w64 (decide (w64 < w66)))
theorem refSumF_s3_eq (fuel : Nat) (k : Nat) (K : Ex → St → Option Out) (w64 : Int) (w66 : Int) (l : List ByteArray) (b : List Int) (w28 : Int) (w63 : Int) (w65 : Bool) (n : Int) (w27 : Nat) (w29 : List Int) : lpN (sub (sub (bodyOf Tryd.prog 63) [1, 1, 0, 1, 0, 0]) [1, 0, 0, 1, 0, 1, 0, 0]) (fnX Tryd.prog mode5 T_Nought fuel 42 0) 4398046506951 [0, 1, 2, 6, 7, 8, 9, 13, 14, 15, 18, 19, 20] (k + 1) ⟨[(0, .s (.int .i64 n)), (1, .ls l), (2, .li .i64 b), (6, .s (.string ByteArray.empty)), (7, .sl 0 1 0 w27), (8, .s (.int .i64 w28)), (9, .s (.int .u8 w63)), (13, .s (.int .i64 w28)), (14, .s (.int .i64 n)), (15, .s (.bool w65)), (18, .ls l), (19, .s (.int .i64 w66)), (20, .s (.int .i64 w64))], [(0, some ⟨5, .li .u8 w29, true⟩)], 1, none⟩ K = refSumF_s3 w64 w66 l b w28 w63 w65 n w27 w29 (fun (a78 : Int) (a79 : Bool) (a80 : Int) (a81 : Int) => lpN (sub (sub (bodyOf Tryd.prog 63) [1, 1, 0, 1, 0, 0]) [1, 0, 0, 1, 0, 1, 0, 0]) (fnX Tryd.prog mode5 T_Nought fuel 42 0) 4398046506951 [0, 1, 2, 6, 7, 8, 9, 13, 14, 15, 18, 19, 20] k ⟨[(0, .s (.int .i64 n)), (1, .ls l), (2, .li .i64 b), (6, .s (.string ByteArray.empty)), (7, .sl 0 1 0 w27), (8, .s (.int .i64 w28)), (9, .s (.int .u8 a78)), (13, .s (.int .i64 w28)), (14, .s (.int .i64 n)), (15, .s (.bool a79)), (18, .ls l), (19, .s (.int .i64 a80)), (20, .s (.int .i64 a81))], [(0, some ⟨5, .li .u8 w29, true⟩)], 1, none⟩ K) (fun (a82 : Int) (a83 : Bool) (a84 : Int) (a85 : Int) => lpN (sub (sub (bodyOf Tryd.prog 63) [1, 1, 0, 1, 0, 0]) [1, 0, 0, 1, 0, 1, 0, 0]) (fnX Tryd.prog mode5 T_Nought fuel 42 0) 4398046506951 [0, 1, 2, 6, 7, 8, 9, 13, 14, 15, 18, 19, 20] k ⟨[(0, .s (.int .i64 n)), (1, .ls l), (2, .li .i64 b), (6, .s (.string ByteArray.empty)), (7, .sl 0 1 0 w27), (8, .s (.int .i64 w28)), (9, .s (.int .u8 a82)), (13, .s (.int .i64 w28)), (14, .s (.int .i64 n)), (15, .s (.bool a83)), (18, .ls l), (19, .s (.int .i64 a84)), (20, .s (.int .i64 a85))], [(0, some ⟨5, .li .u8 w29, true⟩)], 1, none⟩ K) (fun (a86 : Int) (a87 : Bool) (a88 : Int) (a89 : Int) (a90 : Bool) => K (.exit 2) ⟨[(0, .s (.int .i64 n)), (1, .ls l), (2, .li .i64 b), (6, .s (.string ByteArray.empty)), (7, .sl 0 1 0 w27), (8, .s (.int .i64 w28)), (9, .s (.int .u8 a86)), (13, .s (.int .i64 w28)), (14, .s (.int .i64 n)), (15, .s (.bool a87)), (18, .ls l), (19, .s (.int .i64 a88)), (20, .s (.int .i64 a89)), (21, .s (.bool a90))], [(0, some ⟨5, .li .u8 w29, true⟩)], 1, none⟩) := by kernel_rfl
noncomputable def refSumF_l2 {R : Type} (fuel : Nat) (n : Int) (l : List ByteArray) (b : List Int) (w27 : Nat) (w28 : Int) (w29 : List Int) (k0 : Int → Bool → Int → Int → Bool → Option R) : Nat → Int → Bool → Int → Int → Option R
  | 0, _, _, _, _ => none
  | k + 1, w63, w65, w66, w64 =>
    (refSumF_s3 w64 w66 l b w28 w63 w65 n w27 w29 (fun (a78 : Int) (a79 : Bool) (a80 : Int) (a81 : Int) => ( refSumF_l2 fuel n l b w27 w28 w29 k0 k a78 a79 a80 a81 )) (fun (a82 : Int) (a83 : Bool) (a84 : Int) (a85 : Int) => ( refSumF_l2 fuel n l b w27 w28 w29 k0 k a82 a83 a84 a85 )) (fun (a86 : Int) (a87 : Bool) (a88 : Int) (a89 : Int) (a90 : Bool) => k0 a86 a87 a88 a89 a90))
theorem refSumF_l2_eq (fuel : Nat) (n : Int) (l : List ByteArray) (b : List Int) (w27 : Nat) (w28 : Int) (w29 : List Int) (K : Ex → St → Option Out) : ∀ (k : Nat) (w63 : Int) (w65 : Bool) (w66 : Int) (w64 : Int), lpN (sub (sub (bodyOf Tryd.prog 63) [1, 1, 0, 1, 0, 0]) [1, 0, 0, 1, 0, 1, 0, 0]) (fnX Tryd.prog mode5 T_Nought fuel 42 0) 4398046506951 [0, 1, 2, 6, 7, 8, 9, 13, 14, 15, 18, 19, 20] k ⟨[(0, .s (.int .i64 n)), (1, .ls l), (2, .li .i64 b), (6, .s (.string ByteArray.empty)), (7, .sl 0 1 0 w27), (8, .s (.int .i64 w28)), (9, .s (.int .u8 w63)), (13, .s (.int .i64 w28)), (14, .s (.int .i64 n)), (15, .s (.bool w65)), (18, .ls l), (19, .s (.int .i64 w66)), (20, .s (.int .i64 w64))], [(0, some ⟨5, .li .u8 w29, true⟩)], 1, none⟩ K = refSumF_l2 fuel n l b w27 w28 w29 (fun (y70 : Int) (y71 : Bool) (y72 : Int) (y73 : Int) (y74 : Bool) => K (.exit 2) ⟨[(0, .s (.int .i64 n)), (1, .ls l), (2, .li .i64 b), (6, .s (.string ByteArray.empty)), (7, .sl 0 1 0 w27), (8, .s (.int .i64 w28)), (9, .s (.int .u8 y70)), (13, .s (.int .i64 w28)), (14, .s (.int .i64 n)), (15, .s (.bool y71)), (18, .ls l), (19, .s (.int .i64 y72)), (20, .s (.int .i64 y73)), (21, .s (.bool y74))], [(0, some ⟨5, .li .u8 w29, true⟩)], 1, none⟩) k w63 w65 w66 w64
  | 0, _, _, _, _ => rfl
  | k + 1, w63, w65, w66, w64 => by
    unfold refSumF_l2
    exact (refSumF_s3_eq fuel k K w64 w66 l b w28 w63 w65 n w27 w29).trans (congr (congr (congr (Eq.refl (refSumF_s3 (R := Out) w64 w66 l b w28 w63 w65 n w27 w29)) (funext fun a78 => funext fun a79 => funext fun a80 => funext fun a81 => refSumF_l2_eq fuel n l b w27 w28 w29 K k a78 a79 a80 a81)) (funext fun a82 => funext fun a83 => funext fun a84 => funext fun a85 => refSumF_l2_eq fuel n l b w27 w28 w29 K k a82 a83 a84 a85)) (rfl))
noncomputable def refSumF_s4 {R : Type} (w29 : List Int) (w27 : Nat) (x95 : Int) (w28 : Int) (n : Int) (l : List ByteArray) (b : List Int) (x96 : Bool) (x97 : Int) (x98 : Int) (x99 : Bool) (c0 : Nat → Int → List Int → Option R) : Option R :=
  grd (Nat.beq w29.length w27) <|
  grd (okN (w27 + 1) 1) <|
  c0 ((w29 ++ [x95]).length) (IntKind.i64.wrap (w28 + 1)) (w29 ++ [x95])
theorem refSumF_s4_eq (fuel : Nat) (k : Nat) (K : Ex → St → Option Out) (w29 : List Int) (w27 : Nat) (x95 : Int) (w28 : Int) (n : Int) (l : List ByteArray) (b : List Int) (x96 : Bool) (x97 : Int) (x98 : Int) (x99 : Bool) : (kont (fnX Tryd.prog mode5 T_Nought fuel 42 0) (sub (bodyOf Tryd.prog 63) [1, 1, 0, 1, 0, 0]) [1, 0, 0, 1, 0, 1, 0] 4398046506951 (rdK (sub (bodyOf Tryd.prog 63) [1, 1, 0, 1, 0, 0]) (fnX Tryd.prog mode5 T_Nought fuel 42 0) 3298534883520 [0, 1, 2, 6, 7, 8] k K)) (.exit 2) ⟨[(0, .s (.int .i64 n)), (1, .ls l), (2, .li .i64 b), (6, .s (.string ByteArray.empty)), (7, .sl 0 1 0 w27), (8, .s (.int .i64 w28)), (9, .s (.int .u8 x95)), (13, .s (.int .i64 w28)), (14, .s (.int .i64 n)), (15, .s (.bool x96)), (18, .ls l), (19, .s (.int .i64 x97)), (20, .s (.int .i64 x98)), (21, .s (.bool x99))], [(0, some ⟨5, .li .u8 w29, true⟩)], 1, none⟩ = refSumF_s4 w29 w27 x95 w28 n l b x96 x97 x98 x99 (fun (a100 : Nat) (a101 : Int) (a102 : List Int) => lpN (sub (bodyOf Tryd.prog 63) [1, 1, 0, 1, 0, 0]) (fnX Tryd.prog mode5 T_Nought fuel 42 0) 3298534883520 [0, 1, 2, 6, 7, 8] k ⟨[(0, .s (.int .i64 n)), (1, .ls l), (2, .li .i64 b), (6, .s (.string ByteArray.empty)), (7, .sl 0 1 0 a100), (8, .s (.int .i64 a101))], [(0, some ⟨5, .li .u8 a102, true⟩)], 1, none⟩ K) := by kernel_rfl
noncomputable def refSumF_s2 {R : Type} (w28 : Int) (n : Int) (l : List ByteArray) (w27 : Nat) (w29 : List Int) (b : List Int) (c0 : Int → Bool → Int → Int → Option R) (c1 : Nat → List Int → Option R) : Option R :=
  br (decide (w28 < n))
    (c0 0 (decide (w28 < n)) ((l.length : Nat) : Int) 0)
    (c1 w27 w29)
theorem refSumF_s2_eq (fuel : Nat) (k : Nat) (K : Ex → St → Option Out) (w28 : Int) (n : Int) (l : List ByteArray) (w27 : Nat) (w29 : List Int) (b : List Int) : lpN (sub (bodyOf Tryd.prog 63) [1, 1, 0, 1, 0, 0]) (fnX Tryd.prog mode5 T_Nought fuel 42 0) 3298534883520 [0, 1, 2, 6, 7, 8] (k + 1) ⟨[(0, .s (.int .i64 n)), (1, .ls l), (2, .li .i64 b), (6, .s (.string ByteArray.empty)), (7, .sl 0 1 0 w27), (8, .s (.int .i64 w28))], [(0, some ⟨5, .li .u8 w29, true⟩)], 1, none⟩ K = refSumF_s2 w28 n l w27 w29 b (fun (a91 : Int) (a92 : Bool) (a93 : Int) (a94 : Int) => lpN (sub (sub (bodyOf Tryd.prog 63) [1, 1, 0, 1, 0, 0]) [1, 0, 0, 1, 0, 1, 0, 0]) (fnX Tryd.prog mode5 T_Nought fuel 42 0) 4398046506951 [0, 1, 2, 6, 7, 8, 9, 13, 14, 15, 18, 19, 20] fuel ⟨[(0, .s (.int .i64 n)), (1, .ls l), (2, .li .i64 b), (6, .s (.string ByteArray.empty)), (7, .sl 0 1 0 w27), (8, .s (.int .i64 w28)), (9, .s (.int .u8 a91)), (13, .s (.int .i64 w28)), (14, .s (.int .i64 n)), (15, .s (.bool a92)), (18, .ls l), (19, .s (.int .i64 a93)), (20, .s (.int .i64 a94))], [(0, some ⟨5, .li .u8 w29, true⟩)], 1, none⟩ (kont (fnX Tryd.prog mode5 T_Nought fuel 42 0) (sub (bodyOf Tryd.prog 63) [1, 1, 0, 1, 0, 0]) [1, 0, 0, 1, 0, 1, 0] 4398046506951 (rdK (sub (bodyOf Tryd.prog 63) [1, 1, 0, 1, 0, 0]) (fnX Tryd.prog mode5 T_Nought fuel 42 0) 3298534883520 [0, 1, 2, 6, 7, 8] k K))) (fun (a103 : Nat) (a104 : List Int) => K (.exit 0) ⟨[(6, .s (.string ByteArray.empty)), (7, .sl 0 1 0 a103)], [(0, some ⟨5, .li .u8 a104, true⟩)], 1, none⟩) := by kernel_rfl
noncomputable def refSumF_l1 {R : Type} (fuel : Nat) (n : Int) (l : List ByteArray) (b : List Int) (k0 : Nat → List Int → Option R) : Nat → Nat → Int → List Int → Option R
  | 0, _, _, _ => none
  | k + 1, w27, w28, w29 =>
    (refSumF_s2 w28 n l w27 w29 b (fun (a91 : Int) (a92 : Bool) (a93 : Int) (a94 : Int) => (refSumF_l2 fuel n l b w27 w28 w29 (fun (x95 : Int) (x96 : Bool) (x97 : Int) (x98 : Int) (x99 : Bool) => (refSumF_s4 w29 w27 x95 w28 n l b x96 x97 x98 x99 (fun (a100 : Nat) (a101 : Int) (a102 : List Int) => ( refSumF_l1 fuel n l b k0 k a100 a101 a102 )))) fuel a91 a92 a93 a94)) (fun (a103 : Nat) (a104 : List Int) => k0 a103 a104))
theorem refSumF_l1_eq (fuel : Nat) (n : Int) (l : List ByteArray) (b : List Int) (K : Ex → St → Option Out) : ∀ (k : Nat) (w27 : Nat) (w28 : Int) (w29 : List Int), lpN (sub (bodyOf Tryd.prog 63) [1, 1, 0, 1, 0, 0]) (fnX Tryd.prog mode5 T_Nought fuel 42 0) 3298534883520 [0, 1, 2, 6, 7, 8] k ⟨[(0, .s (.int .i64 n)), (1, .ls l), (2, .li .i64 b), (6, .s (.string ByteArray.empty)), (7, .sl 0 1 0 w27), (8, .s (.int .i64 w28))], [(0, some ⟨5, .li .u8 w29, true⟩)], 1, none⟩ K = refSumF_l1 fuel n l b (fun (y56 : Nat) (y57 : List Int) => K (.exit 0) ⟨[(6, .s (.string ByteArray.empty)), (7, .sl 0 1 0 y56)], [(0, some ⟨5, .li .u8 y57, true⟩)], 1, none⟩) k w27 w28 w29
  | 0, _, _, _ => rfl
  | k + 1, w27, w28, w29 => by
    unfold refSumF_l1
    exact (refSumF_s2_eq fuel k K w28 n l w27 w29 b).trans (congr (congr (Eq.refl (refSumF_s2 (R := Out) w28 n l w27 w29 b)) (funext fun a91 => funext fun a92 => funext fun a93 => funext fun a94 => (refSumF_l2_eq fuel n l b w27 w28 w29 (kont (fnX Tryd.prog mode5 T_Nought fuel 42 0) (sub (bodyOf Tryd.prog 63) [1, 1, 0, 1, 0, 0]) [1, 0, 0, 1, 0, 1, 0] 4398046506951 (rdK (sub (bodyOf Tryd.prog 63) [1, 1, 0, 1, 0, 0]) (fnX Tryd.prog mode5 T_Nought fuel 42 0) 3298534883520 [0, 1, 2, 6, 7, 8] k K)) fuel a91 a92 a93 a94).trans (congrFun (congrFun (congrFun (congrFun (congrFun (congr (Eq.refl (refSumF_l2 (R := Out) fuel n l b w27 w28 w29)) (funext fun x95 => funext fun x96 => funext fun x97 => funext fun x98 => funext fun x99 => (refSumF_s4_eq fuel k K w29 w27 x95 w28 n l b x96 x97 x98 x99).trans (congr (Eq.refl (refSumF_s4 (R := Out) w29 w27 x95 w28 n l b x96 x97 x98 x99)) (funext fun a100 => funext fun a101 => funext fun a102 => refSumF_l1_eq fuel n l b K k a100 a101 a102)))) fuel) a91) a92) a93) a94))) (rfl))
noncomputable def refSumF_s5 {R : Type} (x108 : Nat) (x109 : List Int) (c0 : ByteArray → Option R) : Option R :=
  grd (Nat.ble (0 + x108) x109.length) <|
  c0 (txt (((x109).drop 0).take x108))
theorem refSumF_s5_eq (fuel : Nat)  (x108 : Nat) (x109 : List Int) : (kont (fnX Tryd.prog mode5 T_Nought fuel 42 0) (bodyOf Tryd.prog 63) [1, 1, 0, 1, 0] 64 (endK Tryd.prog 0 0 63)) (.exit 0) ⟨[(6, .s (.string ByteArray.empty)), (7, .sl 0 1 0 x108)], [(0, some ⟨5, .li .u8 x109, true⟩)], 1, none⟩ = refSumF_s5 x108 x109 (fun (a110 : ByteArray) => some (.s (.string a110), [])) := by kernel_rfl
noncomputable def refSumF_s1 {R : Type} (n : Int) (l : List ByteArray) (b : List Int) (c0 : Nat → Int → List Int → Option R) : Option R :=
  c0 0 0 ([])
theorem refSumF_s1_eq (fuel : Nat)  (n : Int) (l : List ByteArray) (b : List Int) : callN Tryd.prog mode5 T_Nought fuel 63 [.s (.int .i64 n), .ls l, .li .i64 b] [] = refSumF_s1 n l b (fun (a105 : Nat) (a106 : Int) (a107 : List Int) => lpN (sub (bodyOf Tryd.prog 63) [1, 1, 0, 1, 0, 0]) (fnX Tryd.prog mode5 T_Nought fuel 42 0) 3298534883520 [0, 1, 2, 6, 7, 8] fuel ⟨[(0, .s (.int .i64 n)), (1, .ls l), (2, .li .i64 b), (6, .s (.string ByteArray.empty)), (7, .sl 0 1 0 a105), (8, .s (.int .i64 a106))], [(0, some ⟨5, .li .u8 a107, true⟩)], 1, none⟩ (kont (fnX Tryd.prog mode5 T_Nought fuel 42 0) (bodyOf Tryd.prog 63) [1, 1, 0, 1, 0] 64 (endK Tryd.prog 0 0 63))) := by kernel_rfl
noncomputable def refSumF {R : Type} (fuel : Nat) (n : Int) (l : List ByteArray) (b : List Int) (r0 : ByteArray → Option R) : Option R :=
  (refSumF_s1 n l b (fun (a105 : Nat) (a106 : Int) (a107 : List Int) => (refSumF_l1 fuel n l b (fun (x108 : Nat) (x109 : List Int) => (refSumF_s5 x108 x109 (fun (a110 : ByteArray) => r0 a110))) fuel a105 a106 a107)))
theorem refSumF_eq (fuel : Nat) (n : Int) (l : List ByteArray) (b : List Int) : callN Tryd.prog mode5 T_Nought fuel 63 [.s (.int .i64 n), .ls l, .li .i64 b] [] = refSumF fuel n l b (fun (z0 : ByteArray) => some (.s (.string z0), [])) := by
  unfold refSumF
  exact (refSumF_s1_eq fuel  n l b).trans (congr (Eq.refl (refSumF_s1 (R := Out) n l b)) (funext fun a105 => funext fun a106 => funext fun a107 => (refSumF_l1_eq fuel n l b (kont (fnX Tryd.prog mode5 T_Nought fuel 42 0) (bodyOf Tryd.prog 63) [1, 1, 0, 1, 0] 64 (endK Tryd.prog 0 0 63)) fuel a105 a106 a107).trans (congrFun (congrFun (congrFun (congrFun (congr (Eq.refl (refSumF_l1 (R := Out) fuel n l b)) (funext fun x108 => funext fun x109 => (refSumF_s5_eq fuel  x108 x109))) fuel) a105) a106) a107)))
/-- A byte of a sum of those blocks whose bits are 1. -/
def byteL (i : Nat) : Int → List (ByteArray × Int) → Int
  | a, [] => a
  | a, p :: t => byteL i (if p.2 = 1 then xorI .u8 a ((bytesL p.1).getD i 0) else a) t
noncomputable def sumBL (a : List Int) (l : List (ByteArray × Int)) : List Int := l.foldl (fun a p => if p.2 = 1 then xb a (bytesL p.1) else a) a
theorem sumBL_len : ∀ (l : List (ByteArray × Int)) (a : List Int), (∀ p, p ∈ l → p.1.size = a.length) → (sumBL a l).length = a.length
  | [], a, h => rfl
  | p :: t, a, h => by
    have h1 := h p List.mem_cons_self
    have e : (if p.2 = 1 then xb a (bytesL p.1) else a).length = a.length := by
      split
      · rw [xb_len, bytes_len]; omega
      · rfl
    show (sumBL _ t).length = _
    rw [sumBL_len t _ fun q hq => by rw [e]; exact h q (List.mem_cons_of_mem _ hq), e]
theorem byteL_eq (i : Nat) : ∀ (l : List (ByteArray × Int)) (a : List Int), i < a.length → (∀ p, p ∈ l → p.1.size = a.length) → (sumBL a l).getD i 0 = byteL i (a.getD i 0) l
  | [], a, hi, h => rfl
  | p :: t, a, hi, h => by
    have h1 := h p List.mem_cons_self
    have e : (if p.2 = 1 then xb a (bytesL p.1) else a).length = a.length := by
      split
      · rw [xb_len, bytes_len]; omega
      · rfl
    show (sumBL (if p.2 = 1 then xb a (bytesL p.1) else a) t).getD i 0 = _
    rw [byteL_eq i t _ (by omega) fun q hq => by rw [e]; exact h q (List.mem_cons_of_mem _ hq), byteL]
    congr 1
    split
    · rw [xb_getD hi (by rw [bytes_len]; omega)]
    · rfl
theorem byteL_snoc (i : Nat) : ∀ (l : List (ByteArray × Int)) (a : Int) (p : ByteArray × Int), byteL i a (l ++ [p]) = if p.2 = 1 then xorI .u8 (byteL i a l) ((bytesL p.1).getD i 0) else byteL i a l
  | [], a, p => rfl
  | q :: t, a, p => by
    show byteL i _ (t ++ [p]) = _
    rw [byteL_snoc i t _ p]
    rfl
theorem zip_take {l : List ByteArray} {b : List Int} {j : Nat} (h : j < l.length) (h2 : j < b.length) : (l.take (j + 1)).zip (b.take (j + 1)) = (l.take j).zip (b.take j) ++ [(l[j], b[j])] := by
  rw [List.take_succ_eq_append_getElem h, List.take_succ_eq_append_getElem h2, List.zip_append (by rw [List.length_take, List.length_take]; omega)]
  rfl
theorem refSum_in {R : Type} (fuel n : Nat) (l : List ByteArray) (b : List Int) (hb : b.length = l.length) (hx : l.length ≤ 64) (hs : ∀ s, s ∈ l → s.size = n) (w27 i : Nat) (hi : i < n) (w29 : List Int) (k0 : Int → Bool → Int → Int → Bool → Option R) (v : Bool) : ∀ (k j : Nat), j ≤ l.length → l.length < j + k →
    refSumF_l2 fuel (n : Int) l b w27 (i : Int) w29 k0 k (byteL i 0 ((l.take j).zip (b.take j))) v (l.length : Int) (j : Int) = k0 (byteL i 0 (l.zip b)) v (l.length : Int) (l.length : Int) false
  | 0, j, h1, h2 => by omega
  | k + 1, j, h1, h2 => by
    unfold refSumF_l2 refSumF_s3
    rw [br_if]
    by_cases hc : j < l.length
    · have hcb : j < b.length := by omega
      have h3 := hs _ (List.getElem_mem hc)
      have ih := refSum_in fuel n l b hb hx hs w27 i hi w29 k0 v k (j + 1) (by omega) (by omega)
      rw [zip_take hc hcb, byteL_snoc] at ih
      rw [if_pos (by simpa using hc), bnd_of ((ix_nat l j).trans (List.getElem?_eq_getElem hc)), bnd_of ((ix_nat b j).trans (List.getElem?_eq_getElem hcb)), br_if, wrap_i64 (by omega) (by omega), show (j : Int) + 1 = ((j + 1 : Nat) : Int) by omega]
      by_cases hz : b[j] = 1
      · obtain ⟨c, e1, e2⟩ := ix_byte l[j] i (by omega)
        rw [if_pos (by simpa using hz), bnd_of e1, e2]
        rw [if_pos hz] at ih
        exact ih
      · rw [if_neg (by simpa using hz)]
        rw [if_neg hz] at ih
        exact ih
    · have e : j = l.length := by omega
      subst e
      rw [if_neg (by simp), List.take_length, ← hb, List.take_length, hb, decide_eq_false (by omega)]
theorem take_getD {t : List Int} {i : Nat} (h : i < t.length) : t.take i ++ [t.getD i 0] = t.take (i + 1) := by
  rw [List.take_succ_eq_append_getElem h, List.getD_eq_getElem?_getD, List.getElem?_eq_getElem h]; rfl
theorem refSum_out {R : Type} (fuel n : Nat) (l : List ByteArray) (b : List Int) (hb : b.length = l.length) (hx : l.length ≤ 64) (hf : 64 < fuel) (hn : n ≤ 64) (hs : ∀ s, s ∈ l → s.size = n) (k0 : Nat → List Int → Option R) : ∀ (k i : Nat), i ≤ n → n < i + k →
    refSumF_l1 fuel (n : Int) l b k0 k i (i : Int) ((sumBL (zb n) (l.zip b)).take i) = k0 n (sumBL (zb n) (l.zip b))
  | 0, i, h1, h2 => by omega
  | k + 1, i, h1, h2 => by
    have hz : (zb n).length = n := by unfold zb; simp
    have hs' : ∀ p, p ∈ l.zip b → p.1.size = (zb n).length := fun p hp => by rw [hz]; exact hs _ (List.of_mem_zip hp).1
    have hl : (sumBL (zb n) (l.zip b)).length = n := by rw [sumBL_len _ _ hs', hz]
    have ht : ((sumBL (zb n) (l.zip b)).take i).length = i := by rw [List.length_take]; omega
    unfold refSumF_l1 refSumF_s2
    rw [br_if]
    by_cases hc : i < n
    · rw [if_pos (by simpa using hc)]
      dsimp only
      have := refSum_in (R := R) fuel n l b hb hx hs i i hc ((sumBL (zb n) (l.zip b)).take i)
      refine (this _ _ fuel 0 (by omega) (by omega)).trans ?_
      unfold refSumF_s4
      have e := byteL_eq i (l.zip b) (zb n) (by omega) hs'
      rw [zb_getD] at e
      rw [grd_of (by rw [ht]; exact beq_self i), grd_of (okN_of (by omega) (by omega)), ← e, take_getD (by omega), wrap_i64 (by omega) (by omega), show (i : Int) + 1 = ((i + 1 : Nat) : Int) by omega]
      have ht1 : ((sumBL (zb n) (l.zip b)).take (i + 1)).length = i + 1 := by rw [List.length_take]; omega
      rw [ht1]
      exact refSum_out fuel n l b hb hx hf hn hs k0 k (i + 1) (by omega) (by omega)
    · have e : i = n := by omega
      subst e
      rw [if_neg (by simp), List.take_of_length_le (by omega)]
theorem refSum_fact (n : Int) (l : List ByteArray) (b : List Int) (hg : (bok n l && decide (b.length = l.length)) = true) : Fact Tryd.prog gTab 63 [.s (.int .i64 n), .ls l, .li .i64 b] [] (.s (.string (txt (sumBS n l b))), []) := by
  rw [Bool.and_eq_true] at hg
  obtain ⟨hg, hb⟩ := hg
  have hb := of_decide_eq_true hb
  obtain ⟨⟨h0, h1⟩, h2, h3⟩ := bok_iff.1 hg
  obtain ⟨m, rfl⟩ : ∃ m : Nat, n = (m : Int) := ⟨n.toNat, by omega⟩
  have hs : ∀ s, s ∈ l → s.size = m := fun s h => by have := h3 s h; omega
  have hz : (zb m).length = m := by unfold zb; simp
  have hl : (sumBL (zb m) (l.zip b)).length = m := by rw [sumBL_len _ _ fun p hp => by rw [hz]; exact hs _ (List.of_mem_zip hp).1, hz]
  refine callN_fact hN hM T_Nought_ok (n := 66) (mode := mode5) ?_
  rw [refSumF_eq]
  unfold refSumF refSumF_s1
  dsimp only
  have := refSum_out (R := Out) 66 m l b hb h2 (by omega) (by omega) hs
  rw [show ([] : List Int) = (sumBL (zb m) (l.zip b)).take 0 from rfl, show (0 : Int) = ((0 : Nat) : Int) from rfl, this _ 66 0 (by omega) (by omega)]
  unfold refSumF_s5
  rw [grd_of (by rw [hl]; simp), List.drop_zero, List.take_of_length_le (by omega), sumBS_eq]
  unfold sumBI
  rw [Int.toNat_natCast]
  rfl
noncomputable def refSum_ent : List V → List Blk → Option (Bool × Out)
  | [.s (.int .i64 n), w0, w1], [] => (asSl .str w0).bind fun l => (asSl (.int .i64) w1).bind fun b => some ((bok n l && decide (b.length = l.length)), (.s (.string (txt (sumBS n l b))), []))
  | _, _ => none
theorem refSum_ok : ∀ args bs out, refSum_ent args bs = some (true, out) → Fact Tryd.prog gTab 63 args bs out := by
  intro args bs out h
  unfold refSum_ent at h
  split at h
  · rename_i n w0 w1
    obtain ⟨l, h_l, h⟩ := Option.bind_eq_some_iff.1 h
    obtain ⟨b, h_b, h⟩ := Option.bind_eq_some_iff.1 h
    simp only [Option.some.injEq, Prod.mk.injEq] at h
    obtain ⟨hg, rfl⟩ := h
    exact (refSum_fact n l b hg).args (fun _ _ _ => fun _ h => RVs_two (fun _ h => h) (fun _ h => RVs_two (fun _ h => RV_ls h_l h) (fun _ h => RVs_two (fun _ h => RV_li h_b h) (fun _ h => h) h) h) h)
  · cases h
noncomputable def T_refSum : Tbl := Tbl.cons 63 refSum_ent T_Nought
theorem T_refSum_ok : CallOk Tryd.prog gTab T_refSum := cons_ok T_Nought_ok refSum_ok
/-! downpour/downpourref02.Ones -/
noncomputable def refOnesF_s2 {R : Type} (w2 : Int) (n : Int) (w3 : List Int) (w1 : Nat) (c0 : Nat → Int → List Int → Option R) (c1 : Nat → List Int → Option R) : Option R :=
  br (decide (w2 < n))
    (grd (Nat.beq w3.length w1) <|
    grd (okN (w1 + 1) 8) <|
    c0 ((w3 ++ [1]).length) (IntKind.i64.wrap (w2 + 1)) (w3 ++ [1]))
    (c1 w1 w3)
theorem refOnesF_s2_eq (fuel : Nat) (k : Nat) (K : Ex → St → Option Out) (w2 : Int) (n : Int) (w3 : List Int) (w1 : Nat) : lpN (sub (bodyOf Tryd.prog 64) [1, 1, 0, 1, 0, 0]) (fnX Tryd.prog mode5 T_refSum fuel 15 0) 16396 [0, 2, 3, 4] (k + 1) ⟨[(0, .s (.int .i64 n)), (2, .s (.slice none 0 0)), (3, .sl 0 1 0 w1), (4, .s (.int .i64 w2))], [(0, some ⟨3, .li .i64 w3, true⟩)], 1, none⟩ K = refOnesF_s2 w2 n w3 w1 (fun (a6 : Nat) (a7 : Int) (a8 : List Int) => lpN (sub (bodyOf Tryd.prog 64) [1, 1, 0, 1, 0, 0]) (fnX Tryd.prog mode5 T_refSum fuel 15 0) 16396 [0, 2, 3, 4] k ⟨[(0, .s (.int .i64 n)), (2, .s (.slice none 0 0)), (3, .sl 0 1 0 a6), (4, .s (.int .i64 a7))], [(0, some ⟨3, .li .i64 a8, true⟩)], 1, none⟩ K) (fun (a9 : Nat) (a10 : List Int) => K (.exit 0) ⟨[(2, .s (.slice none 0 0)), (3, .sl 0 1 0 a9)], [(0, some ⟨3, .li .i64 a10, true⟩)], 1, none⟩) := by kernel_rfl
noncomputable def refOnesF_l1 {R : Type} (fuel : Nat) (n : Int) (k0 : Nat → List Int → Option R) : Nat → Nat → Int → List Int → Option R
  | 0, _, _, _ => none
  | k + 1, w1, w2, w3 =>
    (refOnesF_s2 w2 n w3 w1 (fun (a6 : Nat) (a7 : Int) (a8 : List Int) => ( refOnesF_l1 fuel n k0 k a6 a7 a8 )) (fun (a9 : Nat) (a10 : List Int) => k0 a9 a10))
theorem refOnesF_l1_eq (fuel : Nat) (n : Int) (K : Ex → St → Option Out) : ∀ (k : Nat) (w1 : Nat) (w2 : Int) (w3 : List Int), lpN (sub (bodyOf Tryd.prog 64) [1, 1, 0, 1, 0, 0]) (fnX Tryd.prog mode5 T_refSum fuel 15 0) 16396 [0, 2, 3, 4] k ⟨[(0, .s (.int .i64 n)), (2, .s (.slice none 0 0)), (3, .sl 0 1 0 w1), (4, .s (.int .i64 w2))], [(0, some ⟨3, .li .i64 w3, true⟩)], 1, none⟩ K = refOnesF_l1 fuel n (fun (y4 : Nat) (y5 : List Int) => K (.exit 0) ⟨[(2, .s (.slice none 0 0)), (3, .sl 0 1 0 y4)], [(0, some ⟨3, .li .i64 y5, true⟩)], 1, none⟩) k w1 w2 w3
  | 0, _, _, _ => rfl
  | k + 1, w1, w2, w3 => by
    unfold refOnesF_l1
    exact (refOnesF_s2_eq fuel k K w2 n w3 w1).trans (congr (congr (Eq.refl (refOnesF_s2 (R := Out) w2 n w3 w1)) (funext fun a6 => funext fun a7 => funext fun a8 => refOnesF_l1_eq fuel n K k a6 a7 a8)) (rfl))
noncomputable def refOnesF_s3 {R : Type} (x15 : List Int) (x14 : Nat) (c0 : List Int → Option R) : Option R :=
  c0 ((x15.drop 0).take x14)
theorem refOnesF_s3_eq (fuel : Nat)  (x15 : List Int) (x14 : Nat) : (kont (fnX Tryd.prog mode5 T_refSum fuel 15 0) (bodyOf Tryd.prog 64) [1, 1, 0, 1, 0] 4 (endK Tryd.prog 0 0 64)) (.exit 0) ⟨[(2, .s (.slice none 0 0)), (3, .sl 0 1 0 x14)], [(0, some ⟨3, .li .i64 x15, true⟩)], 1, none⟩ = refOnesF_s3 x15 x14 (fun (a16 : List Int) => some (.li .i64 a16, [])) := by kernel_rfl
noncomputable def refOnesF_s1 {R : Type} (n : Int) (c0 : Nat → Int → List Int → Option R) : Option R :=
  c0 0 0 ([])
theorem refOnesF_s1_eq (fuel : Nat)  (n : Int) : callN Tryd.prog mode5 T_refSum fuel 64 [.s (.int .i64 n)] [] = refOnesF_s1 n (fun (a11 : Nat) (a12 : Int) (a13 : List Int) => lpN (sub (bodyOf Tryd.prog 64) [1, 1, 0, 1, 0, 0]) (fnX Tryd.prog mode5 T_refSum fuel 15 0) 16396 [0, 2, 3, 4] fuel ⟨[(0, .s (.int .i64 n)), (2, .s (.slice none 0 0)), (3, .sl 0 1 0 a11), (4, .s (.int .i64 a12))], [(0, some ⟨3, .li .i64 a13, true⟩)], 1, none⟩ (kont (fnX Tryd.prog mode5 T_refSum fuel 15 0) (bodyOf Tryd.prog 64) [1, 1, 0, 1, 0] 4 (endK Tryd.prog 0 0 64))) := by kernel_rfl
noncomputable def refOnesF {R : Type} (fuel : Nat) (n : Int) (r0 : List Int → Option R) : Option R :=
  (refOnesF_s1 n (fun (a11 : Nat) (a12 : Int) (a13 : List Int) => (refOnesF_l1 fuel n (fun (x14 : Nat) (x15 : List Int) => (refOnesF_s3 x15 x14 (fun (a16 : List Int) => r0 a16))) fuel a11 a12 a13)))
theorem refOnesF_eq (fuel : Nat) (n : Int) : callN Tryd.prog mode5 T_refSum fuel 64 [.s (.int .i64 n)] [] = refOnesF fuel n (fun (z0 : List Int) => some (.li .i64 z0, [])) := by
  unfold refOnesF
  exact (refOnesF_s1_eq fuel  n).trans (congr (Eq.refl (refOnesF_s1 (R := Out) n)) (funext fun a11 => funext fun a12 => funext fun a13 => (refOnesF_l1_eq fuel n (kont (fnX Tryd.prog mode5 T_refSum fuel 15 0) (bodyOf Tryd.prog 64) [1, 1, 0, 1, 0] 4 (endK Tryd.prog 0 0 64)) fuel a11 a12 a13).trans (congrFun (congrFun (congrFun (congrFun (congr (Eq.refl (refOnesF_l1 (R := Out) fuel n)) (funext fun x14 => funext fun x15 => (refOnesF_s3_eq fuel  x15 x14))) fuel) a11) a12) a13)))
theorem refOnes_loop {R : Type} (fuel : Nat) (n : Nat) (hn : n ≤ 1000000) (k0 : Nat → List Int → Option R) : ∀ (k j : Nat), j ≤ n → n < j + k → refOnesF_l1 fuel (n : Int) k0 k j (j : Int) (ones j) = k0 n (ones n)
  | 0, j, h1, h2 => by omega
  | k + 1, j, h1, h2 => by
    unfold refOnesF_l1 refOnesF_s2
    rw [br_if]
    by_cases hc : j < n
    · have e : ones j ++ [1] = ones (j + 1) := by unfold ones; rw [List.replicate_succ']
      rw [if_pos (by simpa using hc), grd_of (by rw [ones_len]; exact beq_self j), grd_of (okN_of (by omega) (by omega)), e, ones_len, wrap_i64 (by omega) (by omega), show (j : Int) + 1 = ((j + 1 : Nat) : Int) by omega]
      exact refOnes_loop fuel n hn k0 k (j + 1) (by omega) (by omega)
    · have e : j = n := by omega
      subst e
      rw [if_neg (by simp)]
theorem refOnes_fact (n : Int) (hg : (decide ((0 : Int) ≤ n) && decide ((n : Int) ≤ 1000000)) = true) : Fact Tryd.prog gTab 64 [.s (.int .i64 n)] [] (.li .i64 (ones (Int.toNat n)), []) := by
  simp only [Bool.and_eq_true, decide_eq_true_eq] at hg
  obtain ⟨m, rfl⟩ : ∃ m : Nat, n = (m : Int) := ⟨n.toNat, by omega⟩
  refine callN_fact hN hM T_refSum_ok (n := m + 1) (mode := mode5) ?_
  rw [refOnesF_eq]
  unfold refOnesF refOnesF_s1
  dsimp only
  rw [show ([] : List Int) = ones 0 from rfl, show (0 : Int) = ((0 : Nat) : Int) from rfl, refOnes_loop (m + 1) m (by omega) _ (m + 1) 0 (by omega) (by omega)]
  unfold refOnesF_s3
  rw [List.drop_zero, Int.toNat_natCast, List.take_of_length_le (by rw [ones_len]; exact Nat.le_refl _)]
noncomputable def refOnes_ent : List V → List Blk → Option (Bool × Out)
  | [.s (.int .i64 n)], [] => some ((decide ((0 : Int) ≤ n) && decide ((n : Int) ≤ 1000000)), (.li .i64 (ones (Int.toNat n)), []))
  | _, _ => none
theorem refOnes_ok : ∀ args bs out, refOnes_ent args bs = some (true, out) → Fact Tryd.prog gTab 64 args bs out := by
  intro args bs out h
  unfold refOnes_ent at h
  split at h
  · rename_i n
    simp only [Option.some.injEq, Prod.mk.injEq] at h
    obtain ⟨hg, rfl⟩ := h
    exact refOnes_fact n hg
  · cases h
noncomputable def T_refOnes : Tbl := Tbl.cons 64 refOnes_ent T_refSum
theorem T_refOnes_ok : CallOk Tryd.prog gTab T_refOnes := cons_ok T_refSum_ok refOnes_ok
/-! downpour/downpourref02.Nought -/
noncomputable def refNoughtF_s2 {R : Type} (w2 : Int) (s : ByteArray) (c0 : Option R) (c1 : Int → Option R) (c2 : Option R) : Option R :=
  br (decide (w2 < ((s.size : Nat) : Int)))
    (bnd (ix s.data.toList w2) fun ub4 =>
    br ((((ub4.toNat : Nat) : Int) : Int) != 0)
      (c0)
      (c1 (IntKind.i64.wrap (w2 + 1))))
    (c2)
theorem refNoughtF_s2_eq (fuel : Nat) (k : Nat) (K : Ex → St → Option Out) (w2 : Int) (s : ByteArray) : lpN (sub (bodyOf Tryd.prog 61) [1, 0, 1, 0, 0]) (fnX Tryd.prog mode5 T_refOnes fuel 14 0) 4 [0, 2, 3] (k + 1) ⟨[(0, .s (.string s)), (2, .s (.bool false)), (3, .s (.int .i64 w2))], [], 0, none⟩ K = refNoughtF_s2 w2 s (K .ret ⟨[(2, .s (.bool false))], [], 0, none⟩) (fun (a5 : Int) => lpN (sub (bodyOf Tryd.prog 61) [1, 0, 1, 0, 0]) (fnX Tryd.prog mode5 T_refOnes fuel 14 0) 4 [0, 2, 3] k ⟨[(0, .s (.string s)), (2, .s (.bool false)), (3, .s (.int .i64 a5))], [], 0, none⟩ K) (K (.exit 0) ⟨[(2, .s (.bool false))], [], 0, none⟩) := by kernel_rfl
noncomputable def refNoughtF_l1 {R : Type} (fuel : Nat) (s : ByteArray) (k0 : Option R) (k1 : Option R) : Nat → Int → Option R
  | 0, _ => none
  | k + 1, w2 =>
    (refNoughtF_s2 w2 s (k0) (fun (a5 : Int) => ( refNoughtF_l1 fuel s k0 k1 k a5 )) (k1))
theorem refNoughtF_l1_eq (fuel : Nat) (s : ByteArray) (K : Ex → St → Option Out) : ∀ (k : Nat) (w2 : Int), lpN (sub (bodyOf Tryd.prog 61) [1, 0, 1, 0, 0]) (fnX Tryd.prog mode5 T_refOnes fuel 14 0) 4 [0, 2, 3] k ⟨[(0, .s (.string s)), (2, .s (.bool false)), (3, .s (.int .i64 w2))], [], 0, none⟩ K = refNoughtF_l1 fuel s (K .ret ⟨[(2, .s (.bool false))], [], 0, none⟩) (K (.exit 0) ⟨[(2, .s (.bool false))], [], 0, none⟩) k w2
  | 0, _ => rfl
  | k + 1, w2 => by
    unfold refNoughtF_l1
    exact (refNoughtF_s2_eq fuel k K w2 s).trans (congr (congr (congr (Eq.refl (refNoughtF_s2 (R := Out) w2 s)) (rfl)) (funext fun a5 => refNoughtF_l1_eq fuel s K k a5)) (rfl))
noncomputable def refNoughtF_s3 {R : Type}  (c0 : Bool → Option R) : Option R :=
  c0 false
theorem refNoughtF_s3_eq (fuel : Nat)   : (kont (fnX Tryd.prog mode5 T_refOnes fuel 14 0) (bodyOf Tryd.prog 61) [1, 0, 1, 0] 4 (endK Tryd.prog 0 0 61)) .ret ⟨[(2, .s (.bool false))], [], 0, none⟩ = refNoughtF_s3  (fun (a7 : Bool) => some (.s (.bool a7), [])) := by kernel_rfl
noncomputable def refNoughtF_s4 {R : Type}  (c0 : Bool → Option R) : Option R :=
  c0 true
theorem refNoughtF_s4_eq (fuel : Nat)   : (kont (fnX Tryd.prog mode5 T_refOnes fuel 14 0) (bodyOf Tryd.prog 61) [1, 0, 1, 0] 4 (endK Tryd.prog 0 0 61)) (.exit 0) ⟨[(2, .s (.bool false))], [], 0, none⟩ = refNoughtF_s4  (fun (a8 : Bool) => some (.s (.bool a8), [])) := by kernel_rfl
noncomputable def refNoughtF_s1 {R : Type} (s : ByteArray) (c0 : Int → Option R) : Option R :=
  c0 0
theorem refNoughtF_s1_eq (fuel : Nat)  (s : ByteArray) : callN Tryd.prog mode5 T_refOnes fuel 61 [.s (.string s)] [] = refNoughtF_s1 s (fun (a6 : Int) => lpN (sub (bodyOf Tryd.prog 61) [1, 0, 1, 0, 0]) (fnX Tryd.prog mode5 T_refOnes fuel 14 0) 4 [0, 2, 3] fuel ⟨[(0, .s (.string s)), (2, .s (.bool false)), (3, .s (.int .i64 a6))], [], 0, none⟩ (kont (fnX Tryd.prog mode5 T_refOnes fuel 14 0) (bodyOf Tryd.prog 61) [1, 0, 1, 0] 4 (endK Tryd.prog 0 0 61))) := by kernel_rfl
noncomputable def refNoughtF {R : Type} (fuel : Nat) (s : ByteArray) (r0 : Bool → Option R) : Option R :=
  (refNoughtF_s1 s (fun (a6 : Int) => (refNoughtF_l1 fuel s ((refNoughtF_s3 (fun (a7 : Bool) => r0 a7))) ((refNoughtF_s4 (fun (a8 : Bool) => r0 a8))) fuel a6)))
theorem refNoughtF_eq (fuel : Nat) (s : ByteArray) : callN Tryd.prog mode5 T_refOnes fuel 61 [.s (.string s)] [] = refNoughtF fuel s (fun (z0 : Bool) => some (.s (.bool z0), [])) := by
  unfold refNoughtF
  exact (refNoughtF_s1_eq fuel  s).trans (congr (Eq.refl (refNoughtF_s1 (R := Out) s)) (funext fun a6 => (refNoughtF_l1_eq fuel s (kont (fnX Tryd.prog mode5 T_refOnes fuel 14 0) (bodyOf Tryd.prog 61) [1, 0, 1, 0] 4 (endK Tryd.prog 0 0 61)) fuel a6).trans (congrFun (congrFun (congr (congr (Eq.refl (refNoughtF_l1 (R := Out) fuel s)) ((refNoughtF_s3_eq fuel  ))) ((refNoughtF_s4_eq fuel  ))) fuel) a6)))
theorem refNought_loop {R : Type} (fuel : Nat) (s : ByteArray) (hx : s.size ≤ 1000000) (k0 k1 : Option R) : ∀ (k j : Nat), j ≤ s.size → s.size < j + k → refNoughtF_l1 fuel s k0 k1 k (j : Int) = if (∀ x ∈ (bytesL s).drop j, x = 0) then k1 else k0
  | 0, j, h1, h2 => by omega
  | k + 1, j, h1, h2 => by
    have hl := bytes_len s
    unfold refNoughtF_l1 refNoughtF_s2
    rw [br_if]
    by_cases hc : j < s.size
    · obtain ⟨c, e1, e2⟩ := ix_byte s j hc
      have hj : j < (bytesL s).length := by omega
      rw [if_pos (by simpa using hc), bnd_of e1, br_if, e2, getD_get hj, List.drop_eq_getElem_cons hj, wrap_i64 (by omega) (by omega), show (j : Int) + 1 = ((j + 1 : Nat) : Int) by omega]
      dsimp only
      rw [refNought_loop fuel s hx k0 k1 k (j + 1) (by omega) (by omega)]
      generalize (bytesL s)[j] = x
      generalize (bytesL s).drop (j + 1) = t
      by_cases he : x = 0 <;> simp [he]
    · rw [if_neg (by simpa using hc), List.drop_eq_nil_of_le (by omega)]
      simp
theorem refNought_fact (s : ByteArray) (hg : (decide (s.size ≤ 1000000)) = true) : Fact Tryd.prog gTab 61 [.s (.string s)] [] (.s (.bool (nought s)), []) := by
  have hg := of_decide_eq_true hg
  refine callN_fact hN hM T_refOnes_ok (n := s.size + 1) (mode := mode5) ?_
  rw [refNoughtF_eq]
  unfold refNoughtF refNoughtF_s1
  dsimp only
  rw [show (0 : Int) = ((0 : Nat) : Int) from rfl, refNought_loop (s.size + 1) s hg _ _ (s.size + 1) 0 (by omega) (by omega), List.drop_zero, nought_eq]
  unfold noughtI refNoughtF_s3 refNoughtF_s4
  by_cases h : ∀ x ∈ bytesL s, x = 0
  · rw [if_pos h, decide_eq_true h]
  · rw [if_neg h, decide_eq_false h]
noncomputable def refNought_ent : List V → List Blk → Option (Bool × Out)
  | [.s (.string s)], [] => some ((decide (s.size ≤ 1000000)), (.s (.bool (nought s)), []))
  | _, _ => none
theorem refNought_ok : ∀ args bs out, refNought_ent args bs = some (true, out) → Fact Tryd.prog gTab 61 args bs out := by
  intro args bs out h
  unfold refNought_ent at h
  split at h
  · rename_i s
    simp only [Option.some.injEq, Prod.mk.injEq] at h
    obtain ⟨hg, rfl⟩ := h
    exact refNought_fact s hg
  · cases h
noncomputable def T_refNought : Tbl := Tbl.cons 61 refNought_ent T_refOnes
theorem T_refNought_ok : CallOk Tryd.prog gTab T_refNought := cons_ok T_refOnes_ok refNought_ok
/-! downpour/downpourref02.Texts -/
noncomputable def refTextsF_s2 {R : Type} (w6 : Int) (w5 : Int) (a : List ByteArray) (b : List ByteArray) (c0 : Option R) (c1 : Int → Int → Option R) (c2 : Option R) : Option R :=
  br (decide (w6 < w5))
    (bnd (ix a w6) fun e9 =>
    bnd (ix b w6) fun e10 =>
    br (!(eqS e9 e10))
      (c0)
      (c1 w5 (IntKind.i64.wrap (w6 + 1))))
    (c2)
theorem refTextsF_s2_eq (fuel : Nat) (k : Nat) (K : Ex → St → Option Out) (w6 : Int) (w5 : Int) (a : List ByteArray) (b : List ByteArray) : lpN (sub (bodyOf Tryd.prog 44) [1, 1, 0, 1, 0, 0]) (fnX Tryd.prog mode5 T_refNought fuel 26 0) 16 [0, 1, 4, 12, 13] (k + 1) ⟨[(0, .ls a), (1, .ls b), (4, .s (.bool false)), (12, .s (.int .i64 w5)), (13, .s (.int .i64 w6))], [], 0, none⟩ K = refTextsF_s2 w6 w5 a b (K .ret ⟨[(4, .s (.bool false))], [], 0, none⟩) (fun (a11 : Int) (a12 : Int) => lpN (sub (bodyOf Tryd.prog 44) [1, 1, 0, 1, 0, 0]) (fnX Tryd.prog mode5 T_refNought fuel 26 0) 16 [0, 1, 4, 12, 13] k ⟨[(0, .ls a), (1, .ls b), (4, .s (.bool false)), (12, .s (.int .i64 a11)), (13, .s (.int .i64 a12))], [], 0, none⟩ K) (K (.exit 0) ⟨[(4, .s (.bool false))], [], 0, none⟩) := by kernel_rfl
noncomputable def refTextsF_l1 {R : Type} (fuel : Nat) (a : List ByteArray) (b : List ByteArray) (k0 : Option R) (k1 : Option R) : Nat → Int → Int → Option R
  | 0, _, _ => none
  | k + 1, w5, w6 =>
    (refTextsF_s2 w6 w5 a b (k0) (fun (a11 : Int) (a12 : Int) => ( refTextsF_l1 fuel a b k0 k1 k a11 a12 )) (k1))
theorem refTextsF_l1_eq (fuel : Nat) (a : List ByteArray) (b : List ByteArray) (K : Ex → St → Option Out) : ∀ (k : Nat) (w5 : Int) (w6 : Int), lpN (sub (bodyOf Tryd.prog 44) [1, 1, 0, 1, 0, 0]) (fnX Tryd.prog mode5 T_refNought fuel 26 0) 16 [0, 1, 4, 12, 13] k ⟨[(0, .ls a), (1, .ls b), (4, .s (.bool false)), (12, .s (.int .i64 w5)), (13, .s (.int .i64 w6))], [], 0, none⟩ K = refTextsF_l1 fuel a b (K .ret ⟨[(4, .s (.bool false))], [], 0, none⟩) (K (.exit 0) ⟨[(4, .s (.bool false))], [], 0, none⟩) k w5 w6
  | 0, _, _ => rfl
  | k + 1, w5, w6 => by
    unfold refTextsF_l1
    exact (refTextsF_s2_eq fuel k K w6 w5 a b).trans (congr (congr (congr (Eq.refl (refTextsF_s2 (R := Out) w6 w5 a b)) (rfl)) (funext fun a11 => funext fun a12 => refTextsF_l1_eq fuel a b K k a11 a12)) (rfl))
noncomputable def refTextsF_s3 {R : Type}  (c0 : Bool → Option R) : Option R :=
  c0 false
theorem refTextsF_s3_eq (fuel : Nat)   : (kont (fnX Tryd.prog mode5 T_refNought fuel 26 0) (bodyOf Tryd.prog 44) [1, 1, 0, 1, 0] 16 (endK Tryd.prog 0 0 44)) .ret ⟨[(4, .s (.bool false))], [], 0, none⟩ = refTextsF_s3  (fun (a15 : Bool) => some (.s (.bool a15), [])) := by kernel_rfl
noncomputable def refTextsF_s4 {R : Type}  (c0 : Bool → Option R) : Option R :=
  c0 true
theorem refTextsF_s4_eq (fuel : Nat)   : (kont (fnX Tryd.prog mode5 T_refNought fuel 26 0) (bodyOf Tryd.prog 44) [1, 1, 0, 1, 0] 16 (endK Tryd.prog 0 0 44)) (.exit 0) ⟨[(4, .s (.bool false))], [], 0, none⟩ = refTextsF_s4  (fun (a16 : Bool) => some (.s (.bool a16), [])) := by kernel_rfl
noncomputable def refTextsF_s1 {R : Type} (a : List ByteArray) (b : List ByteArray) (c0 : Bool → Option R) (c1 : Int → Int → Option R) : Option R :=
  br ((((a.length : Nat) : Int) : Int) != ((b.length : Nat) : Int))
    (c0 false)
    (c1 ((a.length : Nat) : Int) 0)
theorem refTextsF_s1_eq (fuel : Nat)  (a : List ByteArray) (b : List ByteArray) : callN Tryd.prog mode5 T_refNought fuel 44 [.ls a, .ls b] [] = refTextsF_s1 a b (fun (a1 : Bool) => some (.s (.bool a1), [])) (fun (a13 : Int) (a14 : Int) => lpN (sub (bodyOf Tryd.prog 44) [1, 1, 0, 1, 0, 0]) (fnX Tryd.prog mode5 T_refNought fuel 26 0) 16 [0, 1, 4, 12, 13] fuel ⟨[(0, .ls a), (1, .ls b), (4, .s (.bool false)), (12, .s (.int .i64 a13)), (13, .s (.int .i64 a14))], [], 0, none⟩ (kont (fnX Tryd.prog mode5 T_refNought fuel 26 0) (bodyOf Tryd.prog 44) [1, 1, 0, 1, 0] 16 (endK Tryd.prog 0 0 44))) := by kernel_rfl
noncomputable def refTextsF {R : Type} (fuel : Nat) (a : List ByteArray) (b : List ByteArray) (r0 : Bool → Option R) : Option R :=
  (refTextsF_s1 a b (fun (a1 : Bool) => r0 a1) (fun (a13 : Int) (a14 : Int) => (refTextsF_l1 fuel a b ((refTextsF_s3 (fun (a15 : Bool) => r0 a15))) ((refTextsF_s4 (fun (a16 : Bool) => r0 a16))) fuel a13 a14)))
theorem refTextsF_eq (fuel : Nat) (a : List ByteArray) (b : List ByteArray) : callN Tryd.prog mode5 T_refNought fuel 44 [.ls a, .ls b] [] = refTextsF fuel a b (fun (z0 : Bool) => some (.s (.bool z0), [])) := by
  unfold refTextsF
  exact (refTextsF_s1_eq fuel  a b).trans (congr (congr (Eq.refl (refTextsF_s1 (R := Out) a b)) (rfl)) (funext fun a13 => funext fun a14 => (refTextsF_l1_eq fuel a b (kont (fnX Tryd.prog mode5 T_refNought fuel 26 0) (bodyOf Tryd.prog 44) [1, 1, 0, 1, 0] 16 (endK Tryd.prog 0 0 44)) fuel a13 a14).trans (congrFun (congrFun (congrFun (congr (congr (Eq.refl (refTextsF_l1 (R := Out) fuel a b)) ((refTextsF_s3_eq fuel  ))) ((refTextsF_s4_eq fuel  ))) fuel) a13) a14)))
theorem refTexts_loop {R : Type} (fuel : Nat) (a b : List ByteArray) (hab : a.length = b.length) (hx : a.length ≤ 1000000) (k0 k1 : Option R) : ∀ (k j : Nat), j ≤ a.length → a.length < j + k → refTextsF_l1 fuel a b k0 k1 k (a.length : Int) (j : Int) = if a.drop j = b.drop j then k1 else k0
  | 0, j, h1, h2 => by omega
  | k + 1, j, h1, h2 => by
    unfold refTextsF_l1 refTextsF_s2
    rw [br_if]
    by_cases hc : j < a.length
    · have hc2 : j < b.length := by omega
      rw [if_pos (by simpa using hc), bnd_of ((ix_nat a j).trans (List.getElem?_eq_getElem hc)), bnd_of ((ix_nat b j).trans (List.getElem?_eq_getElem hc2)), br_if, List.drop_eq_getElem_cons hc, List.drop_eq_getElem_cons hc2, wrap_i64 (by omega) (by omega), show (j : Int) + 1 = ((j + 1 : Nat) : Int) by omega, eqS_decide]
      dsimp only
      rw [refTexts_loop fuel a b hab hx k0 k1 k (j + 1) (by omega) (by omega)]
      generalize a[j] = x
      generalize b[j] = y
      generalize a.drop (j + 1) = t
      generalize b.drop (j + 1) = u
      by_cases he : x = y <;> simp [he]
    · rw [if_neg (by simpa using hc), List.drop_eq_nil_of_le (by omega), List.drop_eq_nil_of_le (by omega)]
      simp
theorem refTexts_fact (a : List ByteArray) (b : List ByteArray) (hg : (decide (a.length ≤ 1000000)) = true) : Fact Tryd.prog gTab 44 [.ls a, .ls b] [] (.s (.bool (eqTS a b)), []) := by
  have hg := of_decide_eq_true hg
  refine callN_fact hN hM T_refNought_ok (n := a.length + 1) (mode := mode5) ?_
  rw [refTextsF_eq]
  unfold refTextsF refTextsF_s1
  rw [br_if, eqTS_eq]
  unfold eqTI
  by_cases hab : a.length = b.length
  · rw [if_neg (by simp; omega)]
    dsimp only
    have := refTexts_loop (R := Out) (a.length + 1) a b hab hg
    rw [show (0 : Int) = ((0 : Nat) : Int) from rfl, this _ _ _ _ (by omega) (by omega), List.drop_zero, List.drop_zero]
    unfold refTextsF_s3 refTextsF_s4
    by_cases h : a = b <;> simp [h]
  · rw [if_pos (by simp; omega)]
    have : a ≠ b := by rintro rfl; exact hab rfl
    simp [this]
noncomputable def refTexts_ent : List V → List Blk → Option (Bool × Out)
  | [w0, w1], [] => (asSl .str w0).bind fun a => (asSl .str w1).bind fun b => some ((decide (a.length ≤ 1000000)), (.s (.bool (eqTS a b)), []))
  | _, _ => none
theorem refTexts_ok : ∀ args bs out, refTexts_ent args bs = some (true, out) → Fact Tryd.prog gTab 44 args bs out := by
  intro args bs out h
  unfold refTexts_ent at h
  split at h
  · rename_i w0 w1
    obtain ⟨a, h_a, h⟩ := Option.bind_eq_some_iff.1 h
    obtain ⟨b, h_b, h⟩ := Option.bind_eq_some_iff.1 h
    simp only [Option.some.injEq, Prod.mk.injEq] at h
    obtain ⟨hg, rfl⟩ := h
    exact (refTexts_fact a b hg).args (fun _ _ _ => fun _ h => RVs_two (fun _ h => RV_ls h_a h) (fun _ h => RVs_two (fun _ h => RV_ls h_b h) (fun _ h => h) h) h)
  · cases h
noncomputable def T_refTexts : Tbl := Tbl.cons 44 refTexts_ent T_refNought
theorem T_refTexts_ok : CallOk Tryd.prog gTab T_refTexts := cons_ok T_refNought_ok refTexts_ok
end Go.Proofs.YtleagoeimkcekaaDoor
