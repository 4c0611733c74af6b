/- Orders of random numbers: what each function tells. -/
import Derived.Test.YtkphabppgpcblaaPmTab
import Derived.KernelRfl
import Derived.Test.YtkphabppgpcblaaProg
import Derived.Test.YtkphabppgpcblaaPmPut
import Derived.Test.YtkphabppgpcblaaRn
import Derived.Shelf.Sort.Plain
set_option autoImplicit false
set_option maxRecDepth 100000
set_option maxHeartbeats 4000000
set_option linter.unusedVariables false
set_option linter.unusedSimpArgs false
namespace Go.Proofs.Ytkphabppgpcblaa
open Go Go.PM Go.Proofs Go.Shelf
/-! Orders of random numbers: what they are. -/
def iotaS (n : Nat) : List Int := (List.range n).map Int.ofNat
theorem iota_succ (n : Nat) : iotaS n ++ [(n : Int)] = iotaS (n + 1) := by unfold iotaS; rw [List.range_succ, List.map_append]; rfl
theorem iota_len (n : Nat) : (iotaS n).length = n := by unfold iotaS; simp
def swpS (l : List Int) (i j : Nat) : List Int := (l.set i (l[j]?.getD 0)).set j (l[i]?.getD 0)
theorem swp_len (l : List Int) (i j : Nat) : (swpS l i j).length = l.length := by unfold swpS; simp
noncomputable def swapsS : Nat → Int → List Int → Int × List Int
  | 0, s, l => (s, l)
  | i + 1, s, l => swapsS i (belowS s ((i : Int) + 2)).1 (swpS l (i + 1) (belowS s ((i : Int) + 2)).2.toNat)
noncomputable def shuffleI (s n : Int) : Int × List Int := swapsS (n.toNat - 1) s (iotaS n.toNat)
noncomputable def shuffleS : Int → Int → Int × List Int := Classical.choose (⟨shuffleI, rfl⟩ : ∃ f, f = shuffleI)
theorem shuffleS_eq : shuffleS = shuffleI := Classical.choose_spec (⟨shuffleI, rfl⟩ : ∃ f, f = shuffleI)
def someOk (n many : Int) : Bool := sizedS n && decide (0 ≤ many) && decide (many ≤ n)
def riseI (m : Nat) (xs : List Int) : List Int := ((xs.take m).mergeSort fun x y => decide (x ≤ y)) ++ xs.drop m
noncomputable def sortPre : Nat → List Int → List Int := Classical.choose (⟨riseI, rfl⟩ : ∃ f, f = riseI)
theorem sortPre_eq : sortPre = riseI := Classical.choose_spec (⟨riseI, rfl⟩ : ∃ f, f = riseI)
noncomputable def someI (s n many : Int) : List Int := ((shuffleS s n).2.take many.toNat).mergeSort fun x y => decide (x ≤ y)
noncomputable def someS : Int → Int → Int → List Int := Classical.choose (⟨someI, rfl⟩ : ∃ f, f = someI)
theorem someS_eq : someS = someI := Classical.choose_spec (⟨someI, rfl⟩ : ∃ f, f = someI)
theorem search_range {rest n : Int} {r : Int × Int} (hn : 1 ≤ n) : ∀ {k : Nat} {s : Int}, search rest n k s = some r → (0 ≤ r.1 ∧ r.1 < 18446744073709551616) ∧ 0 ≤ r.2 ∧ r.2 < n
  | 0, s, h => by cases h
  | k + 1, s, h => by
    simp only [search] at h
    split at h
    · cases h
      exact ⟨next_range s, Int.emod_nonneg _ (by omega), Int.emod_lt_of_pos _ (by omega)⟩
    · exact search_range hn h
theorem below_range {s n : Int} (h0 : 0 ≤ s) (h1 : s < 18446744073709551616) (hn : 1 ≤ n) (hn2 : n ≤ 512) : (0 ≤ (belowS s n).1 ∧ (belowS s n).1 < 18446744073709551616) ∧ 0 ≤ (belowS s n).2 ∧ (belowS s n).2 < n := by
  have hr := rest_range hn hn2
  obtain ⟨k, r, hs⟩ := search_ends (n := n) h0 h1 (show 18446744073709551616 % n < 18446744073709551616 by omega)
  rw [below_of_search hs]
  exact search_range hn hs
theorem get_of {l : List Int} {i : Nat} (h : i < l.length) : l[i]? = some (l[i]?.getD 0) := by rw [List.getElem?_eq_getElem h]; rfl
noncomputable def inI (l : List Int) (many n : Int) : Bool := (l.take many.toNat).contains n
noncomputable def inS : List Int → Int → Int → Bool := Classical.choose (⟨inI, rfl⟩ : ∃ f, f = inI)
theorem inS_eq : inS = inI := Classical.choose_spec (⟨inI, rfl⟩ : ∃ f, f = inI)
def eqI_li (a b : List Int) : Bool := decide (a = b)
noncomputable def eqS_li : List Int → List Int → Bool := Classical.choose (⟨eqI_li, rfl⟩ : ∃ f, f = eqI_li)
theorem eqS_li_eq : eqS_li = eqI_li := Classical.choose_spec (⟨eqI_li, rfl⟩ : ∃ f, f = eqI_li)
theorem eqS_li_self (a : List Int) : eqS_li a a = true := by rw [eqS_li_eq]; simp [eqI_li]
theorem swp_perm {l : List Int} {i j : Nat} (hi : i < l.length) (hj : j < l.length) : (swpS l i j).Perm l := by
  have h := List.set_set_perm hi hj
  unfold swpS
  rw [List.getElem?_eq_getElem hi, List.getElem?_eq_getElem hj]
  exact h
theorem swaps_perm : ∀ (i : Nat) (s : Int) (l : List Int), i < l.length → l.length ≤ 512 → 0 ≤ s → s < 18446744073709551616 → (swapsS i s l).2.Perm l
  | 0, s, l, _, _, _, _ => List.Perm.refl _
  | i + 1, s, l, hi, hl, h0, h1 => by
    have hb := below_range (n := (i : Int) + 2) h0 h1 (by omega) (by omega)
    obtain ⟨⟨b0, b1⟩, b2, b3⟩ := hb
    rw [swapsS]
    exact (swaps_perm i _ _ (by rw [swp_len]; omega) (by rw [swp_len]; omega) b0 b1).trans (swp_perm hi (by omega))
theorem iota_nodup (n : Nat) : (iotaS n).Nodup := by
  unfold iotaS
  have h := List.nodup_range (n := n)
  unfold List.Nodup at h ⊢
  rw [List.pairwise_map]
  exact h.imp fun h e => h (by injection e)
theorem mem_iota {n : Nat} {x : Int} : x ∈ iotaS n ↔ 0 ≤ x ∧ x < n := by
  unfold iotaS
  rw [List.mem_map]
  constructor
  · rintro ⟨a, ha, rfl⟩
    rw [List.mem_range] at ha
    exact ⟨Int.natCast_nonneg a, Int.ofNat_lt.2 ha⟩
  · rintro ⟨h0, h1⟩
    exact ⟨x.toNat, List.mem_range.2 (by omega), by show ((x.toNat : Nat) : Int) = x; omega⟩
theorem shuffle_perm {s n : Int} (h0 : 0 ≤ s) (h1 : s < 18446744073709551616) (hn : 1 ≤ n) (hn2 : n ≤ 512) : (shuffleS s n).2.Perm (iotaS n.toNat) := by
  rw [shuffleS_eq]
  unfold shuffleI
  exact swaps_perm _ _ _ (by rw [iota_len]; omega) (by rw [iota_len]; omega) h0 h1
theorem mem_shuffle {s n x : Int} (h0 : 0 ≤ s) (h1 : s < 18446744073709551616) (hn : 1 ≤ n) (hn2 : n ≤ 512) : x ∈ (shuffleS s n).2 ↔ 0 ≤ x ∧ x < n := by
  rw [(shuffle_perm h0 h1 hn hn2).mem_iff, mem_iota]
  omega
theorem shuffle_nodup {s n : Int} (h0 : 0 ≤ s) (h1 : s < 18446744073709551616) (hn : 1 ≤ n) (hn2 : n ≤ 512) : (shuffleS s n).2.Nodup := (shuffle_perm h0 h1 hn hn2).nodup_iff.2 (iota_nodup _)
def pickS (p : Int → Bool) : Nat → Int → List Int
  | 0, _ => []
  | k + 1, i => if p i = true then i :: pickS p k (i + 1) else pickS p k (i + 1)
theorem mem_pick {p : Int → Bool} {x : Int} : ∀ {k : Nat} {i : Int}, x ∈ pickS p k i ↔ i ≤ x ∧ x < i + k ∧ p x = true
  | 0, i => by simp [pickS]; omega
  | k + 1, i => by
    have ih := mem_pick (p := p) (x := x) (k := k) (i := i + 1)
    rw [pickS]
    split
    · rename_i hp
      rw [List.mem_cons, ih]
      constructor
      · rintro (rfl | ⟨a, b, c⟩)
        · exact ⟨by omega, by omega, hp⟩
        · exact ⟨by omega, by omega, c⟩
      · rintro ⟨a, b, c⟩
        by_cases h : x = i
        · exact .inl h
        · exact .inr ⟨by omega, by omega, c⟩
    · rename_i hp
      rw [ih]
      constructor
      · rintro ⟨a, b, c⟩; exact ⟨by omega, by omega, c⟩
      · rintro ⟨a, b, c⟩
        have : x ≠ i := by rintro rfl; exact hp c
        exact ⟨by omega, by omega, c⟩
theorem pick_rise {p : Int → Bool} : ∀ {k : Nat} {i : Int}, (pickS p k i).Pairwise (· < ·)
  | 0, i => List.Pairwise.nil
  | k + 1, i => by
    rw [pickS]
    split
    · exact List.pairwise_cons.2 ⟨fun x hx => by have := (mem_pick.1 hx).1; omega, pick_rise⟩
    · exact pick_rise
theorem mem_some {s n many x : Int} : x ∈ someS s n many ↔ x ∈ (shuffleS s n).2.take many.toNat := by rw [someS_eq]; exact List.mem_mergeSort
theorem some_perm (s n many : Int) : (someS s n many).Perm ((shuffleS s n).2.take many.toNat) := by rw [someS_eq]; exact List.mergeSort_perm _ _
theorem some_rise (s n many : Int) : (someS s n many).Pairwise (· ≤ ·) := by
  rw [someS_eq]
  have := List.pairwise_mergeSort (le := fun x y : Int => decide (x ≤ y)) (fun a b c h1 h2 => by simp only [decide_eq_true_eq] at h1 h2 ⊢; omega) (fun a b => by simp; omega) ((shuffleS s n).2.take many.toNat)
  exact this.imp fun h => by simpa using h
theorem some_nodup {s n many : Int} (h0 : 0 ≤ s) (h1 : s < 18446744073709551616) (hn : 1 ≤ n) (hn2 : n ≤ 512) : (someS s n many).Nodup := (some_perm s n many).nodup_iff.2 ((shuffle_nodup h0 h1 hn hn2).sublist (List.take_sublist _ _))
theorem some_pick {s n many : Int} (h0 : 0 ≤ s) (h1 : s < 18446744073709551616) (hn : 1 ≤ n) (hn2 : n ≤ 512) : someS s n many = pickS (inS (shuffleS s n).2 many) n.toNat 0 := by
  refine List.Perm.eq_of_pairwise (le := (· ≤ ·)) (fun a b _ _ h h' => by omega) (some_rise s n many) (pick_rise.imp fun h => by omega) ?_
  refine (List.perm_ext_iff_of_nodup (some_nodup h0 h1 hn hn2) (pick_rise.imp fun h => by omega)).2 fun x => ?_
  rw [mem_some, mem_pick, inS_eq]
  unfold inI
  rw [List.contains_iff_mem]
  constructor
  · intro h
    have := (mem_shuffle h0 h1 hn hn2).1 ((List.take_sublist _ _).subset h)
    exact ⟨by omega, by omega, h⟩
  · exact fun h => h.2.2
theorem swaps_len : ∀ (i : Nat) (s : Int) (l : List Int), (swapsS i s l).2.length = l.length
  | 0, s, l => rfl
  | i + 1, s, l => by rw [swapsS, swaps_len i, swp_len]
theorem shuffle_len (s n : Int) : (shuffleS s n).2.length = n.toNat := by rw [shuffleS_eq]; unfold shuffleI; rw [swaps_len, iota_len]
theorem some_len {s n many : Int} (h : 0 ≤ many) (h2 : many ≤ n) : (someS s n many).length = many.toNat := by
  rw [(some_perm s n many).length_eq, List.length_take, shuffle_len]; omega
def mode1 : FuncId → Nat := fun f => bif Nat.beq f 53 then 2 else bif Nat.beq f 25 then 2 else 0
/-! downpour/random.Shuffle -/
noncomputable def shufOwnF_s3 {R : Type} (w11 : Int) (n : Int) (w12 : List Int) (w10 : Nat) (s : Int) (c0 : Nat → Int → List Int → Option R) (c1 : Nat → List Int → Option R) : Option R :=
  br (decide (w11 < n))
    (grd (Nat.beq w12.length w10) <|
    grd (okN (w10 + 1) 8) <|
    c0 ((w12 ++ [w11]).length) (IntKind.i64.wrap (w11 + 1)) (w12 ++ [w11]))
    (c1 w10 w12)
theorem shufOwnF_s3_eq (fuel : Nat) (k : Nat) (K : Ex → St → Option Out) (w11 : Int) (n : Int) (w12 : List Int) (w10 : Nat) (s : Int) : lpN (sub (bodyOf Try.prog 25) [1, 1, 1, 0, 1, 0, 0]) (fnX Try.prog mode1 T_law fuel 52 0) 4503599618983667 [0, 1, 4, 5, 6, 7, 14, 15] (k + 1) ⟨[(0, .s (.int .u64 s)), (1, .s (.int .i64 n)), (4, .s (.int .u64 0)), (5, .s (.slice none 0 0)), (6, .s (.int .i64 0)), (7, .sl 0 1 0 w10), (14, .s (.int .i64 n)), (15, .s (.int .i64 w11))], [(0, some ⟨3, .li .i64 w12, true⟩)], 1, none⟩ K = shufOwnF_s3 w11 n w12 w10 s (fun (a15 : Nat) (a16 : Int) (a17 : List Int) => lpN (sub (bodyOf Try.prog 25) [1, 1, 1, 0, 1, 0, 0]) (fnX Try.prog mode1 T_law fuel 52 0) 4503599618983667 [0, 1, 4, 5, 6, 7, 14, 15] k ⟨[(0, .s (.int .u64 s)), (1, .s (.int .i64 n)), (4, .s (.int .u64 0)), (5, .s (.slice none 0 0)), (6, .s (.int .i64 0)), (7, .sl 0 1 0 a15), (14, .s (.int .i64 n)), (15, .s (.int .i64 a16))], [(0, some ⟨3, .li .i64 a17, true⟩)], 1, none⟩ K) (fun (a18 : Nat) (a19 : List Int) => K (.exit 0) ⟨[(0, .s (.int .u64 s)), (1, .s (.int .i64 n)), (4, .s (.int .u64 0)), (5, .s (.slice none 0 0)), (6, .s (.int .i64 0)), (7, .sl 0 1 0 a18)], [(0, some ⟨3, .li .i64 a19, true⟩)], 1, none⟩) := by kernel_rfl
noncomputable def shufOwnF_l2 {R : Type} (fuel : Nat) (s : Int) (n : Int) (k0 : Nat → List Int → Option R) : Nat → Nat → Int → List Int → Option R
  | 0, _, _, _ => none
  | k + 1, w10, w11, w12 =>
    (shufOwnF_s3 w11 n w12 w10 s (fun (a15 : Nat) (a16 : Int) (a17 : List Int) => ( shufOwnF_l2 fuel s n k0 k a15 a16 a17 )) (fun (a18 : Nat) (a19 : List Int) => k0 a18 a19))
theorem shufOwnF_l2_eq (fuel : Nat) (s : Int) (n : Int) (K : Ex → St → Option Out) : ∀ (k : Nat) (w10 : Nat) (w11 : Int) (w12 : List Int), lpN (sub (bodyOf Try.prog 25) [1, 1, 1, 0, 1, 0, 0]) (fnX Try.prog mode1 T_law fuel 52 0) 4503599618983667 [0, 1, 4, 5, 6, 7, 14, 15] k ⟨[(0, .s (.int .u64 s)), (1, .s (.int .i64 n)), (4, .s (.int .u64 0)), (5, .s (.slice none 0 0)), (6, .s (.int .i64 0)), (7, .sl 0 1 0 w10), (14, .s (.int .i64 n)), (15, .s (.int .i64 w11))], [(0, some ⟨3, .li .i64 w12, true⟩)], 1, none⟩ K = shufOwnF_l2 fuel s n (fun (y13 : Nat) (y14 : List Int) => K (.exit 0) ⟨[(0, .s (.int .u64 s)), (1, .s (.int .i64 n)), (4, .s (.int .u64 0)), (5, .s (.slice none 0 0)), (6, .s (.int .i64 0)), (7, .sl 0 1 0 y13)], [(0, some ⟨3, .li .i64 y14, true⟩)], 1, none⟩) k w10 w11 w12
  | 0, _, _, _ => rfl
  | k + 1, w10, w11, w12 => by
    unfold shufOwnF_l2
    exact (shufOwnF_s3_eq fuel k K w11 n w12 w10 s).trans (congr (congr (Eq.refl (shufOwnF_s3 (R := Out) w11 n w12 w10 s)) (funext fun a15 => funext fun a16 => funext fun a17 => shufOwnF_l2_eq fuel s n K k a15 a16 a17)) (rfl))
noncomputable def shufOwnF_s2 {R : Type} (n : Int) (s : Int) (c0 : Nat → Int → List Int → Option R) (c1 : Option R) : Option R :=
  br (decide (0 < n))
    (c0 1 1 ([0]))
    (c1)
theorem shufOwnF_s2_eq (fuel : Nat) (k : Nat) (K : Ex → St → Option Out) (n : Int) (s : Int) : lpN (sub (bodyOf Try.prog 25) [1, 1, 1, 0, 1, 0, 0]) (fnX Try.prog mode1 T_law fuel 52 0) 4503599618983667 [0, 1, 4, 5, 6, 7, 14, 15] (k + 1) ⟨[(0, .s (.int .u64 s)), (1, .s (.int .i64 n)), (4, .s (.int .u64 0)), (5, .s (.slice none 0 0)), (6, .s (.int .i64 0)), (7, .s (.slice none 0 0)), (14, .s (.int .i64 n)), (15, .s (.int .i64 0))], [], 0, none⟩ K = shufOwnF_s2 n s (fun (a20 : Nat) (a21 : Int) (a22 : List Int) => lpN (sub (bodyOf Try.prog 25) [1, 1, 1, 0, 1, 0, 0]) (fnX Try.prog mode1 T_law fuel 52 0) 4503599618983667 [0, 1, 4, 5, 6, 7, 14, 15] k ⟨[(0, .s (.int .u64 s)), (1, .s (.int .i64 n)), (4, .s (.int .u64 0)), (5, .s (.slice none 0 0)), (6, .s (.int .i64 0)), (7, .sl 0 1 0 a20), (14, .s (.int .i64 n)), (15, .s (.int .i64 a21))], [(0, some ⟨3, .li .i64 a22, true⟩)], 1, none⟩ K) (K (.exit 0) ⟨[(0, .s (.int .u64 s)), (1, .s (.int .i64 n)), (4, .s (.int .u64 0)), (5, .s (.slice none 0 0)), (6, .s (.int .i64 0)), (7, .s (.slice none 0 0))], [], 0, none⟩) := by kernel_rfl
noncomputable def shufOwnF_l1 {R : Type} (fuel : Nat) (s : Int) (n : Int) (k0 : Nat → List Int → Option R) (k1 : Option R) : Nat → Option R
  | 0 => none
  | k + 1 =>
    (shufOwnF_s2 n s (fun (a20 : Nat) (a21 : Int) (a22 : List Int) => (shufOwnF_l2 fuel s n (fun (x23 : Nat) (x24 : List Int) => k0 x23 x24) k a20 a21 a22)) (k1))
theorem shufOwnF_l1_eq (fuel : Nat) (s : Int) (n : Int) (K : Ex → St → Option Out) : ∀ (k : Nat) , lpN (sub (bodyOf Try.prog 25) [1, 1, 1, 0, 1, 0, 0]) (fnX Try.prog mode1 T_law fuel 52 0) 4503599618983667 [0, 1, 4, 5, 6, 7, 14, 15] k ⟨[(0, .s (.int .u64 s)), (1, .s (.int .i64 n)), (4, .s (.int .u64 0)), (5, .s (.slice none 0 0)), (6, .s (.int .i64 0)), (7, .s (.slice none 0 0)), (14, .s (.int .i64 n)), (15, .s (.int .i64 0))], [], 0, none⟩ K = shufOwnF_l1 fuel s n (fun (y8 : Nat) (y9 : List Int) => K (.exit 0) ⟨[(0, .s (.int .u64 s)), (1, .s (.int .i64 n)), (4, .s (.int .u64 0)), (5, .s (.slice none 0 0)), (6, .s (.int .i64 0)), (7, .sl 0 1 0 y8)], [(0, some ⟨3, .li .i64 y9, true⟩)], 1, none⟩) (K (.exit 0) ⟨[(0, .s (.int .u64 s)), (1, .s (.int .i64 n)), (4, .s (.int .u64 0)), (5, .s (.slice none 0 0)), (6, .s (.int .i64 0)), (7, .s (.slice none 0 0))], [], 0, none⟩) k 
  | 0 => rfl
  | k + 1 => by
    unfold shufOwnF_l1
    exact (shufOwnF_s2_eq fuel k K n s).trans (congr (congr (Eq.refl (shufOwnF_s2 (R := Out) n s)) (funext fun a20 => funext fun a21 => funext fun a22 => shufOwnF_l2_eq fuel s n K k a20 a21 a22)) (rfl))
noncomputable def shufOwnF_s5 {R : Type} (w37 : Int) (w36 : Int) (x25 : Nat) (w38 : List Int) (c0 : Int → Int → List Int → Option R) (c1 : Int → List Int → Option R) : Option R :=
  br (decide (w37 > 0))
    (grd (decide (0 ≤ w36) && decide (w36 < 18446744073709551616) && decide (1 ≤ (IntKind.i64.wrap (w37 + 1))) && decide ((IntKind.i64.wrap (w37 + 1)) ≤ 512)) <|
    bnd (below ((belowS w36 (IntKind.i64.wrap (w37 + 1))).2) x25) fun j49 =>
    bnd (w38[(0 + j49)]?) fun e50 =>
    bnd (below w37 x25) fun j51 =>
    bnd (w38[(0 + j51)]?) fun e52 =>
    bnd (below w37 x25) fun j53 =>
    bnd (w38[(0 + j53)]?) fun e54 =>
    bnd (below ((belowS w36 (IntKind.i64.wrap (w37 + 1))).2) x25) fun j55 =>
    bnd ((w38.set (0 + j53) e50)[(0 + j55)]?) fun e56 =>
    c0 ((belowS w36 (IntKind.i64.wrap (w37 + 1))).1) (IntKind.i64.wrap (w37 - 1)) ((w38.set (0 + j53) e50).set (0 + j55) e52))
    (c1 w36 w38)
theorem shufOwnF_s5_eq (fuel : Nat) (k : Nat) (K : Ex → St → Option Out) (w37 : Int) (w36 : Int) (x25 : Nat) (w38 : List Int) : lpN (sub (bodyOf Try.prog 25) [1, 1, 1, 1, 0, 1, 0, 0]) (fnX Try.prog mode1 T_law fuel 52 0) 3377699720528113 [0, 4, 5, 6, 7, 9] (k + 1) ⟨[(0, .s (.int .u64 w36)), (4, .s (.int .u64 0)), (5, .s (.slice none 0 0)), (6, .s (.int .i64 0)), (7, .sl 0 1 0 x25), (9, .s (.int .i64 w37))], [(0, some ⟨3, .li .i64 w38, true⟩)], 1, none⟩ K = shufOwnF_s5 w37 w36 x25 w38 (fun (a57 : Int) (a58 : Int) (a59 : List Int) => lpN (sub (bodyOf Try.prog 25) [1, 1, 1, 1, 0, 1, 0, 0]) (fnX Try.prog mode1 T_law fuel 52 0) 3377699720528113 [0, 4, 5, 6, 7, 9] k ⟨[(0, .s (.int .u64 a57)), (4, .s (.int .u64 0)), (5, .s (.slice none 0 0)), (6, .s (.int .i64 0)), (7, .sl 0 1 0 x25), (9, .s (.int .i64 a58))], [(0, some ⟨3, .li .i64 a59, true⟩)], 1, none⟩ K) (fun (a60 : Int) (a61 : List Int) => K (.exit 2) ⟨[(0, .s (.int .u64 a60)), (4, .s (.int .u64 0)), (5, .s (.slice none 0 0)), (6, .s (.int .i64 0)), (7, .sl 0 1 0 x25)], [(0, some ⟨3, .li .i64 a61, true⟩)], 1, none⟩) := by kernel_rfl
noncomputable def shufOwnF_l3 {R : Type} (fuel : Nat) (x25 : Nat) (k0 : Int → List Int → Option R) : Nat → Int → Int → List Int → Option R
  | 0, _, _, _ => none
  | k + 1, w36, w37, w38 =>
    (shufOwnF_s5 w37 w36 x25 w38 (fun (a57 : Int) (a58 : Int) (a59 : List Int) => ( shufOwnF_l3 fuel x25 k0 k a57 a58 a59 )) (fun (a60 : Int) (a61 : List Int) => k0 a60 a61))
theorem shufOwnF_l3_eq (fuel : Nat) (x25 : Nat) (K : Ex → St → Option Out) : ∀ (k : Nat) (w36 : Int) (w37 : Int) (w38 : List Int), lpN (sub (bodyOf Try.prog 25) [1, 1, 1, 1, 0, 1, 0, 0]) (fnX Try.prog mode1 T_law fuel 52 0) 3377699720528113 [0, 4, 5, 6, 7, 9] k ⟨[(0, .s (.int .u64 w36)), (4, .s (.int .u64 0)), (5, .s (.slice none 0 0)), (6, .s (.int .i64 0)), (7, .sl 0 1 0 x25), (9, .s (.int .i64 w37))], [(0, some ⟨3, .li .i64 w38, true⟩)], 1, none⟩ K = shufOwnF_l3 fuel x25 (fun (y47 : Int) (y48 : List Int) => K (.exit 2) ⟨[(0, .s (.int .u64 y47)), (4, .s (.int .u64 0)), (5, .s (.slice none 0 0)), (6, .s (.int .i64 0)), (7, .sl 0 1 0 x25)], [(0, some ⟨3, .li .i64 y48, true⟩)], 1, none⟩) k w36 w37 w38
  | 0, _, _, _ => rfl
  | k + 1, w36, w37, w38 => by
    unfold shufOwnF_l3
    exact (shufOwnF_s5_eq fuel k K w37 w36 x25 w38).trans (congr (congr (Eq.refl (shufOwnF_s5 (R := Out) w37 w36 x25 w38)) (funext fun a57 => funext fun a58 => funext fun a59 => shufOwnF_l3_eq fuel x25 K k a57 a58 a59)) (rfl))
noncomputable def shufOwnF_s6 {R : Type} (x65 : Int) (x25 : Nat) (x66 : List Int) (c0 : Int → Nat → Nat → Int → List Int → Option R) : Option R :=
  c0 x65 0 x25 0 x66
theorem shufOwnF_s6_eq (fuel : Nat)  (x65 : Int) (x25 : Nat) (x66 : List Int) : (kont (fnX Try.prog mode1 T_law fuel 52 0) (bodyOf Try.prog 25) [1, 1, 1, 1, 0, 1, 0] 112 (endK Try.prog 2 0 25)) (.exit 2) ⟨[(0, .s (.int .u64 x65)), (4, .s (.int .u64 0)), (5, .s (.slice none 0 0)), (6, .s (.int .i64 0)), (7, .sl 0 1 0 x25)], [(0, some ⟨3, .li .i64 x66, true⟩)], 1, none⟩ = shufOwnF_s6 x65 x25 x66 (fun (a67 : Int) (a68 : Nat) (a69 : Nat) (a70 : Int) (a71 : List Int) => some (.tup [.s (.int .u64 a67), .sl 0 1 a68 a69, .s (.int .i64 a70)], [some ⟨3, .li .i64 a71, true⟩])) := by kernel_rfl
noncomputable def shufOwnF_s4 {R : Type} (s : Int) (n : Int) (x26 : List Int) (x25 : Nat) (c0 : Int → Int → List Int → Option R) : Option R :=
  c0 s (IntKind.i64.wrap (n - 1)) x26
theorem shufOwnF_s4_eq (fuel : Nat)  (s : Int) (n : Int) (x26 : List Int) (x25 : Nat) : (kont (fnX Try.prog mode1 T_law fuel 52 0) (bodyOf Try.prog 25) [1, 1, 1, 0, 1, 0] 112 (endK Try.prog 2 0 25)) (.exit 0) ⟨[(0, .s (.int .u64 s)), (1, .s (.int .i64 n)), (4, .s (.int .u64 0)), (5, .s (.slice none 0 0)), (6, .s (.int .i64 0)), (7, .sl 0 1 0 x25)], [(0, some ⟨3, .li .i64 x26, true⟩)], 1, none⟩ = shufOwnF_s4 s n x26 x25 (fun (a62 : Int) (a63 : Int) (a64 : List Int) => lpN (sub (bodyOf Try.prog 25) [1, 1, 1, 1, 0, 1, 0, 0]) (fnX Try.prog mode1 T_law fuel 52 0) 3377699720528113 [0, 4, 5, 6, 7, 9] fuel ⟨[(0, .s (.int .u64 a62)), (4, .s (.int .u64 0)), (5, .s (.slice none 0 0)), (6, .s (.int .i64 0)), (7, .sl 0 1 0 x25), (9, .s (.int .i64 a63))], [(0, some ⟨3, .li .i64 a64, true⟩)], 1, none⟩ (kont (fnX Try.prog mode1 T_law fuel 52 0) (bodyOf Try.prog 25) [1, 1, 1, 1, 0, 1, 0] 112 (endK Try.prog 2 0 25))) := by kernel_rfl
noncomputable def shufOwnF_s8 {R : Type} (w72 : Int) (s : Int) (c0 : Option R) : Option R :=
  br (decide (w72 > 0))
    (grd (decide (0 ≤ s) && decide (s < 18446744073709551616) && decide (1 ≤ (IntKind.i64.wrap (w72 + 1))) && decide ((IntKind.i64.wrap (w72 + 1)) ≤ 512)) <|
    none)
    (c0)
theorem shufOwnF_s8_eq (fuel : Nat) (k : Nat) (K : Ex → St → Option Out) (w72 : Int) (s : Int) : lpN (sub (bodyOf Try.prog 25) [1, 1, 1, 1, 0, 1, 0, 0]) (fnX Try.prog mode1 T_law fuel 52 0) 3377699720528113 [0, 4, 5, 6, 7, 9] (k + 1) ⟨[(0, .s (.int .u64 s)), (4, .s (.int .u64 0)), (5, .s (.slice none 0 0)), (6, .s (.int .i64 0)), (7, .s (.slice none 0 0)), (9, .s (.int .i64 w72))], [], 0, none⟩ K = shufOwnF_s8 w72 s (K (.exit 2) ⟨[(0, .s (.int .u64 s)), (4, .s (.int .u64 0)), (5, .s (.slice none 0 0)), (6, .s (.int .i64 0)), (7, .s (.slice none 0 0))], [], 0, none⟩) := by kernel_rfl
noncomputable def shufOwnF_l4 {R : Type} (fuel : Nat) (s : Int) (k0 : Option R) : Nat → Int → Option R
  | 0, _ => none
  | k + 1, w72 =>
    (shufOwnF_s8 w72 s (k0))
theorem shufOwnF_l4_eq (fuel : Nat) (s : Int) (K : Ex → St → Option Out) : ∀ (k : Nat) (w72 : Int), lpN (sub (bodyOf Try.prog 25) [1, 1, 1, 1, 0, 1, 0, 0]) (fnX Try.prog mode1 T_law fuel 52 0) 3377699720528113 [0, 4, 5, 6, 7, 9] k ⟨[(0, .s (.int .u64 s)), (4, .s (.int .u64 0)), (5, .s (.slice none 0 0)), (6, .s (.int .i64 0)), (7, .s (.slice none 0 0)), (9, .s (.int .i64 w72))], [], 0, none⟩ K = shufOwnF_l4 fuel s (K (.exit 2) ⟨[(0, .s (.int .u64 s)), (4, .s (.int .u64 0)), (5, .s (.slice none 0 0)), (6, .s (.int .i64 0)), (7, .s (.slice none 0 0))], [], 0, none⟩) k w72
  | 0, _ => rfl
  | k + 1, w72 => by
    unfold shufOwnF_l4
    exact (shufOwnF_s8_eq fuel k K w72 s)
noncomputable def shufOwnF_s9 {R : Type} (s : Int) (c0 : Int → Int → Option R) : Option R :=
  c0 s 0
theorem shufOwnF_s9_eq (fuel : Nat)  (s : Int) : (kont (fnX Try.prog mode1 T_law fuel 52 0) (bodyOf Try.prog 25) [1, 1, 1, 1, 0, 1, 0] 112 (endK Try.prog 2 0 25)) (.exit 2) ⟨[(0, .s (.int .u64 s)), (4, .s (.int .u64 0)), (5, .s (.slice none 0 0)), (6, .s (.int .i64 0)), (7, .s (.slice none 0 0))], [], 0, none⟩ = shufOwnF_s9 s (fun (a74 : Int) (a75 : Int) => some (.tup [.s (.int .u64 a74), .s (.slice none 0 0), .s (.int .i64 a75)], [])) := by kernel_rfl
noncomputable def shufOwnF_s7 {R : Type} (n : Int) (s : Int) (c0 : Int → Option R) : Option R :=
  c0 (IntKind.i64.wrap (n - 1))
theorem shufOwnF_s7_eq (fuel : Nat)  (n : Int) (s : Int) : (kont (fnX Try.prog mode1 T_law fuel 52 0) (bodyOf Try.prog 25) [1, 1, 1, 0, 1, 0] 112 (endK Try.prog 2 0 25)) (.exit 0) ⟨[(0, .s (.int .u64 s)), (1, .s (.int .i64 n)), (4, .s (.int .u64 0)), (5, .s (.slice none 0 0)), (6, .s (.int .i64 0)), (7, .s (.slice none 0 0))], [], 0, none⟩ = shufOwnF_s7 n s (fun (a73 : Int) => lpN (sub (bodyOf Try.prog 25) [1, 1, 1, 1, 0, 1, 0, 0]) (fnX Try.prog mode1 T_law fuel 52 0) 3377699720528113 [0, 4, 5, 6, 7, 9] fuel ⟨[(0, .s (.int .u64 s)), (4, .s (.int .u64 0)), (5, .s (.slice none 0 0)), (6, .s (.int .i64 0)), (7, .s (.slice none 0 0)), (9, .s (.int .i64 a73))], [], 0, none⟩ (kont (fnX Try.prog mode1 T_law fuel 52 0) (bodyOf Try.prog 25) [1, 1, 1, 1, 0, 1, 0] 112 (endK Try.prog 2 0 25))) := by kernel_rfl
noncomputable def shufOwnF_s1 {R : Type} (n : Int) (s : Int) (c0 : Int → Int → Option R) (c1 : Option R) : Option R :=
  br (!(sizedS n))
    (c0 0 2)
    (c1)
theorem shufOwnF_s1_eq (fuel : Nat)  (n : Int) (s : Int) : callN Try.prog mode1 T_law fuel 25 [.s (.int .u64 s), .s (.int .i64 n)] [] = shufOwnF_s1 n s (fun (a1 : Int) (a2 : Int) => some (.tup [.s (.int .u64 a1), .s (.slice none 0 0), .s (.int .i64 a2)], [])) (lpN (sub (bodyOf Try.prog 25) [1, 1, 1, 0, 1, 0, 0]) (fnX Try.prog mode1 T_law fuel 52 0) 4503599618983667 [0, 1, 4, 5, 6, 7, 14, 15] fuel ⟨[(0, .s (.int .u64 s)), (1, .s (.int .i64 n)), (4, .s (.int .u64 0)), (5, .s (.slice none 0 0)), (6, .s (.int .i64 0)), (7, .s (.slice none 0 0)), (14, .s (.int .i64 n)), (15, .s (.int .i64 0))], [], 0, none⟩ (kont (fnX Try.prog mode1 T_law fuel 52 0) (bodyOf Try.prog 25) [1, 1, 1, 0, 1, 0] 112 (endK Try.prog 2 0 25))) := by kernel_rfl
noncomputable def shufOwnF {R : Type} (fuel : Nat) (s : Int) (n : Int) (r0 : Int → Int → Option R) (r1 : Int → Nat → Nat → Int → List Int → Option R) : Option R :=
  (shufOwnF_s1 n s (fun (a1 : Int) (a2 : Int) => r0 a1 a2) ((shufOwnF_l1 fuel s n (fun (x25 : Nat) (x26 : List Int) => (shufOwnF_s4 s n x26 x25 (fun (a62 : Int) (a63 : Int) (a64 : List Int) => (shufOwnF_l3 fuel x25 (fun (x65 : Int) (x66 : List Int) => (shufOwnF_s6 x65 x25 x66 (fun (a67 : Int) (a68 : Nat) (a69 : Nat) (a70 : Int) (a71 : List Int) => r1 a67 a68 a69 a70 a71))) fuel a62 a63 a64)))) ((shufOwnF_s7 n s (fun (a73 : Int) => (shufOwnF_l4 fuel s ((shufOwnF_s9 s (fun (a74 : Int) (a75 : Int) => r0 a74 a75))) fuel a73)))) fuel)))
theorem shufOwnF_eq (fuel : Nat) (s : Int) (n : Int) : callN Try.prog mode1 T_law fuel 25 [.s (.int .u64 s), .s (.int .i64 n)] [] = shufOwnF fuel s n (fun (z0 : Int) (z1 : Int) => some (.tup [.s (.int .u64 z0), .s (.slice none 0 0), .s (.int .i64 z1)], [])) (fun (z0 : Int) (z1 : Nat) (z2 : Nat) (z3 : Int) (z4 : List Int) => some (.tup [.s (.int .u64 z0), .sl 0 1 z1 z2, .s (.int .i64 z3)], [some ⟨3, .li .i64 z4, true⟩])) := by
  unfold shufOwnF
  exact (shufOwnF_s1_eq fuel  n s).trans (congr (congr (Eq.refl (shufOwnF_s1 (R := Out) n s)) (rfl)) ((shufOwnF_l1_eq fuel s n (kont (fnX Try.prog mode1 T_law fuel 52 0) (bodyOf Try.prog 25) [1, 1, 1, 0, 1, 0] 112 (endK Try.prog 2 0 25)) fuel ).trans (congrFun (congr (congr (Eq.refl (shufOwnF_l1 (R := Out) fuel s n)) (funext fun x25 => funext fun x26 => (shufOwnF_s4_eq fuel  s n x26 x25).trans (congr (Eq.refl (shufOwnF_s4 (R := Out) s n x26 x25)) (funext fun a62 => funext fun a63 => funext fun a64 => (shufOwnF_l3_eq fuel x25 (kont (fnX Try.prog mode1 T_law fuel 52 0) (bodyOf Try.prog 25) [1, 1, 1, 1, 0, 1, 0] 112 (endK Try.prog 2 0 25)) fuel a62 a63 a64).trans (congrFun (congrFun (congrFun (congrFun (congr (Eq.refl (shufOwnF_l3 (R := Out) fuel x25)) (funext fun x65 => funext fun x66 => (shufOwnF_s6_eq fuel  x65 x25 x66))) fuel) a62) a63) a64))))) ((shufOwnF_s7_eq fuel  n s).trans (congr (Eq.refl (shufOwnF_s7 (R := Out) n s)) (funext fun a73 => (shufOwnF_l4_eq fuel s (kont (fnX Try.prog mode1 T_law fuel 52 0) (bodyOf Try.prog 25) [1, 1, 1, 1, 0, 1, 0] 112 (endK Try.prog 2 0 25)) fuel a73).trans (congrFun (congrFun (congr (Eq.refl (shufOwnF_l4 (R := Out) fuel s)) ((shufOwnF_s9_eq fuel  s))) fuel) a73))))) fuel)))
theorem shufOwn_app {R : Type} (fuel : Nat) (s n : Int) (k0 : Nat → List Int → Option R) (h1 : 1 ≤ n) (h2 : n ≤ 512) : ∀ (k j : Nat), (j : Int) ≤ n → n < (j : Int) + k → shufOwnF_l2 fuel s n k0 k j (j : Int) (iotaS j) = k0 n.toNat (iotaS n.toNat)
  | 0, j, hj, hk => by omega
  | k + 1, j, hj, hk => by
    unfold shufOwnF_l2 shufOwnF_s3
    rw [br_if]
    by_cases hc : (j : Int) < n
    · rw [if_pos (by simpa using hc), iota_len, grd_of (beq_self _), grd_of (okN_of (by omega) (by omega)), iota_succ, iota_len, wrap_i64 (by omega) (by omega), show (j : Int) + 1 = ((j + 1 : Nat) : Int) by omega]
      exact shufOwn_app fuel s n k0 h1 h2 k (j + 1) (by omega) (by omega)
    · rw [if_neg (by simpa using hc), show n.toNat = j by omega]
theorem shufOwn_swaps {R : Type} (fuel m : Nat) (hm : m ≤ 512) (k0 : Int → List Int → Option R) : ∀ (i k : Nat) (s : Int) (l : List Int), l.length = m → i < m → 0 ≤ s → s < 18446744073709551616 → i < k → shufOwnF_l3 fuel m k0 k s (i : Int) l = k0 (swapsS i s l).1 (swapsS i s l).2 ∧ (swapsS i s l).2.length = m
  | _, 0, s, l, hl, hi, h0, h1, hk => by omega
  | 0, k + 1, s, l, hl, hi, h0, h1, hk => by
    unfold shufOwnF_l3 shufOwnF_s5
    rw [br_if, if_neg (by decide)]
    exact ⟨rfl, hl⟩
  | i + 1, k + 1, s, l, hl, hi, h0, h1, hk => by
    unfold shufOwnF_l3 shufOwnF_s5
    have hw : IntKind.i64.wrap (((i + 1 : Nat) : Int) + 1) = (i : Int) + 2 := by rw [wrap_i64 (by omega) (by omega)]; omega
    have hb := below_range (n := (i : Int) + 2) h0 h1 (by omega) (by omega)
    obtain ⟨⟨b0, b1⟩, b2, b3⟩ := hb
    have e1 : below (belowS s ((i : Int) + 2)).2 m = some (belowS s ((i : Int) + 2)).2.toNat := below_of b2 (by omega)
    have e2 : below ((i + 1 : Nat) : Int) m = some (i + 1) := below_of (i := ((i + 1 : Nat) : Int)) (by omega) (by omega)
    have b4 : (belowS s ((i : Int) + 2)).2.toNat < m := by omega
    have hl1 : IntKind.i64.wrap (((i + 1 : Nat) : Int) - 1) = (i : Int) := by rw [wrap_i64 (by omega) (by omega)]; omega
    have ih := fun l' hl' => shufOwn_swaps fuel m hm k0 i k (belowS s ((i : Int) + 2)).1 l' hl' (by omega) b0 b1 (by omega)
    rw [hw, br_if, if_pos (by simp), grd_of (by simp; omega), hl1, swapsS]
    rw [e1]
    generalize belowS s ((i : Int) + 2) = b at *
    generalize b.2.toNat = j at *
    obtain ⟨x, hx⟩ : ∃ x, l[j]? = some x := ⟨_, List.getElem?_eq_getElem (by omega)⟩
    obtain ⟨y, hy⟩ : ∃ y, l[i + 1]? = some y := ⟨_, List.getElem?_eq_getElem (by omega)⟩
    obtain ⟨z, hz⟩ : ∃ z, (l.set (i + 1) x)[j]? = some z := ⟨_, List.getElem?_eq_getElem (by simp; omega)⟩
    have hsw : swpS l (i + 1) j = (l.set (i + 1) x).set j y := by unfold swpS; rw [hx, hy]; rfl
    rw [hsw]
    simp only [e2, bnd_some, Nat.zero_add, hx, hy, hz]
    exact ih _ (by simpa using hl)
theorem shufOwn_fact (s : Int) (n : Int) (hg : (decide (0 ≤ s) && decide (s < 18446744073709551616) && decide (1 ≤ n) && decide (n ≤ 512)) = true) : Fact Try.prog noG 25 [.s (.int .u64 s), .s (.int .i64 n)] [] (.tup [.s (.int .u64 ((shuffleS s n).1)), .sl 0 1 0 (Int.toNat n), .s (.int .i64 0)], [some ⟨3, .li .i64 ((shuffleS s n).2), true⟩]) := by
  simp only [Bool.and_eq_true, decide_eq_true_eq] at hg
  obtain ⟨⟨⟨h0, h1⟩, hn⟩, hn2⟩ := hg
  obtain ⟨F, hF⟩ : ∃ F : Nat, F = 599 := ⟨_, rfl⟩
  refine callN_fact hN hM T_law_ok (n := F + 1) (mode := mode1) ?_
  rw [shufOwnF_eq]
  obtain ⟨j, rfl⟩ : ∃ j : Nat, n = (j : Int) := ⟨n.toNat, by omega⟩
  have hs := fun (k0 : Int → List Int → Option Out) => shufOwn_swaps (R := Out) (F + 1) j (by omega) k0 (j - 1) (F + 1) s (iotaS j) (iota_len j) (by omega) h0 h1 (by omega)
  have hj1 : IntKind.i64.wrap ((j : Int) - 1) = ((j - 1 : Nat) : Int) := by rw [wrap_i64 (by omega) (by omega)]; omega
  have hsh : shuffleS s (j : Int) = swapsS (j - 1) s (iotaS j) := by rw [shuffleS_eq]; unfold shuffleI; simp
  have hz : sizedS (j : Int) = true := by unfold sizedS; simp; omega
  have ha := fun k0 => shufOwn_app (R := Out) (F + 1) s (j : Int) k0 hn hn2 F 1 (by omega) (by omega)
  unfold shufOwnF shufOwnF_s1
  rw [hz, br_if, if_neg (by decide)]
  unfold shufOwnF_l1 shufOwnF_s2
  dsimp only
  rw [br_if, if_pos (by simp; omega)]
  simp only [show [(0 : Int)] = iotaS 1 from rfl, show (1 : Int) = ((1 : Nat) : Int) from rfl, ha]
  unfold shufOwnF_s4
  simp only [hj1, Int.toNat_natCast, (hs _).1, hsh]
  rfl
noncomputable def shufOwn_ent : List V → List Blk → Option (Bool × Out)
  | [.s (.int .u64 s), .s (.int .i64 n)], [] => some ((decide (0 ≤ s) && decide (s < 18446744073709551616) && decide (1 ≤ n) && decide (n ≤ 512)), (.tup [.s (.int .u64 ((shuffleS s n).1)), .sl 0 1 0 (Int.toNat n), .s (.int .i64 0)], [some ⟨3, .li .i64 ((shuffleS s n).2), true⟩]))
  | _, _ => none
theorem shufOwn_ok : ∀ args bs out, shufOwn_ent args bs = some (true, out) → Fact Try.prog noG 25 args bs out := by
  intro args bs out h
  unfold shufOwn_ent at h
  split at h
  · rename_i s n
    simp only [Option.some.injEq, Prod.mk.injEq] at h
    obtain ⟨hg, rfl⟩ := h
    exact shufOwn_fact s n hg
  · cases h
noncomputable def T_shufOwn : Tbl := Tbl.cons 25 shufOwn_ent T_law
theorem T_shufOwn_ok : CallOk Try.prog noG T_shufOwn := cons_ok T_law_ok shufOwn_ok
/-! slices.Sort[[]int,int] -/
def laysSort_ren : Go.Shelf.Ren := ⟨fun | 189 => 53 | 125 => 66 | 257 => 65 | 128 => 81 | 129 => 82 | 294 => 72 | 295 => 73 | 296 => 74 | 297 => 75 | 298 => 76 | 299 => 77 | 216 => 78 | 300 => 79 | 301 => 80 | 328 => 85 | 329 => 86 | 330 => 87 | 331 => 88 | 332 => 89 | 215 => 90 | 343 => 91 | n => n, fun | 28 => 49 | 3 => 3 | 46 => 83 | 0 => 0 | 51 => 109 | 53 => 22 | 4 => 4 | 183 => 103 | 182 => 102 | 131 => 69 | 5 => 5 | 9 => 9 | 218 => 112 | 222 => 116 | 228 => 118 | 229 => 119 | n => n, fun | n => n⟩
theorem laysSort : Go.Proofs.Lays.n189 Try.prog laysSort_ren where
  mixed := by kernel_rfl
  f125 := Try.func66.trans (congrArg some (by kernel_rfl))
  f128 := Try.func81.trans (congrArg some (by kernel_rfl))
  f129 := Try.func82.trans (congrArg some (by kernel_rfl))
  f189 := Try.func53.trans (congrArg some (by kernel_rfl))
  f215 := Try.func90.trans (congrArg some (by kernel_rfl))
  f216 := Try.func78.trans (congrArg some (by kernel_rfl))
  f257 := Try.func65.trans (congrArg some (by kernel_rfl))
  f294 := Try.func72.trans (congrArg some (by kernel_rfl))
  f295 := Try.func73.trans (congrArg some (by kernel_rfl))
  f296 := Try.func74.trans (congrArg some (by kernel_rfl))
  f297 := Try.func75.trans (congrArg some (by kernel_rfl))
  f298 := Try.func76.trans (congrArg some (by kernel_rfl))
  f299 := Try.func77.trans (congrArg some (by kernel_rfl))
  f300 := Try.func79.trans (congrArg some (by kernel_rfl))
  f301 := Try.func80.trans (congrArg some (by kernel_rfl))
  f328 := Try.func85.trans (congrArg some (by kernel_rfl))
  f329 := Try.func86.trans (congrArg some (by kernel_rfl))
  f330 := Try.func87.trans (congrArg some (by kernel_rfl))
  f331 := Try.func88.trans (congrArg some (by kernel_rfl))
  f332 := Try.func89.trans (congrArg some (by kernel_rfl))
  f343 := Try.func91.trans (congrArg some (by kernel_rfl))
  t0 := Try.underlying0
  a0 := Try.isAgg0
  z0 := Try.sizeOf0
  v0 := Try.zeroValue0
  t3 := Try.underlying3
  a3 := Try.isAgg3
  z3 := Try.sizeOf3
  v3 := Try.zeroValue3
  t4 := Try.underlying4
  a4 := Try.isAgg4
  z4 := Try.sizeOf4
  v4 := Try.zeroValue4
  t5 := Try.underlying5
  a5 := Try.isAgg5
  z5 := Try.sizeOf5
  v5 := Try.zeroValue5
  t9 := Try.underlying9
  a9 := Try.isAgg9
  z9 := Try.sizeOf9
  v9 := Try.zeroValue9
  t28 := Try.underlying49
  a28 := Try.isAgg49
  z28 := Try.sizeOf49
  v28 := Try.zeroValue49
  t46 := Try.underlying83
  a46 := Try.isAgg83
  z46 := Try.sizeOf83
  v46 := Try.zeroValue83
  t51 := Try.underlying109
  a51 := Try.isAgg109
  z51 := Try.sizeOf109
  v51 := Try.zeroValue109
  t53 := Try.underlying22
  a53 := Try.isAgg22
  z53 := Try.sizeOf22
  v53 := Try.zeroValue22
  t131 := Try.underlying69
  a131 := Try.isAgg69
  z131 := Try.sizeOf69
  v131 := Try.zeroValue69
  t182 := Try.underlying102
  a182 := Try.isAgg102
  z182 := Try.sizeOf102
  v182 := Try.zeroValue102
  t183 := Try.underlying103
  a183 := Try.isAgg103
  z183 := Try.sizeOf103
  v183 := Try.zeroValue103
  t218 := Try.underlying112
  a218 := Try.isAgg112
  z218 := Try.sizeOf112
  v218 := Try.zeroValue112
  t222 := Try.underlying116
  a222 := Try.isAgg116
  z222 := Try.sizeOf116
  v222 := Try.zeroValue116
  t228 := Try.underlying118
  a228 := Try.isAgg118
  z228 := Try.sizeOf118
  v228 := Try.zeroValue118
  t229 := Try.underlying119
  a229 := Try.isAgg119
  z229 := Try.sizeOf119
  v229 := Try.zeroValue119
theorem sort_fact (m : Nat) (xs : List Int) (hg : (Nat.ble m xs.length && Nat.ble xs.length 1000000) = true) : Fact Try.prog noG 53 [.sl 0 1 0 m] [⟨3, .li .i64 xs, true⟩] (.tup [], [some ⟨3, .li .i64 (sortPre m xs), true⟩]) := by
  rw [Bool.and_eq_true] at hg
  have hm := Nat.le_of_ble_eq_true hg.1
  have hx := Nat.le_of_ble_eq_true hg.2
  refine fact_put (Go.PM.enters_of (by kernel_rfl)) rfl rfl fun w ρ I ys k hb hk hsz hr => ?_
  simp only [RVs, RV] at hr
  obtain ⟨y, r, rfl, ⟨k', cap, ty, n, p, rfl, hp, hk', hz, hlen, hL, hsh, hn⟩, rfl⟩ := hr
  rw [hk] at hk'
  cases hk'
  have hp0 : p = 0 ∨ m = 0 := by rcases hp with h | h <;> omega
  obtain ⟨cs, fz, zs, h1, h2, h3, h4, h5, h6⟩ := id hb
  have hF : zs = xs.map (.int .i64) := h2
  subst hF
  have hl : (xs.take m).length = m := by simp; omega
  have hH : Go.Sort.Holds (Value.int .i64) w k.r p (xs.take m).toArray := by
    intro j hj
    have hj' : j < m := by simpa [hl] using hj
    have hp' : p = 0 := by rcases hp0 with h | h <;> omega
    subst hp'
    have hc := h3 j (.int .i64 (xs[j]'(by omega))) (by simp)
    have hcs : j < cs.size := by
      rw [Nat.zero_add] at hc
      have e : w.cell? ⟨k.r, j, none⟩ = cs[j]? := by simp [World.cell?, h1]
      rw [e] at hc
      exact (Array.getElem?_eq_some_iff.1 hc).1
    refine ⟨?_, (h4 j hcs).2⟩
    rw [hc, getElem!_pos _ j hj]
    simp
  have hs := Any.slices_Sort_int laysSort k.r p cap (xs.take m) w hH hsz (by omega)
  have hlen2 : ((xs.take m).mergeSort fun x y => decide (x ≤ y)).length = m := by rw [List.length_mergeSort, hl]
  rw [hl] at hs
  refine hs.mono fun e w' ⟨he, q, os, hw'⟩ => ⟨he, ?_⟩
  rw [Go.Lib.sorted_world _ _ _ _ _ _ _ _ hH (by simp [hlen2, hl])] at hw'
  have hw2 : w' = Go.Sort.grow ((w.drewN q).setCells k.r 0 (((xs.take m).mergeSort fun x y => decide (x ≤ y)).map (.int .i64))) os := by
    rw [hw']
    rcases hp0 with h | h
    · rw [h]
    · have : ((xs.take m).mergeSort fun x y => decide (x ≤ y)) = [] := List.eq_nil_of_length_eq_zero (by rw [hlen2, h])
      rw [this]; rfl
  have := put_ints (q := q) (os := os) hb (ys := (xs.take m).mergeSort fun x y => decide (x ≤ y)) (by rw [hlen2]; exact hm)
  rw [hw2, sortPre_eq]
  unfold riseI
  rw [hlen2] at this
  exact this
noncomputable def sort_ent : List V → List Blk → Option (Bool × Out)
  | [.sl 0 1 0 m], [⟨3, .li .i64 xs, true⟩] => some ((Nat.ble m xs.length && Nat.ble xs.length 1000000), (.tup [], [some ⟨3, .li .i64 (sortPre m xs), true⟩]))
  | _, _ => none
theorem sort_ok : ∀ args bs out, sort_ent args bs = some (true, out) → Fact Try.prog noG 53 args bs out := by
  intro args bs out h
  unfold sort_ent at h
  split at h
  · rename_i m xs
    simp only [Option.some.injEq, Prod.mk.injEq] at h
    obtain ⟨hg, rfl⟩ := h
    exact sort_fact m xs hg
  · cases h
noncomputable def T_sort : Tbl := Tbl.cons 53 sort_ent T_shufOwn
theorem T_sort_ok : CallOk Try.prog noG T_sort := cons_ok T_shufOwn_ok sort_ok
/-! downpour/random.Some -/
noncomputable def someF_s1 {R : Type} (n : Int) (many : Int) (s : Int) (c0 : Int → Int → Option R) (c1 : Int → List Int → Int → Option R) : Option R :=
  br (!(sizedS n))
    (c0 0 2)
    (br (decide (many < 0))
      (c0 0 2)
      (br (decide (many > n))
        (c0 0 2)
        (grd (decide (0 ≤ s) && decide (s < 18446744073709551616) && decide (1 ≤ n) && decide (n ≤ 512)) <|
        bnd (upTo many (Int.toNat n)) fun j7 =>
        grd (Nat.ble (j7 - 0) ((shuffleS s n).2).length && Nat.ble ((shuffleS s n).2).length 1000000) <|
        bnd (upTo many (Int.toNat n)) fun j8 =>
        c1 ((shuffleS s n).1) (((sortPre (j7 - 0) ((shuffleS s n).2)).drop 0).take (j8 - 0)) 0)))
theorem someF_s1_eq (fuel : Nat)  (n : Int) (many : Int) (s : Int) : callN Try.prog mode1 T_sort fuel 26 [.s (.int .u64 s), .s (.int .i64 n), .s (.int .i64 many)] [] = someF_s1 n many s (fun (a1 : Int) (a2 : Int) => some (.tup [.s (.int .u64 a1), .s (.slice none 0 0), .s (.int .i64 a2)], [])) (fun (a9 : Int) (a10 : List Int) (a11 : Int) => some (.tup [.s (.int .u64 a9), .li .i64 a10, .s (.int .i64 a11)], [])) := by kernel_rfl
noncomputable def someF {R : Type} (fuel : Nat) (s : Int) (n : Int) (many : Int) (r0 : Int → Int → Option R) (r1 : Int → List Int → Int → Option R) : Option R :=
  (someF_s1 n many s (fun (a1 : Int) (a2 : Int) => r0 a1 a2) (fun (a9 : Int) (a10 : List Int) (a11 : Int) => r1 a9 a10 a11))
theorem someF_eq (fuel : Nat) (s : Int) (n : Int) (many : Int) : callN Try.prog mode1 T_sort fuel 26 [.s (.int .u64 s), .s (.int .i64 n), .s (.int .i64 many)] [] = someF fuel s n many (fun (z0 : Int) (z1 : Int) => some (.tup [.s (.int .u64 z0), .s (.slice none 0 0), .s (.int .i64 z1)], [])) (fun (z0 : Int) (z1 : List Int) (z2 : Int) => some (.tup [.s (.int .u64 z0), .li .i64 z1, .s (.int .i64 z2)], [])) := by
  unfold someF
  exact (someF_s1_eq fuel  n many s)
theorem some_fact (s : Int) (n : Int) (many : Int) (hg : (decide (0 ≤ s) && decide (s < 18446744073709551616)) = true) : Fact Try.prog noG 26 [.s (.int .u64 s), .s (.int .i64 n), .s (.int .i64 many)] [] (.tup [.s (.int .u64 (if someOk n many = true then (shuffleS s n).1 else 0)), .li .i64 (if someOk n many = true then someS s n many else []), .s (.int .i64 (if someOk n many = true then 0 else 2))], []) := by
  cases hz : someOk n many with
  | false =>
    refine Fact.out (v := .tup [.s (.int .u64 0), .s (.slice none 0 0), .s (.int .i64 2)]) (bs' := []) ?_ (fun _ _ _ x h => RV_tup_two (fun _ h => RVs_two (fun _ h => h) (fun _ h => RVs_two (fun _ h => RV_nil_li h) (fun _ h => h) h) h) h)
    refine callN_fact hN hM T_sort_ok (n := 0) (mode := mode1) ?_
    rw [someF_eq]
    unfold someF someF_s1
    unfold someOk at hz
    simp only [br_if]
    cases h : sizedS n with
    | false => rfl
    | true =>
      rw [h] at hz
      simp only [Bool.true_and, Bool.and_eq_false_iff, decide_eq_false_iff_not] at hz
      by_cases h1 : many < 0
      · simp [h1]
      · have h2 : many > n := by omega
        simp [h1, h2]
  | true =>
    refine callN_fact hN hM T_sort_ok (n := 0) (mode := mode1) ?_
    rw [someF_eq]
    unfold someF someF_s1
    have hz' := hz
    unfold someOk at hz'
    simp only [Bool.and_eq_true, decide_eq_true_eq] at hz'
    obtain ⟨⟨h1, h2⟩, h3⟩ := hz'
    have h1' := h1
    unfold sizedS at h1'
    simp only [Bool.and_eq_true, decide_eq_true_eq] at h1' hg
    have hl := shuffle_len s n
    rw [h1, br_if, br_if, br_if, if_neg (by decide), if_neg (by simpa using h2), if_neg (by simpa using h3), grd_of (by simp; omega), bnd_of (upTo_of h2 (by omega))]
    rw [grd_of (by rw [Bool.and_eq_true]; exact ⟨Nat.ble_eq_true_of_le (by omega), Nat.ble_eq_true_of_le (by omega)⟩)]
    dsimp only
    have e : ((sortPre (many.toNat - 0) (shuffleS s n).2).drop 0).take (many.toNat - 0) = someS s n many := by
      rw [List.drop_zero, Nat.sub_zero, sortPre_eq, someS_eq]
      unfold riseI someI
      rw [List.take_append_of_le_length (by rw [List.length_mergeSort, List.length_take]; omega), List.take_of_length_le (by rw [List.length_mergeSort, List.length_take]; omega)]
    rw [bnd_of (upTo_of h2 (by omega)), e]
    simp
noncomputable def some_ent : List V → List Blk → Option (Bool × Out)
  | [.s (.int .u64 s), .s (.int .i64 n), .s (.int .i64 many)], [] => some ((decide (0 ≤ s) && decide (s < 18446744073709551616)), (.tup [.s (.int .u64 (if someOk n many = true then (shuffleS s n).1 else 0)), .li .i64 (if someOk n many = true then someS s n many else []), .s (.int .i64 (if someOk n many = true then 0 else 2))], []))
  | _, _ => none
theorem some_ok : ∀ args bs out, some_ent args bs = some (true, out) → Fact Try.prog noG 26 args bs out := by
  intro args bs out h
  unfold some_ent at h
  split at h
  · rename_i s n many
    simp only [Option.some.injEq, Prod.mk.injEq] at h
    obtain ⟨hg, rfl⟩ := h
    exact some_fact s n many hg
  · cases h
noncomputable def T_some : Tbl := Tbl.cons 26 some_ent T_sort
theorem T_some_ok : CallOk Try.prog noG T_some := cons_ok T_sort_ok some_ok
def mode2 : FuncId → Nat := fun f => 0
/-! downpour/random.Shuffle -/
noncomputable def shufF_s3 {R : Type} (w11 : Int) (n : Int) (w12 : List Int) (w10 : Nat) (s : Int) (c0 : Nat → Int → List Int → Option R) (c1 : Nat → List Int → Option R) : Option R :=
  br (decide (w11 < n))
    (grd (Nat.beq w12.length w10) <|
    grd (okN (w10 + 1) 8) <|
    c0 ((w12 ++ [w11]).length) (IntKind.i64.wrap (w11 + 1)) (w12 ++ [w11]))
    (c1 w10 w12)
theorem shufF_s3_eq (fuel : Nat) (k : Nat) (K : Ex → St → Option Out) (w11 : Int) (n : Int) (w12 : List Int) (w10 : Nat) (s : Int) : lpN (sub (bodyOf Try.prog 25) [1, 1, 1, 0, 1, 0, 0]) (fnX Try.prog mode2 T_some fuel 52 0) 4503599618983667 [0, 1, 4, 5, 6, 7, 14, 15] (k + 1) ⟨[(0, .s (.int .u64 s)), (1, .s (.int .i64 n)), (4, .s (.int .u64 0)), (5, .s (.slice none 0 0)), (6, .s (.int .i64 0)), (7, .sl 0 1 0 w10), (14, .s (.int .i64 n)), (15, .s (.int .i64 w11))], [(0, some ⟨3, .li .i64 w12, true⟩)], 1, none⟩ K = shufF_s3 w11 n w12 w10 s (fun (a15 : Nat) (a16 : Int) (a17 : List Int) => lpN (sub (bodyOf Try.prog 25) [1, 1, 1, 0, 1, 0, 0]) (fnX Try.prog mode2 T_some fuel 52 0) 4503599618983667 [0, 1, 4, 5, 6, 7, 14, 15] k ⟨[(0, .s (.int .u64 s)), (1, .s (.int .i64 n)), (4, .s (.int .u64 0)), (5, .s (.slice none 0 0)), (6, .s (.int .i64 0)), (7, .sl 0 1 0 a15), (14, .s (.int .i64 n)), (15, .s (.int .i64 a16))], [(0, some ⟨3, .li .i64 a17, true⟩)], 1, none⟩ K) (fun (a18 : Nat) (a19 : List Int) => K (.exit 0) ⟨[(0, .s (.int .u64 s)), (1, .s (.int .i64 n)), (4, .s (.int .u64 0)), (5, .s (.slice none 0 0)), (6, .s (.int .i64 0)), (7, .sl 0 1 0 a18)], [(0, some ⟨3, .li .i64 a19, true⟩)], 1, none⟩) := by kernel_rfl
noncomputable def shufF_l2 {R : Type} (fuel : Nat) (s : Int) (n : Int) (k0 : Nat → List Int → Option R) : Nat → Nat → Int → List Int → Option R
  | 0, _, _, _ => none
  | k + 1, w10, w11, w12 =>
    (shufF_s3 w11 n w12 w10 s (fun (a15 : Nat) (a16 : Int) (a17 : List Int) => ( shufF_l2 fuel s n k0 k a15 a16 a17 )) (fun (a18 : Nat) (a19 : List Int) => k0 a18 a19))
theorem shufF_l2_eq (fuel : Nat) (s : Int) (n : Int) (K : Ex → St → Option Out) : ∀ (k : Nat) (w10 : Nat) (w11 : Int) (w12 : List Int), lpN (sub (bodyOf Try.prog 25) [1, 1, 1, 0, 1, 0, 0]) (fnX Try.prog mode2 T_some fuel 52 0) 4503599618983667 [0, 1, 4, 5, 6, 7, 14, 15] k ⟨[(0, .s (.int .u64 s)), (1, .s (.int .i64 n)), (4, .s (.int .u64 0)), (5, .s (.slice none 0 0)), (6, .s (.int .i64 0)), (7, .sl 0 1 0 w10), (14, .s (.int .i64 n)), (15, .s (.int .i64 w11))], [(0, some ⟨3, .li .i64 w12, true⟩)], 1, none⟩ K = shufF_l2 fuel s n (fun (y13 : Nat) (y14 : List Int) => K (.exit 0) ⟨[(0, .s (.int .u64 s)), (1, .s (.int .i64 n)), (4, .s (.int .u64 0)), (5, .s (.slice none 0 0)), (6, .s (.int .i64 0)), (7, .sl 0 1 0 y13)], [(0, some ⟨3, .li .i64 y14, true⟩)], 1, none⟩) k w10 w11 w12
  | 0, _, _, _ => rfl
  | k + 1, w10, w11, w12 => by
    unfold shufF_l2
    exact (shufF_s3_eq fuel k K w11 n w12 w10 s).trans (congr (congr (Eq.refl (shufF_s3 (R := Out) w11 n w12 w10 s)) (funext fun a15 => funext fun a16 => funext fun a17 => shufF_l2_eq fuel s n K k a15 a16 a17)) (rfl))
noncomputable def shufF_s2 {R : Type} (n : Int) (s : Int) (c0 : Nat → Int → List Int → Option R) (c1 : Option R) : Option R :=
  br (decide (0 < n))
    (c0 1 1 ([0]))
    (c1)
theorem shufF_s2_eq (fuel : Nat) (k : Nat) (K : Ex → St → Option Out) (n : Int) (s : Int) : lpN (sub (bodyOf Try.prog 25) [1, 1, 1, 0, 1, 0, 0]) (fnX Try.prog mode2 T_some fuel 52 0) 4503599618983667 [0, 1, 4, 5, 6, 7, 14, 15] (k + 1) ⟨[(0, .s (.int .u64 s)), (1, .s (.int .i64 n)), (4, .s (.int .u64 0)), (5, .s (.slice none 0 0)), (6, .s (.int .i64 0)), (7, .s (.slice none 0 0)), (14, .s (.int .i64 n)), (15, .s (.int .i64 0))], [], 0, none⟩ K = shufF_s2 n s (fun (a20 : Nat) (a21 : Int) (a22 : List Int) => lpN (sub (bodyOf Try.prog 25) [1, 1, 1, 0, 1, 0, 0]) (fnX Try.prog mode2 T_some fuel 52 0) 4503599618983667 [0, 1, 4, 5, 6, 7, 14, 15] k ⟨[(0, .s (.int .u64 s)), (1, .s (.int .i64 n)), (4, .s (.int .u64 0)), (5, .s (.slice none 0 0)), (6, .s (.int .i64 0)), (7, .sl 0 1 0 a20), (14, .s (.int .i64 n)), (15, .s (.int .i64 a21))], [(0, some ⟨3, .li .i64 a22, true⟩)], 1, none⟩ K) (K (.exit 0) ⟨[(0, .s (.int .u64 s)), (1, .s (.int .i64 n)), (4, .s (.int .u64 0)), (5, .s (.slice none 0 0)), (6, .s (.int .i64 0)), (7, .s (.slice none 0 0))], [], 0, none⟩) := by kernel_rfl
noncomputable def shufF_l1 {R : Type} (fuel : Nat) (s : Int) (n : Int) (k0 : Nat → List Int → Option R) (k1 : Option R) : Nat → Option R
  | 0 => none
  | k + 1 =>
    (shufF_s2 n s (fun (a20 : Nat) (a21 : Int) (a22 : List Int) => (shufF_l2 fuel s n (fun (x23 : Nat) (x24 : List Int) => k0 x23 x24) k a20 a21 a22)) (k1))
theorem shufF_l1_eq (fuel : Nat) (s : Int) (n : Int) (K : Ex → St → Option Out) : ∀ (k : Nat) , lpN (sub (bodyOf Try.prog 25) [1, 1, 1, 0, 1, 0, 0]) (fnX Try.prog mode2 T_some fuel 52 0) 4503599618983667 [0, 1, 4, 5, 6, 7, 14, 15] k ⟨[(0, .s (.int .u64 s)), (1, .s (.int .i64 n)), (4, .s (.int .u64 0)), (5, .s (.slice none 0 0)), (6, .s (.int .i64 0)), (7, .s (.slice none 0 0)), (14, .s (.int .i64 n)), (15, .s (.int .i64 0))], [], 0, none⟩ K = shufF_l1 fuel s n (fun (y8 : Nat) (y9 : List Int) => K (.exit 0) ⟨[(0, .s (.int .u64 s)), (1, .s (.int .i64 n)), (4, .s (.int .u64 0)), (5, .s (.slice none 0 0)), (6, .s (.int .i64 0)), (7, .sl 0 1 0 y8)], [(0, some ⟨3, .li .i64 y9, true⟩)], 1, none⟩) (K (.exit 0) ⟨[(0, .s (.int .u64 s)), (1, .s (.int .i64 n)), (4, .s (.int .u64 0)), (5, .s (.slice none 0 0)), (6, .s (.int .i64 0)), (7, .s (.slice none 0 0))], [], 0, none⟩) k 
  | 0 => rfl
  | k + 1 => by
    unfold shufF_l1
    exact (shufF_s2_eq fuel k K n s).trans (congr (congr (Eq.refl (shufF_s2 (R := Out) n s)) (funext fun a20 => funext fun a21 => funext fun a22 => shufF_l2_eq fuel s n K k a20 a21 a22)) (rfl))
noncomputable def shufF_s5 {R : Type} (w37 : Int) (w36 : Int) (x25 : Nat) (w38 : List Int) (c0 : Int → Int → List Int → Option R) (c1 : Int → List Int → Option R) : Option R :=
  br (decide (w37 > 0))
    (grd (decide (0 ≤ w36) && decide (w36 < 18446744073709551616) && decide (1 ≤ (IntKind.i64.wrap (w37 + 1))) && decide ((IntKind.i64.wrap (w37 + 1)) ≤ 512)) <|
    bnd (below ((belowS w36 (IntKind.i64.wrap (w37 + 1))).2) x25) fun j49 =>
    bnd (w38[(0 + j49)]?) fun e50 =>
    bnd (below w37 x25) fun j51 =>
    bnd (w38[(0 + j51)]?) fun e52 =>
    bnd (below w37 x25) fun j53 =>
    bnd (w38[(0 + j53)]?) fun e54 =>
    bnd (below ((belowS w36 (IntKind.i64.wrap (w37 + 1))).2) x25) fun j55 =>
    bnd ((w38.set (0 + j53) e50)[(0 + j55)]?) fun e56 =>
    c0 ((belowS w36 (IntKind.i64.wrap (w37 + 1))).1) (IntKind.i64.wrap (w37 - 1)) ((w38.set (0 + j53) e50).set (0 + j55) e52))
    (c1 w36 w38)
theorem shufF_s5_eq (fuel : Nat) (k : Nat) (K : Ex → St → Option Out) (w37 : Int) (w36 : Int) (x25 : Nat) (w38 : List Int) : lpN (sub (bodyOf Try.prog 25) [1, 1, 1, 1, 0, 1, 0, 0]) (fnX Try.prog mode2 T_some fuel 52 0) 3377699720528113 [0, 4, 5, 6, 7, 9] (k + 1) ⟨[(0, .s (.int .u64 w36)), (4, .s (.int .u64 0)), (5, .s (.slice none 0 0)), (6, .s (.int .i64 0)), (7, .sl 0 1 0 x25), (9, .s (.int .i64 w37))], [(0, some ⟨3, .li .i64 w38, true⟩)], 1, none⟩ K = shufF_s5 w37 w36 x25 w38 (fun (a57 : Int) (a58 : Int) (a59 : List Int) => lpN (sub (bodyOf Try.prog 25) [1, 1, 1, 1, 0, 1, 0, 0]) (fnX Try.prog mode2 T_some fuel 52 0) 3377699720528113 [0, 4, 5, 6, 7, 9] k ⟨[(0, .s (.int .u64 a57)), (4, .s (.int .u64 0)), (5, .s (.slice none 0 0)), (6, .s (.int .i64 0)), (7, .sl 0 1 0 x25), (9, .s (.int .i64 a58))], [(0, some ⟨3, .li .i64 a59, true⟩)], 1, none⟩ K) (fun (a60 : Int) (a61 : List Int) => K (.exit 2) ⟨[(0, .s (.int .u64 a60)), (4, .s (.int .u64 0)), (5, .s (.slice none 0 0)), (6, .s (.int .i64 0)), (7, .sl 0 1 0 x25)], [(0, some ⟨3, .li .i64 a61, true⟩)], 1, none⟩) := by kernel_rfl
noncomputable def shufF_l3 {R : Type} (fuel : Nat) (x25 : Nat) (k0 : Int → List Int → Option R) : Nat → Int → Int → List Int → Option R
  | 0, _, _, _ => none
  | k + 1, w36, w37, w38 =>
    (shufF_s5 w37 w36 x25 w38 (fun (a57 : Int) (a58 : Int) (a59 : List Int) => ( shufF_l3 fuel x25 k0 k a57 a58 a59 )) (fun (a60 : Int) (a61 : List Int) => k0 a60 a61))
theorem shufF_l3_eq (fuel : Nat) (x25 : Nat) (K : Ex → St → Option Out) : ∀ (k : Nat) (w36 : Int) (w37 : Int) (w38 : List Int), lpN (sub (bodyOf Try.prog 25) [1, 1, 1, 1, 0, 1, 0, 0]) (fnX Try.prog mode2 T_some fuel 52 0) 3377699720528113 [0, 4, 5, 6, 7, 9] k ⟨[(0, .s (.int .u64 w36)), (4, .s (.int .u64 0)), (5, .s (.slice none 0 0)), (6, .s (.int .i64 0)), (7, .sl 0 1 0 x25), (9, .s (.int .i64 w37))], [(0, some ⟨3, .li .i64 w38, true⟩)], 1, none⟩ K = shufF_l3 fuel x25 (fun (y47 : Int) (y48 : List Int) => K (.exit 2) ⟨[(0, .s (.int .u64 y47)), (4, .s (.int .u64 0)), (5, .s (.slice none 0 0)), (6, .s (.int .i64 0)), (7, .sl 0 1 0 x25)], [(0, some ⟨3, .li .i64 y48, true⟩)], 1, none⟩) k w36 w37 w38
  | 0, _, _, _ => rfl
  | k + 1, w36, w37, w38 => by
    unfold shufF_l3
    exact (shufF_s5_eq fuel k K w37 w36 x25 w38).trans (congr (congr (Eq.refl (shufF_s5 (R := Out) w37 w36 x25 w38)) (funext fun a57 => funext fun a58 => funext fun a59 => shufF_l3_eq fuel x25 K k a57 a58 a59)) (rfl))
noncomputable def shufF_s6 {R : Type} (x65 : Int) (x66 : List Int) (x25 : Nat) (c0 : Int → List Int → Int → Option R) : Option R :=
  c0 x65 ((x66.drop 0).take x25) 0
theorem shufF_s6_eq (fuel : Nat)  (x65 : Int) (x66 : List Int) (x25 : Nat) : (kont (fnX Try.prog mode2 T_some fuel 52 0) (bodyOf Try.prog 25) [1, 1, 1, 1, 0, 1, 0] 112 (endK Try.prog 0 0 25)) (.exit 2) ⟨[(0, .s (.int .u64 x65)), (4, .s (.int .u64 0)), (5, .s (.slice none 0 0)), (6, .s (.int .i64 0)), (7, .sl 0 1 0 x25)], [(0, some ⟨3, .li .i64 x66, true⟩)], 1, none⟩ = shufF_s6 x65 x66 x25 (fun (a67 : Int) (a68 : List Int) (a69 : Int) => some (.tup [.s (.int .u64 a67), .li .i64 a68, .s (.int .i64 a69)], [])) := by kernel_rfl
noncomputable def shufF_s4 {R : Type} (s : Int) (n : Int) (x26 : List Int) (x25 : Nat) (c0 : Int → Int → List Int → Option R) : Option R :=
  c0 s (IntKind.i64.wrap (n - 1)) x26
theorem shufF_s4_eq (fuel : Nat)  (s : Int) (n : Int) (x26 : List Int) (x25 : Nat) : (kont (fnX Try.prog mode2 T_some fuel 52 0) (bodyOf Try.prog 25) [1, 1, 1, 0, 1, 0] 112 (endK Try.prog 0 0 25)) (.exit 0) ⟨[(0, .s (.int .u64 s)), (1, .s (.int .i64 n)), (4, .s (.int .u64 0)), (5, .s (.slice none 0 0)), (6, .s (.int .i64 0)), (7, .sl 0 1 0 x25)], [(0, some ⟨3, .li .i64 x26, true⟩)], 1, none⟩ = shufF_s4 s n x26 x25 (fun (a62 : Int) (a63 : Int) (a64 : List Int) => lpN (sub (bodyOf Try.prog 25) [1, 1, 1, 1, 0, 1, 0, 0]) (fnX Try.prog mode2 T_some fuel 52 0) 3377699720528113 [0, 4, 5, 6, 7, 9] fuel ⟨[(0, .s (.int .u64 a62)), (4, .s (.int .u64 0)), (5, .s (.slice none 0 0)), (6, .s (.int .i64 0)), (7, .sl 0 1 0 x25), (9, .s (.int .i64 a63))], [(0, some ⟨3, .li .i64 a64, true⟩)], 1, none⟩ (kont (fnX Try.prog mode2 T_some fuel 52 0) (bodyOf Try.prog 25) [1, 1, 1, 1, 0, 1, 0] 112 (endK Try.prog 0 0 25))) := by kernel_rfl
noncomputable def shufF_s8 {R : Type} (w70 : Int) (s : Int) (c0 : Option R) : Option R :=
  br (decide (w70 > 0))
    (grd (decide (0 ≤ s) && decide (s < 18446744073709551616) && decide (1 ≤ (IntKind.i64.wrap (w70 + 1))) && decide ((IntKind.i64.wrap (w70 + 1)) ≤ 512)) <|
    none)
    (c0)
theorem shufF_s8_eq (fuel : Nat) (k : Nat) (K : Ex → St → Option Out) (w70 : Int) (s : Int) : lpN (sub (bodyOf Try.prog 25) [1, 1, 1, 1, 0, 1, 0, 0]) (fnX Try.prog mode2 T_some fuel 52 0) 3377699720528113 [0, 4, 5, 6, 7, 9] (k + 1) ⟨[(0, .s (.int .u64 s)), (4, .s (.int .u64 0)), (5, .s (.slice none 0 0)), (6, .s (.int .i64 0)), (7, .s (.slice none 0 0)), (9, .s (.int .i64 w70))], [], 0, none⟩ K = shufF_s8 w70 s (K (.exit 2) ⟨[(0, .s (.int .u64 s)), (4, .s (.int .u64 0)), (5, .s (.slice none 0 0)), (6, .s (.int .i64 0)), (7, .s (.slice none 0 0))], [], 0, none⟩) := by kernel_rfl
noncomputable def shufF_l4 {R : Type} (fuel : Nat) (s : Int) (k0 : Option R) : Nat → Int → Option R
  | 0, _ => none
  | k + 1, w70 =>
    (shufF_s8 w70 s (k0))
theorem shufF_l4_eq (fuel : Nat) (s : Int) (K : Ex → St → Option Out) : ∀ (k : Nat) (w70 : Int), lpN (sub (bodyOf Try.prog 25) [1, 1, 1, 1, 0, 1, 0, 0]) (fnX Try.prog mode2 T_some fuel 52 0) 3377699720528113 [0, 4, 5, 6, 7, 9] k ⟨[(0, .s (.int .u64 s)), (4, .s (.int .u64 0)), (5, .s (.slice none 0 0)), (6, .s (.int .i64 0)), (7, .s (.slice none 0 0)), (9, .s (.int .i64 w70))], [], 0, none⟩ K = shufF_l4 fuel s (K (.exit 2) ⟨[(0, .s (.int .u64 s)), (4, .s (.int .u64 0)), (5, .s (.slice none 0 0)), (6, .s (.int .i64 0)), (7, .s (.slice none 0 0))], [], 0, none⟩) k w70
  | 0, _ => rfl
  | k + 1, w70 => by
    unfold shufF_l4
    exact (shufF_s8_eq fuel k K w70 s)
noncomputable def shufF_s9 {R : Type} (s : Int) (c0 : Int → Int → Option R) : Option R :=
  c0 s 0
theorem shufF_s9_eq (fuel : Nat)  (s : Int) : (kont (fnX Try.prog mode2 T_some fuel 52 0) (bodyOf Try.prog 25) [1, 1, 1, 1, 0, 1, 0] 112 (endK Try.prog 0 0 25)) (.exit 2) ⟨[(0, .s (.int .u64 s)), (4, .s (.int .u64 0)), (5, .s (.slice none 0 0)), (6, .s (.int .i64 0)), (7, .s (.slice none 0 0))], [], 0, none⟩ = shufF_s9 s (fun (a72 : Int) (a73 : Int) => some (.tup [.s (.int .u64 a72), .s (.slice none 0 0), .s (.int .i64 a73)], [])) := by kernel_rfl
noncomputable def shufF_s7 {R : Type} (n : Int) (s : Int) (c0 : Int → Option R) : Option R :=
  c0 (IntKind.i64.wrap (n - 1))
theorem shufF_s7_eq (fuel : Nat)  (n : Int) (s : Int) : (kont (fnX Try.prog mode2 T_some fuel 52 0) (bodyOf Try.prog 25) [1, 1, 1, 0, 1, 0] 112 (endK Try.prog 0 0 25)) (.exit 0) ⟨[(0, .s (.int .u64 s)), (1, .s (.int .i64 n)), (4, .s (.int .u64 0)), (5, .s (.slice none 0 0)), (6, .s (.int .i64 0)), (7, .s (.slice none 0 0))], [], 0, none⟩ = shufF_s7 n s (fun (a71 : Int) => lpN (sub (bodyOf Try.prog 25) [1, 1, 1, 1, 0, 1, 0, 0]) (fnX Try.prog mode2 T_some fuel 52 0) 3377699720528113 [0, 4, 5, 6, 7, 9] fuel ⟨[(0, .s (.int .u64 s)), (4, .s (.int .u64 0)), (5, .s (.slice none 0 0)), (6, .s (.int .i64 0)), (7, .s (.slice none 0 0)), (9, .s (.int .i64 a71))], [], 0, none⟩ (kont (fnX Try.prog mode2 T_some fuel 52 0) (bodyOf Try.prog 25) [1, 1, 1, 1, 0, 1, 0] 112 (endK Try.prog 0 0 25))) := by kernel_rfl
noncomputable def shufF_s1 {R : Type} (n : Int) (s : Int) (c0 : Int → Int → Option R) (c1 : Option R) : Option R :=
  br (!(sizedS n))
    (c0 0 2)
    (c1)
theorem shufF_s1_eq (fuel : Nat)  (n : Int) (s : Int) : callN Try.prog mode2 T_some fuel 25 [.s (.int .u64 s), .s (.int .i64 n)] [] = shufF_s1 n s (fun (a1 : Int) (a2 : Int) => some (.tup [.s (.int .u64 a1), .s (.slice none 0 0), .s (.int .i64 a2)], [])) (lpN (sub (bodyOf Try.prog 25) [1, 1, 1, 0, 1, 0, 0]) (fnX Try.prog mode2 T_some fuel 52 0) 4503599618983667 [0, 1, 4, 5, 6, 7, 14, 15] fuel ⟨[(0, .s (.int .u64 s)), (1, .s (.int .i64 n)), (4, .s (.int .u64 0)), (5, .s (.slice none 0 0)), (6, .s (.int .i64 0)), (7, .s (.slice none 0 0)), (14, .s (.int .i64 n)), (15, .s (.int .i64 0))], [], 0, none⟩ (kont (fnX Try.prog mode2 T_some fuel 52 0) (bodyOf Try.prog 25) [1, 1, 1, 0, 1, 0] 112 (endK Try.prog 0 0 25))) := by kernel_rfl
noncomputable def shufF {R : Type} (fuel : Nat) (s : Int) (n : Int) (r0 : Int → Int → Option R) (r1 : Int → List Int → Int → Option R) : Option R :=
  (shufF_s1 n s (fun (a1 : Int) (a2 : Int) => r0 a1 a2) ((shufF_l1 fuel s n (fun (x25 : Nat) (x26 : List Int) => (shufF_s4 s n x26 x25 (fun (a62 : Int) (a63 : Int) (a64 : List Int) => (shufF_l3 fuel x25 (fun (x65 : Int) (x66 : List Int) => (shufF_s6 x65 x66 x25 (fun (a67 : Int) (a68 : List Int) (a69 : Int) => r1 a67 a68 a69))) fuel a62 a63 a64)))) ((shufF_s7 n s (fun (a71 : Int) => (shufF_l4 fuel s ((shufF_s9 s (fun (a72 : Int) (a73 : Int) => r0 a72 a73))) fuel a71)))) fuel)))
theorem shufF_eq (fuel : Nat) (s : Int) (n : Int) : callN Try.prog mode2 T_some fuel 25 [.s (.int .u64 s), .s (.int .i64 n)] [] = shufF fuel s n (fun (z0 : Int) (z1 : Int) => some (.tup [.s (.int .u64 z0), .s (.slice none 0 0), .s (.int .i64 z1)], [])) (fun (z0 : Int) (z1 : List Int) (z2 : Int) => some (.tup [.s (.int .u64 z0), .li .i64 z1, .s (.int .i64 z2)], [])) := by
  unfold shufF
  exact (shufF_s1_eq fuel  n s).trans (congr (congr (Eq.refl (shufF_s1 (R := Out) n s)) (rfl)) ((shufF_l1_eq fuel s n (kont (fnX Try.prog mode2 T_some fuel 52 0) (bodyOf Try.prog 25) [1, 1, 1, 0, 1, 0] 112 (endK Try.prog 0 0 25)) fuel ).trans (congrFun (congr (congr (Eq.refl (shufF_l1 (R := Out) fuel s n)) (funext fun x25 => funext fun x26 => (shufF_s4_eq fuel  s n x26 x25).trans (congr (Eq.refl (shufF_s4 (R := Out) s n x26 x25)) (funext fun a62 => funext fun a63 => funext fun a64 => (shufF_l3_eq fuel x25 (kont (fnX Try.prog mode2 T_some fuel 52 0) (bodyOf Try.prog 25) [1, 1, 1, 1, 0, 1, 0] 112 (endK Try.prog 0 0 25)) fuel a62 a63 a64).trans (congrFun (congrFun (congrFun (congrFun (congr (Eq.refl (shufF_l3 (R := Out) fuel x25)) (funext fun x65 => funext fun x66 => (shufF_s6_eq fuel  x65 x66 x25))) fuel) a62) a63) a64))))) ((shufF_s7_eq fuel  n s).trans (congr (Eq.refl (shufF_s7 (R := Out) n s)) (funext fun a71 => (shufF_l4_eq fuel s (kont (fnX Try.prog mode2 T_some fuel 52 0) (bodyOf Try.prog 25) [1, 1, 1, 1, 0, 1, 0] 112 (endK Try.prog 0 0 25)) fuel a71).trans (congrFun (congrFun (congr (Eq.refl (shufF_l4 (R := Out) fuel s)) ((shufF_s9_eq fuel  s))) fuel) a71))))) fuel)))
theorem shuf_app {R : Type} (fuel : Nat) (s n : Int) (k0 : Nat → List Int → Option R) (h1 : 1 ≤ n) (h2 : n ≤ 512) : ∀ (k j : Nat), (j : Int) ≤ n → n < (j : Int) + k → shufF_l2 fuel s n k0 k j (j : Int) (iotaS j) = k0 n.toNat (iotaS n.toNat)
  | 0, j, hj, hk => by omega
  | k + 1, j, hj, hk => by
    unfold shufF_l2 shufF_s3
    rw [br_if]
    by_cases hc : (j : Int) < n
    · rw [if_pos (by simpa using hc), iota_len, grd_of (beq_self _), grd_of (okN_of (by omega) (by omega)), iota_succ, iota_len, wrap_i64 (by omega) (by omega), show (j : Int) + 1 = ((j + 1 : Nat) : Int) by omega]
      exact shuf_app fuel s n k0 h1 h2 k (j + 1) (by omega) (by omega)
    · rw [if_neg (by simpa using hc), show n.toNat = j by omega]
theorem shuf_swaps {R : Type} (fuel m : Nat) (hm : m ≤ 512) (k0 : Int → List Int → Option R) : ∀ (i k : Nat) (s : Int) (l : List Int), l.length = m → i < m → 0 ≤ s → s < 18446744073709551616 → i < k → shufF_l3 fuel m k0 k s (i : Int) l = k0 (swapsS i s l).1 (swapsS i s l).2 ∧ (swapsS i s l).2.length = m
  | _, 0, s, l, hl, hi, h0, h1, hk => by omega
  | 0, k + 1, s, l, hl, hi, h0, h1, hk => by
    unfold shufF_l3 shufF_s5
    rw [br_if, if_neg (by decide)]
    exact ⟨rfl, hl⟩
  | i + 1, k + 1, s, l, hl, hi, h0, h1, hk => by
    unfold shufF_l3 shufF_s5
    have hw : IntKind.i64.wrap (((i + 1 : Nat) : Int) + 1) = (i : Int) + 2 := by rw [wrap_i64 (by omega) (by omega)]; omega
    have hb := below_range (n := (i : Int) + 2) h0 h1 (by omega) (by omega)
    obtain ⟨⟨b0, b1⟩, b2, b3⟩ := hb
    have e1 : below (belowS s ((i : Int) + 2)).2 m = some (belowS s ((i : Int) + 2)).2.toNat := below_of b2 (by omega)
    have e2 : below ((i + 1 : Nat) : Int) m = some (i + 1) := below_of (i := ((i + 1 : Nat) : Int)) (by omega) (by omega)
    have b4 : (belowS s ((i : Int) + 2)).2.toNat < m := by omega
    have hl1 : IntKind.i64.wrap (((i + 1 : Nat) : Int) - 1) = (i : Int) := by rw [wrap_i64 (by omega) (by omega)]; omega
    have ih := fun l' hl' => shuf_swaps fuel m hm k0 i k (belowS s ((i : Int) + 2)).1 l' hl' (by omega) b0 b1 (by omega)
    rw [hw, br_if, if_pos (by simp), grd_of (by simp; omega), hl1, swapsS]
    rw [e1]
    generalize belowS s ((i : Int) + 2) = b at *
    generalize b.2.toNat = j at *
    obtain ⟨x, hx⟩ : ∃ x, l[j]? = some x := ⟨_, List.getElem?_eq_getElem (by omega)⟩
    obtain ⟨y, hy⟩ : ∃ y, l[i + 1]? = some y := ⟨_, List.getElem?_eq_getElem (by omega)⟩
    obtain ⟨z, hz⟩ : ∃ z, (l.set (i + 1) x)[j]? = some z := ⟨_, List.getElem?_eq_getElem (by simp; omega)⟩
    have hsw : swpS l (i + 1) j = (l.set (i + 1) x).set j y := by unfold swpS; rw [hx, hy]; rfl
    rw [hsw]
    simp only [e2, bnd_some, Nat.zero_add, hx, hy, hz]
    exact ih _ (by simpa using hl)
theorem shuf_fact (s : Int) (n : Int) (hg : (decide (0 ≤ s) && decide (s < 18446744073709551616)) = true) : Fact Try.prog noG 25 [.s (.int .u64 s), .s (.int .i64 n)] [] (.tup [.s (.int .u64 (if sizedS n = true then (shuffleS s n).1 else 0)), .li .i64 (if sizedS n = true then (shuffleS s n).2 else []), .s (.int .i64 (if sizedS n = true then 0 else 2))], []) := by
  cases hz : sizedS n with
  | false =>
    refine Fact.out (v := .tup [.s (.int .u64 0), .s (.slice none 0 0), .s (.int .i64 2)]) (bs' := []) ?_ (fun _ _ _ x h => RV_tup_two (fun _ h => RVs_two (fun _ h => h) (fun _ h => RVs_two (fun _ h => RV_nil_li h) (fun _ h => h) h) h) h)
    refine callN_fact hN hM T_some_ok (n := 0) (mode := mode2) ?_
    rw [shufF_eq]
    unfold shufF shufF_s1
    rw [hz]
    exact br_tt _ _
  | true =>
  have hg' : (decide (0 ≤ s) && decide (s < 18446744073709551616) && decide (1 ≤ n) && decide (n ≤ 512)) = true := by
    unfold sizedS at hz; rw [Bool.and_assoc, hg, hz]; rfl
  clear hg
  have hg := hg'
  clear hg'
  simp only [Bool.and_eq_true, decide_eq_true_eq] at hg
  obtain ⟨⟨⟨h0, h1⟩, hn⟩, hn2⟩ := hg
  obtain ⟨F, hF⟩ : ∃ F : Nat, F = 599 := ⟨_, rfl⟩
  refine callN_fact hN hM T_some_ok (n := F + 1) (mode := mode2) ?_
  rw [shufF_eq]
  obtain ⟨j, rfl⟩ : ∃ j : Nat, n = (j : Int) := ⟨n.toNat, by omega⟩
  have hs := fun (k0 : Int → List Int → Option Out) => shuf_swaps (R := Out) (F + 1) j (by omega) k0 (j - 1) (F + 1) s (iotaS j) (iota_len j) (by omega) h0 h1 (by omega)
  have hj1 : IntKind.i64.wrap ((j : Int) - 1) = ((j - 1 : Nat) : Int) := by rw [wrap_i64 (by omega) (by omega)]; omega
  have hsh : shuffleS s (j : Int) = swapsS (j - 1) s (iotaS j) := by rw [shuffleS_eq]; unfold shuffleI; simp
  have ha := fun k0 => shuf_app (R := Out) (F + 1) s (j : Int) k0 hn hn2 F 1 (by omega) (by omega)
  unfold shufF shufF_s1
  rw [hz, br_if, if_neg (by decide)]
  unfold shufF_l1 shufF_s2
  dsimp only
  rw [br_if, if_pos (by simp; omega)]
  simp only [show [(0 : Int)] = iotaS 1 from rfl, show (1 : Int) = ((1 : Nat) : Int) from rfl, ha]
  unfold shufF_s4
  simp only [hj1, Int.toNat_natCast, (hs _).1, hsh]
  unfold shufF_s6
  have hlen := (hs (fun _ _ => none)).2
  rw [List.drop_zero, List.take_of_length_le (by omega)]
  simp
noncomputable def shuf_ent : List V → List Blk → Option (Bool × Out)
  | [.s (.int .u64 s), .s (.int .i64 n)], [] => some ((decide (0 ≤ s) && decide (s < 18446744073709551616)), (.tup [.s (.int .u64 (if sizedS n = true then (shuffleS s n).1 else 0)), .li .i64 (if sizedS n = true then (shuffleS s n).2 else []), .s (.int .i64 (if sizedS n = true then 0 else 2))], []))
  | _, _ => none
theorem shuf_ok : ∀ args bs out, shuf_ent args bs = some (true, out) → Fact Try.prog noG 25 args bs out := by
  intro args bs out h
  unfold shuf_ent at h
  split at h
  · rename_i s n
    simp only [Option.some.injEq, Prod.mk.injEq] at h
    obtain ⟨hg, rfl⟩ := h
    exact shuf_fact s n hg
  · cases h
noncomputable def T_shuf : Tbl := Tbl.cons 25 shuf_ent T_some
theorem T_shuf_ok : CallOk Try.prog noG T_shuf := cons_ok T_some_ok shuf_ok
/-! downpour/downpourref06.Shuffle -/
noncomputable def refShuffleF_s2 {R : Type} (w2 : Int) (n : Int) (w3 : List Int) (w1 : Nat) (s : Int) (c0 : Nat → Int → List Int → Option R) (c1 : Nat → List Int → Option R) : Option R :=
  br (decide (w2 < n))
    (grd (Nat.beq w3.length w1) <|
    grd (okN (w1 + 1) 8) <|
    c0 ((w3 ++ [w2]).length) (IntKind.i64.wrap (w2 + 1)) (w3 ++ [w2]))
    (c1 w1 w3)
theorem refShuffleF_s2_eq (fuel : Nat) (k : Nat) (K : Ex → St → Option Out) (w2 : Int) (n : Int) (w3 : List Int) (w1 : Nat) (s : Int) : lpN (sub (bodyOf Try.prog 27) [1, 1, 0, 1, 0, 0]) (fnX Try.prog mode2 T_shuf fuel 52 0) 4503599626322867 [0, 1, 4, 5, 6] (k + 1) ⟨[(0, .s (.int .u64 s)), (1, .s (.int .i64 n)), (4, .ptr 0 2 0 0), (5, .sl 1 1 0 w1), (6, .s (.int .i64 w2))], [(0, some ⟨54, .agg [.s (.int .u64 0), .s (.slice none 0 0)], true⟩), (1, some ⟨3, .li .i64 w3, true⟩)], 2, none⟩ K = refShuffleF_s2 w2 n w3 w1 s (fun (a6 : Nat) (a7 : Int) (a8 : List Int) => lpN (sub (bodyOf Try.prog 27) [1, 1, 0, 1, 0, 0]) (fnX Try.prog mode2 T_shuf fuel 52 0) 4503599626322867 [0, 1, 4, 5, 6] k ⟨[(0, .s (.int .u64 s)), (1, .s (.int .i64 n)), (4, .ptr 0 2 0 0), (5, .sl 1 1 0 a6), (6, .s (.int .i64 a7))], [(0, some ⟨54, .agg [.s (.int .u64 0), .s (.slice none 0 0)], true⟩), (1, some ⟨3, .li .i64 a8, true⟩)], 2, none⟩ K) (fun (a9 : Nat) (a10 : List Int) => K (.exit 0) ⟨[(0, .s (.int .u64 s)), (1, .s (.int .i64 n)), (4, .ptr 0 2 0 0), (5, .sl 1 1 0 a9)], [(0, some ⟨54, .agg [.s (.int .u64 0), .s (.slice none 0 0)], true⟩), (1, some ⟨3, .li .i64 a10, true⟩)], 2, none⟩) := by kernel_rfl
noncomputable def refShuffleF_l1 {R : Type} (fuel : Nat) (s : Int) (n : Int) (k0 : Nat → List Int → Option R) : Nat → Nat → Int → List Int → Option R
  | 0, _, _, _ => none
  | k + 1, w1, w2, w3 =>
    (refShuffleF_s2 w2 n w3 w1 s (fun (a6 : Nat) (a7 : Int) (a8 : List Int) => ( refShuffleF_l1 fuel s n k0 k a6 a7 a8 )) (fun (a9 : Nat) (a10 : List Int) => k0 a9 a10))
theorem refShuffleF_l1_eq (fuel : Nat) (s : Int) (n : Int) (K : Ex → St → Option Out) : ∀ (k : Nat) (w1 : Nat) (w2 : Int) (w3 : List Int), lpN (sub (bodyOf Try.prog 27) [1, 1, 0, 1, 0, 0]) (fnX Try.prog mode2 T_shuf fuel 52 0) 4503599626322867 [0, 1, 4, 5, 6] k ⟨[(0, .s (.int .u64 s)), (1, .s (.int .i64 n)), (4, .ptr 0 2 0 0), (5, .sl 1 1 0 w1), (6, .s (.int .i64 w2))], [(0, some ⟨54, .agg [.s (.int .u64 0), .s (.slice none 0 0)], true⟩), (1, some ⟨3, .li .i64 w3, true⟩)], 2, none⟩ K = refShuffleF_l1 fuel s n (fun (y4 : Nat) (y5 : List Int) => K (.exit 0) ⟨[(0, .s (.int .u64 s)), (1, .s (.int .i64 n)), (4, .ptr 0 2 0 0), (5, .sl 1 1 0 y4)], [(0, some ⟨54, .agg [.s (.int .u64 0), .s (.slice none 0 0)], true⟩), (1, some ⟨3, .li .i64 y5, true⟩)], 2, none⟩) k w1 w2 w3
  | 0, _, _, _ => rfl
  | k + 1, w1, w2, w3 => by
    unfold refShuffleF_l1
    exact (refShuffleF_s2_eq fuel k K w2 n w3 w1 s).trans (congr (congr (Eq.refl (refShuffleF_s2 (R := Out) w2 n w3 w1 s)) (funext fun a6 => funext fun a7 => funext fun a8 => refShuffleF_l1_eq fuel s n K k a6 a7 a8)) (rfl))
noncomputable def refShuffleF_s4 {R : Type} (w26 : Int) (w25 : Int) (x14 : Nat) (w27 : List Int) (c0 : Int → Int → List Int → Option R) (c1 : Int → List Int → Option R) : Option R :=
  br (decide (w26 > 0))
    (grd (decide (0 ≤ w25) && decide (w25 < 18446744073709551616) && decide (1 ≤ (IntKind.i64.wrap (w26 + 1))) && decide ((IntKind.i64.wrap (w26 + 1)) ≤ 512)) <|
    bnd (below w26 x14) fun j38 =>
    bnd (w27[(0 + j38)]?) fun e39 =>
    bnd (below ((belowS w25 (IntKind.i64.wrap (w26 + 1))).2) x14) fun j40 =>
    bnd (w27[(0 + j40)]?) fun e41 =>
    bnd (below w26 x14) fun j42 =>
    bnd (w27[(0 + j42)]?) fun e43 =>
    bnd (below ((belowS w25 (IntKind.i64.wrap (w26 + 1))).2) x14) fun j44 =>
    bnd ((w27.set (0 + j42) e41)[(0 + j44)]?) fun e45 =>
    c0 ((belowS w25 (IntKind.i64.wrap (w26 + 1))).1) (IntKind.i64.wrap (w26 - 1)) ((w27.set (0 + j42) e41).set (0 + j44) e39))
    (c1 w25 w27)
theorem refShuffleF_s4_eq (fuel : Nat) (k : Nat) (K : Ex → St → Option Out) (w26 : Int) (w25 : Int) (x14 : Nat) (w27 : List Int) : lpN (sub (bodyOf Try.prog 27) [1, 1, 1, 0, 1, 0, 0]) (fnX Try.prog mode2 T_shuf fuel 52 0) 3940649673949233 [0, 4, 5, 7] (k + 1) ⟨[(0, .s (.int .u64 w25)), (4, .ptr 0 2 0 0), (5, .sl 1 1 0 x14), (7, .s (.int .i64 w26))], [(0, some ⟨54, .agg [.s (.int .u64 0), .s (.slice none 0 0)], true⟩), (1, some ⟨3, .li .i64 w27, true⟩)], 2, none⟩ K = refShuffleF_s4 w26 w25 x14 w27 (fun (a46 : Int) (a47 : Int) (a48 : List Int) => lpN (sub (bodyOf Try.prog 27) [1, 1, 1, 0, 1, 0, 0]) (fnX Try.prog mode2 T_shuf fuel 52 0) 3940649673949233 [0, 4, 5, 7] k ⟨[(0, .s (.int .u64 a46)), (4, .ptr 0 2 0 0), (5, .sl 1 1 0 x14), (7, .s (.int .i64 a47))], [(0, some ⟨54, .agg [.s (.int .u64 0), .s (.slice none 0 0)], true⟩), (1, some ⟨3, .li .i64 a48, true⟩)], 2, none⟩ K) (fun (a49 : Int) (a50 : List Int) => K (.exit 2) ⟨[(0, .s (.int .u64 a49)), (4, .ptr 0 2 0 0), (5, .sl 1 1 0 x14)], [(0, some ⟨54, .agg [.s (.int .u64 0), .s (.slice none 0 0)], true⟩), (1, some ⟨3, .li .i64 a50, true⟩)], 2, none⟩) := by kernel_rfl
noncomputable def refShuffleF_l2 {R : Type} (fuel : Nat) (x14 : Nat) (k0 : Int → List Int → Option R) : Nat → Int → Int → List Int → Option R
  | 0, _, _, _ => none
  | k + 1, w25, w26, w27 =>
    (refShuffleF_s4 w26 w25 x14 w27 (fun (a46 : Int) (a47 : Int) (a48 : List Int) => ( refShuffleF_l2 fuel x14 k0 k a46 a47 a48 )) (fun (a49 : Int) (a50 : List Int) => k0 a49 a50))
theorem refShuffleF_l2_eq (fuel : Nat) (x14 : Nat) (K : Ex → St → Option Out) : ∀ (k : Nat) (w25 : Int) (w26 : Int) (w27 : List Int), lpN (sub (bodyOf Try.prog 27) [1, 1, 1, 0, 1, 0, 0]) (fnX Try.prog mode2 T_shuf fuel 52 0) 3940649673949233 [0, 4, 5, 7] k ⟨[(0, .s (.int .u64 w25)), (4, .ptr 0 2 0 0), (5, .sl 1 1 0 x14), (7, .s (.int .i64 w26))], [(0, some ⟨54, .agg [.s (.int .u64 0), .s (.slice none 0 0)], true⟩), (1, some ⟨3, .li .i64 w27, true⟩)], 2, none⟩ K = refShuffleF_l2 fuel x14 (fun (y36 : Int) (y37 : List Int) => K (.exit 2) ⟨[(0, .s (.int .u64 y36)), (4, .ptr 0 2 0 0), (5, .sl 1 1 0 x14)], [(0, some ⟨54, .agg [.s (.int .u64 0), .s (.slice none 0 0)], true⟩), (1, some ⟨3, .li .i64 y37, true⟩)], 2, none⟩) k w25 w26 w27
  | 0, _, _, _ => rfl
  | k + 1, w25, w26, w27 => by
    unfold refShuffleF_l2
    exact (refShuffleF_s4_eq fuel k K w26 w25 x14 w27).trans (congr (congr (Eq.refl (refShuffleF_s4 (R := Out) w26 w25 x14 w27)) (funext fun a46 => funext fun a47 => funext fun a48 => refShuffleF_l2_eq fuel x14 K k a46 a47 a48)) (rfl))
noncomputable def refShuffleF_s5 {R : Type} (x54 : Int) (x55 : List Int) (x14 : Nat) (c0 : Int → List Int → Option R) : Option R :=
  c0 x54 ((x55.drop 0).take x14)
theorem refShuffleF_s5_eq (fuel : Nat)  (x54 : Int) (x55 : List Int) (x14 : Nat) : (kont (fnX Try.prog mode2 T_shuf fuel 52 0) (bodyOf Try.prog 27) [1, 1, 1, 0, 1, 0] 16 (endK Try.prog 0 0 27)) (.exit 2) ⟨[(0, .s (.int .u64 x54)), (4, .ptr 0 2 0 0), (5, .sl 1 1 0 x14)], [(0, some ⟨54, .agg [.s (.int .u64 0), .s (.slice none 0 0)], true⟩), (1, some ⟨3, .li .i64 x55, true⟩)], 2, none⟩ = refShuffleF_s5 x54 x55 x14 (fun (a56 : Int) (a57 : List Int) => some (.agg [.s (.int .u64 a56), .li .i64 a57], [])) := by kernel_rfl
noncomputable def refShuffleF_s3 {R : Type} (s : Int) (n : Int) (x15 : List Int) (x14 : Nat) (c0 : Int → Int → List Int → Option R) : Option R :=
  c0 s (IntKind.i64.wrap (n - 1)) x15
theorem refShuffleF_s3_eq (fuel : Nat)  (s : Int) (n : Int) (x15 : List Int) (x14 : Nat) : (kont (fnX Try.prog mode2 T_shuf fuel 52 0) (bodyOf Try.prog 27) [1, 1, 0, 1, 0] 16 (endK Try.prog 0 0 27)) (.exit 0) ⟨[(0, .s (.int .u64 s)), (1, .s (.int .i64 n)), (4, .ptr 0 2 0 0), (5, .sl 1 1 0 x14)], [(0, some ⟨54, .agg [.s (.int .u64 0), .s (.slice none 0 0)], true⟩), (1, some ⟨3, .li .i64 x15, true⟩)], 2, none⟩ = refShuffleF_s3 s n x15 x14 (fun (a51 : Int) (a52 : Int) (a53 : List Int) => lpN (sub (bodyOf Try.prog 27) [1, 1, 1, 0, 1, 0, 0]) (fnX Try.prog mode2 T_shuf fuel 52 0) 3940649673949233 [0, 4, 5, 7] fuel ⟨[(0, .s (.int .u64 a51)), (4, .ptr 0 2 0 0), (5, .sl 1 1 0 x14), (7, .s (.int .i64 a52))], [(0, some ⟨54, .agg [.s (.int .u64 0), .s (.slice none 0 0)], true⟩), (1, some ⟨3, .li .i64 a53, true⟩)], 2, none⟩ (kont (fnX Try.prog mode2 T_shuf fuel 52 0) (bodyOf Try.prog 27) [1, 1, 1, 0, 1, 0] 16 (endK Try.prog 0 0 27))) := by kernel_rfl
noncomputable def refShuffleF_s1 {R : Type} (s : Int) (n : Int) (c0 : Nat → Int → List Int → Option R) : Option R :=
  c0 0 0 ([])
theorem refShuffleF_s1_eq (fuel : Nat)  (s : Int) (n : Int) : callN Try.prog mode2 T_shuf fuel 27 [.s (.int .u64 s), .s (.int .i64 n)] [] = refShuffleF_s1 s n (fun (a11 : Nat) (a12 : Int) (a13 : List Int) => lpN (sub (bodyOf Try.prog 27) [1, 1, 0, 1, 0, 0]) (fnX Try.prog mode2 T_shuf fuel 52 0) 4503599626322867 [0, 1, 4, 5, 6] fuel ⟨[(0, .s (.int .u64 s)), (1, .s (.int .i64 n)), (4, .ptr 0 2 0 0), (5, .sl 1 1 0 a11), (6, .s (.int .i64 a12))], [(0, some ⟨54, .agg [.s (.int .u64 0), .s (.slice none 0 0)], true⟩), (1, some ⟨3, .li .i64 a13, true⟩)], 2, none⟩ (kont (fnX Try.prog mode2 T_shuf fuel 52 0) (bodyOf Try.prog 27) [1, 1, 0, 1, 0] 16 (endK Try.prog 0 0 27))) := by kernel_rfl
noncomputable def refShuffleF {R : Type} (fuel : Nat) (s : Int) (n : Int) (r0 : Int → List Int → Option R) : Option R :=
  (refShuffleF_s1 s n (fun (a11 : Nat) (a12 : Int) (a13 : List Int) => (refShuffleF_l1 fuel s n (fun (x14 : Nat) (x15 : List Int) => (refShuffleF_s3 s n x15 x14 (fun (a51 : Int) (a52 : Int) (a53 : List Int) => (refShuffleF_l2 fuel x14 (fun (x54 : Int) (x55 : List Int) => (refShuffleF_s5 x54 x55 x14 (fun (a56 : Int) (a57 : List Int) => r0 a56 a57))) fuel a51 a52 a53)))) fuel a11 a12 a13)))
theorem refShuffleF_eq (fuel : Nat) (s : Int) (n : Int) : callN Try.prog mode2 T_shuf fuel 27 [.s (.int .u64 s), .s (.int .i64 n)] [] = refShuffleF fuel s n (fun (z0 : Int) (z1 : List Int) => some (.agg [.s (.int .u64 z0), .li .i64 z1], [])) := by
  unfold refShuffleF
  exact (refShuffleF_s1_eq fuel  s n).trans (congr (Eq.refl (refShuffleF_s1 (R := Out) s n)) (funext fun a11 => funext fun a12 => funext fun a13 => (refShuffleF_l1_eq fuel s n (kont (fnX Try.prog mode2 T_shuf fuel 52 0) (bodyOf Try.prog 27) [1, 1, 0, 1, 0] 16 (endK Try.prog 0 0 27)) fuel a11 a12 a13).trans (congrFun (congrFun (congrFun (congrFun (congr (Eq.refl (refShuffleF_l1 (R := Out) fuel s n)) (funext fun x14 => funext fun x15 => (refShuffleF_s3_eq fuel  s n x15 x14).trans (congr (Eq.refl (refShuffleF_s3 (R := Out) s n x15 x14)) (funext fun a51 => funext fun a52 => funext fun a53 => (refShuffleF_l2_eq fuel x14 (kont (fnX Try.prog mode2 T_shuf fuel 52 0) (bodyOf Try.prog 27) [1, 1, 1, 0, 1, 0] 16 (endK Try.prog 0 0 27)) fuel a51 a52 a53).trans (congrFun (congrFun (congrFun (congrFun (congr (Eq.refl (refShuffleF_l2 (R := Out) fuel x14)) (funext fun x54 => funext fun x55 => (refShuffleF_s5_eq fuel  x54 x55 x14))) fuel) a51) a52) a53))))) fuel) a11) a12) a13)))
theorem refShuffle_app {R : Type} (fuel : Nat) (s n : Int) (k0 : Nat → List Int → Option R) (h1 : 1 ≤ n) (h2 : n ≤ 512) : ∀ (k j : Nat), (j : Int) ≤ n → n < (j : Int) + k → refShuffleF_l1 fuel s n k0 k j (j : Int) (iotaS j) = k0 n.toNat (iotaS n.toNat)
  | 0, j, hj, hk => by omega
  | k + 1, j, hj, hk => by
    unfold refShuffleF_l1 refShuffleF_s2
    rw [br_if]
    by_cases hc : (j : Int) < n
    · rw [if_pos (by simpa using hc), iota_len, grd_of (beq_self _), grd_of (okN_of (by omega) (by omega)), iota_succ, iota_len, wrap_i64 (by omega) (by omega), show (j : Int) + 1 = ((j + 1 : Nat) : Int) by omega]
      exact refShuffle_app fuel s n k0 h1 h2 k (j + 1) (by omega) (by omega)
    · rw [if_neg (by simpa using hc), show n.toNat = j by omega]
theorem refShuffle_swaps {R : Type} (fuel m : Nat) (hm : m ≤ 512) (k0 : Int → List Int → Option R) : ∀ (i k : Nat) (s : Int) (l : List Int), l.length = m → i < m → 0 ≤ s → s < 18446744073709551616 → i < k → refShuffleF_l2 fuel m k0 k s (i : Int) l = k0 (swapsS i s l).1 (swapsS i s l).2 ∧ (swapsS i s l).2.length = m
  | _, 0, s, l, hl, hi, h0, h1, hk => by omega
  | 0, k + 1, s, l, hl, hi, h0, h1, hk => by
    unfold refShuffleF_l2 refShuffleF_s4
    rw [br_if, if_neg (by decide)]
    exact ⟨rfl, hl⟩
  | i + 1, k + 1, s, l, hl, hi, h0, h1, hk => by
    unfold refShuffleF_l2 refShuffleF_s4
    have hw : IntKind.i64.wrap (((i + 1 : Nat) : Int) + 1) = (i : Int) + 2 := by rw [wrap_i64 (by omega) (by omega)]; omega
    have hb := below_range (n := (i : Int) + 2) h0 h1 (by omega) (by omega)
    obtain ⟨⟨b0, b1⟩, b2, b3⟩ := hb
    have e1 : below (belowS s ((i : Int) + 2)).2 m = some (belowS s ((i : Int) + 2)).2.toNat := below_of b2 (by omega)
    have e2 : below ((i + 1 : Nat) : Int) m = some (i + 1) := below_of (i := ((i + 1 : Nat) : Int)) (by omega) (by omega)
    have b4 : (belowS s ((i : Int) + 2)).2.toNat < m := by omega
    have hl1 : IntKind.i64.wrap (((i + 1 : Nat) : Int) - 1) = (i : Int) := by rw [wrap_i64 (by omega) (by omega)]; omega
    have ih := fun l' hl' => refShuffle_swaps fuel m hm k0 i k (belowS s ((i : Int) + 2)).1 l' hl' (by omega) b0 b1 (by omega)
    rw [hw, br_if, if_pos (by simp), grd_of (by simp; omega), hl1, swapsS]
    rw [e1]
    generalize belowS s ((i : Int) + 2) = b at *
    generalize b.2.toNat = j at *
    obtain ⟨x, hx⟩ : ∃ x, l[j]? = some x := ⟨_, List.getElem?_eq_getElem (by omega)⟩
    obtain ⟨y, hy⟩ : ∃ y, l[i + 1]? = some y := ⟨_, List.getElem?_eq_getElem (by omega)⟩
    obtain ⟨z, hz⟩ : ∃ z, (l.set (i + 1) x)[j]? = some z := ⟨_, List.getElem?_eq_getElem (by simp; omega)⟩
    have hsw : swpS l (i + 1) j = (l.set (i + 1) x).set j y := by unfold swpS; rw [hx, hy]; rfl
    rw [hsw]
    simp only [e2, bnd_some, Nat.zero_add, hx, hy, hz]
    exact ih _ (by simpa using hl)
theorem refShuffle_fact (s : Int) (n : Int) (hg : (decide (0 ≤ s) && decide (s < 18446744073709551616) && decide (1 ≤ n) && decide (n ≤ 512)) = true) : Fact Try.prog noG 27 [.s (.int .u64 s), .s (.int .i64 n)] [] (.agg [.s (.int .u64 ((shuffleS s n).1)), .li .i64 ((shuffleS s n).2)], []) := by
  simp only [Bool.and_eq_true, decide_eq_true_eq] at hg
  obtain ⟨⟨⟨h0, h1⟩, hn⟩, hn2⟩ := hg
  obtain ⟨F, hF⟩ : ∃ F : Nat, F = 599 := ⟨_, rfl⟩
  refine callN_fact hN hM T_shuf_ok (n := F + 1) (mode := mode2) ?_
  rw [refShuffleF_eq]
  obtain ⟨j, rfl⟩ : ∃ j : Nat, n = (j : Int) := ⟨n.toNat, by omega⟩
  have hs := fun (k0 : Int → List Int → Option Out) => refShuffle_swaps (R := Out) (F + 1) j (by omega) k0 (j - 1) (F + 1) s (iotaS j) (iota_len j) (by omega) h0 h1 (by omega)
  have hj1 : IntKind.i64.wrap ((j : Int) - 1) = ((j - 1 : Nat) : Int) := by rw [wrap_i64 (by omega) (by omega)]; omega
  have hsh : shuffleS s (j : Int) = swapsS (j - 1) s (iotaS j) := by rw [shuffleS_eq]; unfold shuffleI; simp
  have ha := fun k0 => refShuffle_app (R := Out) (F + 1) s (j : Int) k0 hn hn2 (F + 1) 0 (by omega) (by omega)
  unfold refShuffleF refShuffleF_s1
  simp only [show [] = iotaS 0 from rfl, show (0 : Int) = ((0 : Nat) : Int) from rfl, ha]
  unfold refShuffleF_s3
  simp only [hj1, Int.toNat_natCast, (hs _).1, hsh]
  unfold refShuffleF_s5
  have hlen := (hs (fun _ _ => none)).2
  rw [List.drop_zero, List.take_of_length_le (by omega)]
noncomputable def refShuffle_ent : List V → List Blk → Option (Bool × Out)
  | [.s (.int .u64 s), .s (.int .i64 n)], [] => some ((decide (0 ≤ s) && decide (s < 18446744073709551616) && decide (1 ≤ n) && decide (n ≤ 512)), (.agg [.s (.int .u64 ((shuffleS s n).1)), .li .i64 ((shuffleS s n).2)], []))
  | _, _ => none
theorem refShuffle_ok : ∀ args bs out, refShuffle_ent args bs = some (true, out) → Fact Try.prog noG 27 args bs out := by
  intro args bs out h
  unfold refShuffle_ent at h
  split at h
  · rename_i s n
    simp only [Option.some.injEq, Prod.mk.injEq] at h
    obtain ⟨hg, rfl⟩ := h
    exact refShuffle_fact s n hg
  · cases h
noncomputable def T_refShuffle : Tbl := Tbl.cons 27 refShuffle_ent T_shuf
theorem T_refShuffle_ok : CallOk Try.prog noG T_refShuffle := cons_ok T_shuf_ok refShuffle_ok
/-! downpour/downpourref06.in -/
noncomputable def refInF_s2 {R : Type} (w7 : Int) (w6 : Int) (w5 : List Int) (n : Int) (c0 : Option R) (c1 : List Int → Int → Int → Option R) (c2 : Option R) : Option R :=
  br (decide (w7 < w6))
    (bnd (ix w5 w7) fun e9 =>
    br (e9 == n)
      (c0)
      (c1 w5 w6 (IntKind.i64.wrap (w7 + 1))))
    (c2)
theorem refInF_s2_eq (fuel : Nat) (k : Nat) (K : Ex → St → Option Out) (w7 : Int) (w6 : Int) (w5 : List Int) (n : Int) : lpN (sub (bodyOf Try.prog 54) [1, 0, 1, 0, 0]) (fnX Try.prog mode2 T_refShuffle fuel 21 0) 64 [2, 6, 11, 12, 13] (k + 1) ⟨[(2, .s (.int .i64 n)), (6, .s (.bool false)), (11, .li .i64 w5), (12, .s (.int .i64 w6)), (13, .s (.int .i64 w7))], [], 0, none⟩ K = refInF_s2 w7 w6 w5 n (K .ret ⟨[(6, .s (.bool true))], [], 0, none⟩) (fun (a10 : List Int) (a11 : Int) (a12 : Int) => lpN (sub (bodyOf Try.prog 54) [1, 0, 1, 0, 0]) (fnX Try.prog mode2 T_refShuffle fuel 21 0) 64 [2, 6, 11, 12, 13] k ⟨[(2, .s (.int .i64 n)), (6, .s (.bool false)), (11, .li .i64 a10), (12, .s (.int .i64 a11)), (13, .s (.int .i64 a12))], [], 0, none⟩ K) (K (.exit 0) ⟨[(6, .s (.bool false))], [], 0, none⟩) := by kernel_rfl
noncomputable def refInF_l1 {R : Type} (fuel : Nat) (n : Int) (k0 : Option R) (k1 : Option R) : Nat → List Int → Int → Int → Option R
  | 0, _, _, _ => none
  | k + 1, w5, w6, w7 =>
    (refInF_s2 w7 w6 w5 n (k0) (fun (a10 : List Int) (a11 : Int) (a12 : Int) => ( refInF_l1 fuel n k0 k1 k a10 a11 a12 )) (k1))
theorem refInF_l1_eq (fuel : Nat) (n : Int) (K : Ex → St → Option Out) : ∀ (k : Nat) (w5 : List Int) (w6 : Int) (w7 : Int), lpN (sub (bodyOf Try.prog 54) [1, 0, 1, 0, 0]) (fnX Try.prog mode2 T_refShuffle fuel 21 0) 64 [2, 6, 11, 12, 13] k ⟨[(2, .s (.int .i64 n)), (6, .s (.bool false)), (11, .li .i64 w5), (12, .s (.int .i64 w6)), (13, .s (.int .i64 w7))], [], 0, none⟩ K = refInF_l1 fuel n (K .ret ⟨[(6, .s (.bool true))], [], 0, none⟩) (K (.exit 0) ⟨[(6, .s (.bool false))], [], 0, none⟩) k w5 w6 w7
  | 0, _, _, _ => rfl
  | k + 1, w5, w6, w7 => by
    unfold refInF_l1
    exact (refInF_s2_eq fuel k K w7 w6 w5 n).trans (congr (congr (congr (Eq.refl (refInF_s2 (R := Out) w7 w6 w5 n)) (rfl)) (funext fun a10 => funext fun a11 => funext fun a12 => refInF_l1_eq fuel n K k a10 a11 a12)) (rfl))
noncomputable def refInF_s3 {R : Type}  (c0 : Bool → Option R) : Option R :=
  c0 true
theorem refInF_s3_eq (fuel : Nat)   : (kont (fnX Try.prog mode2 T_refShuffle fuel 21 0) (bodyOf Try.prog 54) [1, 0, 1, 0] 64 (endK Try.prog 0 0 54)) .ret ⟨[(6, .s (.bool true))], [], 0, none⟩ = refInF_s3  (fun (a16 : Bool) => some (.s (.bool a16), [])) := by kernel_rfl
noncomputable def refInF_s4 {R : Type}  (c0 : Bool → Option R) : Option R :=
  c0 false
theorem refInF_s4_eq (fuel : Nat)   : (kont (fnX Try.prog mode2 T_refShuffle fuel 21 0) (bodyOf Try.prog 54) [1, 0, 1, 0] 64 (endK Try.prog 0 0 54)) (.exit 0) ⟨[(6, .s (.bool false))], [], 0, none⟩ = refInF_s4  (fun (a17 : Bool) => some (.s (.bool a17), [])) := by kernel_rfl
noncomputable def refInF_s1 {R : Type} (many : Int) (l : List Int) (n : Int) (c0 : List Int → Int → Int → Option R) : Option R :=
  bnd (upTo many l.length) fun j1 =>
  c0 ((l.drop 0).take (j1 - 0)) ((((l.drop 0).take (j1 - 0)).length : Nat) : Int) 0
theorem refInF_s1_eq (fuel : Nat)  (many : Int) (l : List Int) (n : Int) : callN Try.prog mode2 T_refShuffle fuel 54 [.li .i64 l, .s (.int .i64 many), .s (.int .i64 n)] [] = refInF_s1 many l n (fun (a13 : List Int) (a14 : Int) (a15 : Int) => lpN (sub (bodyOf Try.prog 54) [1, 0, 1, 0, 0]) (fnX Try.prog mode2 T_refShuffle fuel 21 0) 64 [2, 6, 11, 12, 13] fuel ⟨[(2, .s (.int .i64 n)), (6, .s (.bool false)), (11, .li .i64 a13), (12, .s (.int .i64 a14)), (13, .s (.int .i64 a15))], [], 0, none⟩ (kont (fnX Try.prog mode2 T_refShuffle fuel 21 0) (bodyOf Try.prog 54) [1, 0, 1, 0] 64 (endK Try.prog 0 0 54))) := by kernel_rfl
noncomputable def refInF {R : Type} (fuel : Nat) (l : List Int) (many : Int) (n : Int) (r0 : Bool → Option R) : Option R :=
  (refInF_s1 many l n (fun (a13 : List Int) (a14 : Int) (a15 : Int) => (refInF_l1 fuel n ((refInF_s3 (fun (a16 : Bool) => r0 a16))) ((refInF_s4 (fun (a17 : Bool) => r0 a17))) fuel a13 a14 a15)))
theorem refInF_eq (fuel : Nat) (l : List Int) (many : Int) (n : Int) : callN Try.prog mode2 T_refShuffle fuel 54 [.li .i64 l, .s (.int .i64 many), .s (.int .i64 n)] [] = refInF fuel l many n (fun (z0 : Bool) => some (.s (.bool z0), [])) := by
  unfold refInF
  exact (refInF_s1_eq fuel  many l n).trans (congr (Eq.refl (refInF_s1 (R := Out) many l n)) (funext fun a13 => funext fun a14 => funext fun a15 => (refInF_l1_eq fuel n (kont (fnX Try.prog mode2 T_refShuffle fuel 21 0) (bodyOf Try.prog 54) [1, 0, 1, 0] 64 (endK Try.prog 0 0 54)) fuel a13 a14 a15).trans (congrFun (congrFun (congrFun (congrFun (congr (congr (Eq.refl (refInF_l1 (R := Out) fuel n)) ((refInF_s3_eq fuel  ))) ((refInF_s4_eq fuel  ))) fuel) a13) a14) a15)))
theorem refIn_loop {R : Type} (fuel : Nat) (n : Int) (xs : List Int) (hx : xs.length ≤ 1000000) (k0 k1 : Option R) : ∀ (k j : Nat), j ≤ xs.length → xs.length < j + k → refInF_l1 fuel n k0 k1 k xs (xs.length : Int) (j : Int) = if (xs.drop j).contains n = true then k0 else k1
  | 0, j, h1, h2 => by omega
  | k + 1, j, h1, h2 => by
    unfold refInF_l1 refInF_s2
    rw [br_if]
    by_cases hc : j < xs.length
    · rw [if_pos (by simpa using hc), bnd_of ((ix_nat xs j).trans (List.getElem?_eq_getElem hc)), br_if, List.drop_eq_getElem_cons hc, wrap_i64 (by omega) (by omega), show (j : Int) + 1 = ((j + 1 : Nat) : Int) by omega]
      dsimp only
      rw [refIn_loop fuel n xs hx k0 k1 k (j + 1) (by omega) (by omega)]
      generalize xs[j] = x
      generalize xs.drop (j + 1) = t
      rw [List.contains_cons]
      by_cases he : x = n
      · simp [he]
      · have he' : ¬ n = x := fun h => he h.symm
        simp [he, he']
    · rw [if_neg (by simpa using hc), List.drop_eq_nil_of_le (by omega)]
      simp
theorem refIn_fact (l : List Int) (many : Int) (n : Int) (hg : (decide (0 ≤ many) && decide (many ≤ l.length) && decide (l.length ≤ 1000000)) = true) : Fact Try.prog noG 54 [.li .i64 l, .s (.int .i64 many), .s (.int .i64 n)] [] (.s (.bool (inS l many n)), []) := by
  simp only [Bool.and_eq_true, decide_eq_true_eq] at hg
  obtain ⟨⟨h0, h1⟩, h2⟩ := hg
  refine callN_fact hN hM T_refShuffle_ok (n := l.length + 1) (mode := mode2) ?_
  rw [refInF_eq]
  unfold refInF refInF_s1
  rw [bnd_of (upTo_of h0 h1)]
  dsimp only
  rw [List.drop_zero, Nat.sub_zero]
  have hl : (l.take many.toNat).length ≤ l.length := by simp; omega
  have := refIn_loop (R := Out) (l.length + 1) n (l.take many.toNat) (by omega)
  rw [show (0 : Int) = ((0 : Nat) : Int) from rfl, this _ _ _ _ (by omega) (by omega), List.drop_zero, inS_eq]
  unfold inI refInF_s3 refInF_s4
  cases (l.take many.toNat).contains n <;> rfl
noncomputable def refIn_ent : List V → List Blk → Option (Bool × Out)
  | [w0, .s (.int .i64 many), .s (.int .i64 n)], [] => (asSl (.int .i64) w0).bind fun l => some ((decide (0 ≤ many) && decide (many ≤ l.length) && decide (l.length ≤ 1000000)), (.s (.bool (inS l many n)), []))
  | _, _ => none
theorem refIn_ok : ∀ args bs out, refIn_ent args bs = some (true, out) → Fact Try.prog noG 54 args bs out := by
  intro args bs out h
  unfold refIn_ent at h
  split at h
  · rename_i w0 many n
    obtain ⟨l, h_l, h⟩ := Option.bind_eq_some_iff.1 h
    simp only [Option.some.injEq, Prod.mk.injEq] at h
    obtain ⟨hg, rfl⟩ := h
    exact (refIn_fact l many n hg).args (fun _ _ _ => fun _ h => RVs_two (fun _ h => RV_li h_l h) (fun _ h => h) h)
  · cases h
noncomputable def T_refIn : Tbl := Tbl.cons 54 refIn_ent T_refShuffle
theorem T_refIn_ok : CallOk Try.prog noG T_refIn := cons_ok T_refShuffle_ok refIn_ok
/-! downpour/downpourref06.Some -/
noncomputable def refSomeF_s3 {R : Type} (w24 : Int) (n : Int) (many : Int) (w10 : List Int) (w26 : List Int) (w25 : Nat) (w9 : Int) (c0 : Int → Nat → List Int → Option R) (c1 : Int → Nat → List Int → Option R) (c2 : Nat → List Int → Option R) : Option R :=
  br (decide (w24 < n))
    (grd (decide (0 ≤ many) && decide (many ≤ w10.length) && decide (w10.length ≤ 1000000)) <|
    br (inS w10 many w24)
      (grd (Nat.beq w26.length w25) <|
      grd (okN (w25 + 1) 8) <|
      c0 (IntKind.i64.wrap (w24 + 1)) ((w26 ++ [w24]).length) (w26 ++ [w24]))
      (c1 (IntKind.i64.wrap (w24 + 1)) w25 w26))
    (c2 w25 w26)
theorem refSomeF_s3_eq (fuel : Nat) (k : Nat) (K : Ex → St → Option Out) (w24 : Int) (n : Int) (many : Int) (w10 : List Int) (w26 : List Int) (w25 : Nat) (w9 : Int) : lpN (sub (bodyOf Try.prog 29) [1, 1, 1, 0, 1, 0, 0]) (fnX Try.prog mode2 T_refIn fuel 33 0) 4294967616 [1, 2, 6, 7, 8, 9] (k + 1) ⟨[(1, .s (.int .i64 n)), (2, .s (.int .i64 many)), (6, .ptr 0 2 0 0), (7, .ptr 1 2 0 0), (8, .ptr 2 2 0 0), (9, .s (.int .i64 w24))], [(0, some ⟨54, .agg [.s (.int .u64 0), .s (.slice none 0 0)], true⟩), (1, some ⟨54, .agg [.s (.int .u64 w9), .li .i64 w10], true⟩), (2, some ⟨54, .agg [.s (.int .u64 w9), .sl 3 1 0 w25], true⟩), (3, some ⟨3, .li .i64 w26, true⟩)], 4, none⟩ K = refSomeF_s3 w24 n many w10 w26 w25 w9 (fun (a29 : Int) (a30 : Nat) (a31 : List Int) => lpN (sub (bodyOf Try.prog 29) [1, 1, 1, 0, 1, 0, 0]) (fnX Try.prog mode2 T_refIn fuel 33 0) 4294967616 [1, 2, 6, 7, 8, 9] k ⟨[(1, .s (.int .i64 n)), (2, .s (.int .i64 many)), (6, .ptr 0 2 0 0), (7, .ptr 1 2 0 0), (8, .ptr 2 2 0 0), (9, .s (.int .i64 a29))], [(0, some ⟨54, .agg [.s (.int .u64 0), .s (.slice none 0 0)], true⟩), (1, some ⟨54, .agg [.s (.int .u64 w9), .li .i64 w10], true⟩), (2, some ⟨54, .agg [.s (.int .u64 w9), .sl 3 1 0 a30], true⟩), (3, some ⟨3, .li .i64 a31, true⟩)], 4, none⟩ K) (fun (a32 : Int) (a33 : Nat) (a34 : List Int) => lpN (sub (bodyOf Try.prog 29) [1, 1, 1, 0, 1, 0, 0]) (fnX Try.prog mode2 T_refIn fuel 33 0) 4294967616 [1, 2, 6, 7, 8, 9] k ⟨[(1, .s (.int .i64 n)), (2, .s (.int .i64 many)), (6, .ptr 0 2 0 0), (7, .ptr 1 2 0 0), (8, .ptr 2 2 0 0), (9, .s (.int .i64 a32))], [(0, some ⟨54, .agg [.s (.int .u64 0), .s (.slice none 0 0)], true⟩), (1, some ⟨54, .agg [.s (.int .u64 w9), .li .i64 w10], true⟩), (2, some ⟨54, .agg [.s (.int .u64 w9), .sl 3 1 0 a33], true⟩), (3, some ⟨3, .li .i64 a34, true⟩)], 4, none⟩ K) (fun (a35 : Nat) (a36 : List Int) => K (.exit 0) ⟨[(6, .ptr 0 2 0 0), (8, .ptr 1 2 0 0)], [(0, some ⟨54, .agg [.s (.int .u64 0), .s (.slice none 0 0)], true⟩), (1, some ⟨54, .agg [.s (.int .u64 w9), .sl 2 1 0 a35], true⟩), (2, some ⟨3, .li .i64 a36, true⟩)], 3, none⟩) := by kernel_rfl
noncomputable def refSomeF_l2 {R : Type} (fuel : Nat) (n : Int) (many : Int) (w9 : Int) (w10 : List Int) (k0 : Nat → List Int → Option R) : Nat → Int → Nat → List Int → Option R
  | 0, _, _, _ => none
  | k + 1, w24, w25, w26 =>
    (refSomeF_s3 w24 n many w10 w26 w25 w9 (fun (a29 : Int) (a30 : Nat) (a31 : List Int) => ( refSomeF_l2 fuel n many w9 w10 k0 k a29 a30 a31 )) (fun (a32 : Int) (a33 : Nat) (a34 : List Int) => ( refSomeF_l2 fuel n many w9 w10 k0 k a32 a33 a34 )) (fun (a35 : Nat) (a36 : List Int) => k0 a35 a36))
theorem refSomeF_l2_eq (fuel : Nat) (n : Int) (many : Int) (w9 : Int) (w10 : List Int) (K : Ex → St → Option Out) : ∀ (k : Nat) (w24 : Int) (w25 : Nat) (w26 : List Int), lpN (sub (bodyOf Try.prog 29) [1, 1, 1, 0, 1, 0, 0]) (fnX Try.prog mode2 T_refIn fuel 33 0) 4294967616 [1, 2, 6, 7, 8, 9] k ⟨[(1, .s (.int .i64 n)), (2, .s (.int .i64 many)), (6, .ptr 0 2 0 0), (7, .ptr 1 2 0 0), (8, .ptr 2 2 0 0), (9, .s (.int .i64 w24))], [(0, some ⟨54, .agg [.s (.int .u64 0), .s (.slice none 0 0)], true⟩), (1, some ⟨54, .agg [.s (.int .u64 w9), .li .i64 w10], true⟩), (2, some ⟨54, .agg [.s (.int .u64 w9), .sl 3 1 0 w25], true⟩), (3, some ⟨3, .li .i64 w26, true⟩)], 4, none⟩ K = refSomeF_l2 fuel n many w9 w10 (fun (y27 : Nat) (y28 : List Int) => K (.exit 0) ⟨[(6, .ptr 0 2 0 0), (8, .ptr 1 2 0 0)], [(0, some ⟨54, .agg [.s (.int .u64 0), .s (.slice none 0 0)], true⟩), (1, some ⟨54, .agg [.s (.int .u64 w9), .sl 2 1 0 y27], true⟩), (2, some ⟨3, .li .i64 y28, true⟩)], 3, none⟩) k w24 w25 w26
  | 0, _, _, _ => rfl
  | k + 1, w24, w25, w26 => by
    unfold refSomeF_l2
    exact (refSomeF_s3_eq fuel k K w24 n many w10 w26 w25 w9).trans (congr (congr (congr (Eq.refl (refSomeF_s3 (R := Out) w24 n many w10 w26 w25 w9)) (funext fun a29 => funext fun a30 => funext fun a31 => refSomeF_l2_eq fuel n many w9 w10 K k a29 a30 a31)) (funext fun a32 => funext fun a33 => funext fun a34 => refSomeF_l2_eq fuel n many w9 w10 K k a32 a33 a34)) (rfl))
noncomputable def refSomeF_s2 {R : Type} (w8 : Int) (n : Int) (many : Int) (w10 : List Int) (w9 : Int) (c0 : Int → Nat → List Int → Option R) (c1 : Int → Int → List Int → Option R) (c2 : Int → Option R) : Option R :=
  br (decide (w8 < n))
    (grd (decide (0 ≤ many) && decide (many ≤ w10.length) && decide (w10.length ≤ 1000000)) <|
    br (inS w10 many w8)
      (c0 (IntKind.i64.wrap (w8 + 1)) 1 ([w8]))
      (c1 (IntKind.i64.wrap (w8 + 1)) w9 w10))
    (c2 w9)
theorem refSomeF_s2_eq (fuel : Nat) (k : Nat) (K : Ex → St → Option Out) (w8 : Int) (n : Int) (many : Int) (w10 : List Int) (w9 : Int) : lpN (sub (bodyOf Try.prog 29) [1, 1, 1, 0, 1, 0, 0]) (fnX Try.prog mode2 T_refIn fuel 33 0) 4294967616 [1, 2, 6, 7, 8, 9] (k + 1) ⟨[(1, .s (.int .i64 n)), (2, .s (.int .i64 many)), (6, .ptr 0 2 0 0), (7, .ptr 1 2 0 0), (8, .ptr 2 2 0 0), (9, .s (.int .i64 w8))], [(0, some ⟨54, .agg [.s (.int .u64 0), .s (.slice none 0 0)], true⟩), (1, some ⟨54, .agg [.s (.int .u64 w9), .li .i64 w10], true⟩), (2, some ⟨54, .agg [.s (.int .u64 w9), .s (.slice none 0 0)], true⟩)], 3, none⟩ K = refSomeF_s2 w8 n many w10 w9 (fun (a37 : Int) (a38 : Nat) (a39 : List Int) => lpN (sub (bodyOf Try.prog 29) [1, 1, 1, 0, 1, 0, 0]) (fnX Try.prog mode2 T_refIn fuel 33 0) 4294967616 [1, 2, 6, 7, 8, 9] k ⟨[(1, .s (.int .i64 n)), (2, .s (.int .i64 many)), (6, .ptr 0 2 0 0), (7, .ptr 1 2 0 0), (8, .ptr 2 2 0 0), (9, .s (.int .i64 a37))], [(0, some ⟨54, .agg [.s (.int .u64 0), .s (.slice none 0 0)], true⟩), (1, some ⟨54, .agg [.s (.int .u64 w9), .li .i64 w10], true⟩), (2, some ⟨54, .agg [.s (.int .u64 w9), .sl 3 1 0 a38], true⟩), (3, some ⟨3, .li .i64 a39, true⟩)], 4, none⟩ K) (fun (a42 : Int) (a43 : Int) (a44 : List Int) => lpN (sub (bodyOf Try.prog 29) [1, 1, 1, 0, 1, 0, 0]) (fnX Try.prog mode2 T_refIn fuel 33 0) 4294967616 [1, 2, 6, 7, 8, 9] k ⟨[(1, .s (.int .i64 n)), (2, .s (.int .i64 many)), (6, .ptr 0 2 0 0), (7, .ptr 1 2 0 0), (8, .ptr 2 2 0 0), (9, .s (.int .i64 a42))], [(0, some ⟨54, .agg [.s (.int .u64 0), .s (.slice none 0 0)], true⟩), (1, some ⟨54, .agg [.s (.int .u64 a43), .li .i64 a44], true⟩), (2, some ⟨54, .agg [.s (.int .u64 a43), .s (.slice none 0 0)], true⟩)], 3, none⟩ K) (fun (a45 : Int) => K (.exit 0) ⟨[(6, .ptr 0 2 0 0), (8, .ptr 1 2 0 0)], [(0, some ⟨54, .agg [.s (.int .u64 0), .s (.slice none 0 0)], true⟩), (1, some ⟨54, .agg [.s (.int .u64 a45), .s (.slice none 0 0)], true⟩)], 2, none⟩) := by kernel_rfl
noncomputable def refSomeF_l1 {R : Type} (fuel : Nat) (n : Int) (many : Int) (k0 : Int → Nat → List Int → Option R) (k1 : Int → Option R) : Nat → Int → Int → List Int → Option R
  | 0, _, _, _ => none
  | k + 1, w8, w9, w10 =>
    (refSomeF_s2 w8 n many w10 w9 (fun (a37 : Int) (a38 : Nat) (a39 : List Int) => (refSomeF_l2 fuel n many w9 w10 (fun (x40 : Nat) (x41 : List Int) => k0 w9 x40 x41) k a37 a38 a39)) (fun (a42 : Int) (a43 : Int) (a44 : List Int) => ( refSomeF_l1 fuel n many k0 k1 k a42 a43 a44 )) (fun (a45 : Int) => k1 a45))
theorem refSomeF_l1_eq (fuel : Nat) (n : Int) (many : Int) (K : Ex → St → Option Out) : ∀ (k : Nat) (w8 : Int) (w9 : Int) (w10 : List Int), lpN (sub (bodyOf Try.prog 29) [1, 1, 1, 0, 1, 0, 0]) (fnX Try.prog mode2 T_refIn fuel 33 0) 4294967616 [1, 2, 6, 7, 8, 9] k ⟨[(1, .s (.int .i64 n)), (2, .s (.int .i64 many)), (6, .ptr 0 2 0 0), (7, .ptr 1 2 0 0), (8, .ptr 2 2 0 0), (9, .s (.int .i64 w8))], [(0, some ⟨54, .agg [.s (.int .u64 0), .s (.slice none 0 0)], true⟩), (1, some ⟨54, .agg [.s (.int .u64 w9), .li .i64 w10], true⟩), (2, some ⟨54, .agg [.s (.int .u64 w9), .s (.slice none 0 0)], true⟩)], 3, none⟩ K = refSomeF_l1 fuel n many (fun (y18 : Int) (y19 : Nat) (y20 : List Int) => K (.exit 0) ⟨[(6, .ptr 0 2 0 0), (8, .ptr 1 2 0 0)], [(0, some ⟨54, .agg [.s (.int .u64 0), .s (.slice none 0 0)], true⟩), (1, some ⟨54, .agg [.s (.int .u64 y18), .sl 2 1 0 y19], true⟩), (2, some ⟨3, .li .i64 y20, true⟩)], 3, none⟩) (fun (y21 : Int) => K (.exit 0) ⟨[(6, .ptr 0 2 0 0), (8, .ptr 1 2 0 0)], [(0, some ⟨54, .agg [.s (.int .u64 0), .s (.slice none 0 0)], true⟩), (1, some ⟨54, .agg [.s (.int .u64 y21), .s (.slice none 0 0)], true⟩)], 2, none⟩) k w8 w9 w10
  | 0, _, _, _ => rfl
  | k + 1, w8, w9, w10 => by
    unfold refSomeF_l1
    exact (refSomeF_s2_eq fuel k K w8 n many w10 w9).trans (congr (congr (congr (Eq.refl (refSomeF_s2 (R := Out) w8 n many w10 w9)) (funext fun a37 => funext fun a38 => funext fun a39 => refSomeF_l2_eq fuel n many w9 w10 K k a37 a38 a39)) (funext fun a42 => funext fun a43 => funext fun a44 => refSomeF_l1_eq fuel n many K k a42 a43 a44)) (rfl))
noncomputable def refSomeF_s4 {R : Type} (x49 : Int) (x51 : List Int) (x50 : Nat) (c0 : Int → List Int → Option R) : Option R :=
  c0 x49 ((x51.drop 0).take x50)
theorem refSomeF_s4_eq (fuel : Nat)  (x49 : Int) (x51 : List Int) (x50 : Nat) : (kont (fnX Try.prog mode2 T_refIn fuel 33 0) (bodyOf Try.prog 29) [1, 1, 1, 0, 1, 0] 64 (endK Try.prog 0 0 29)) (.exit 0) ⟨[(6, .ptr 0 2 0 0), (8, .ptr 1 2 0 0)], [(0, some ⟨54, .agg [.s (.int .u64 0), .s (.slice none 0 0)], true⟩), (1, some ⟨54, .agg [.s (.int .u64 x49), .sl 2 1 0 x50], true⟩), (2, some ⟨3, .li .i64 x51, true⟩)], 3, none⟩ = refSomeF_s4 x49 x51 x50 (fun (a52 : Int) (a53 : List Int) => some (.agg [.s (.int .u64 a52), .li .i64 a53], [])) := by kernel_rfl
noncomputable def refSomeF_s5 {R : Type} (x54 : Int) (c0 : Int → Option R) : Option R :=
  c0 x54
theorem refSomeF_s5_eq (fuel : Nat)  (x54 : Int) : (kont (fnX Try.prog mode2 T_refIn fuel 33 0) (bodyOf Try.prog 29) [1, 1, 1, 0, 1, 0] 64 (endK Try.prog 0 0 29)) (.exit 0) ⟨[(6, .ptr 0 2 0 0), (8, .ptr 1 2 0 0)], [(0, some ⟨54, .agg [.s (.int .u64 0), .s (.slice none 0 0)], true⟩), (1, some ⟨54, .agg [.s (.int .u64 x54), .s (.slice none 0 0)], true⟩)], 2, none⟩ = refSomeF_s5 x54 (fun (a55 : Int) => some (.agg [.s (.int .u64 a55), .s (.slice none 0 0)], [])) := by kernel_rfl
noncomputable def refSomeF_s1 {R : Type} (s : Int) (n : Int) (many : Int) (c0 : Int → Int → List Int → Option R) : Option R :=
  grd (decide (0 ≤ s) && decide (s < 18446744073709551616) && decide (1 ≤ n) && decide (n ≤ 512)) <|
  c0 0 ((shuffleS s n).1) ((shuffleS s n).2)
theorem refSomeF_s1_eq (fuel : Nat)  (s : Int) (n : Int) (many : Int) : callN Try.prog mode2 T_refIn fuel 29 [.s (.int .u64 s), .s (.int .i64 n), .s (.int .i64 many)] [] = refSomeF_s1 s n many (fun (a46 : Int) (a47 : Int) (a48 : List Int) => lpN (sub (bodyOf Try.prog 29) [1, 1, 1, 0, 1, 0, 0]) (fnX Try.prog mode2 T_refIn fuel 33 0) 4294967616 [1, 2, 6, 7, 8, 9] fuel ⟨[(1, .s (.int .i64 n)), (2, .s (.int .i64 many)), (6, .ptr 0 2 0 0), (7, .ptr 1 2 0 0), (8, .ptr 2 2 0 0), (9, .s (.int .i64 a46))], [(0, some ⟨54, .agg [.s (.int .u64 0), .s (.slice none 0 0)], true⟩), (1, some ⟨54, .agg [.s (.int .u64 a47), .li .i64 a48], true⟩), (2, some ⟨54, .agg [.s (.int .u64 a47), .s (.slice none 0 0)], true⟩)], 3, none⟩ (kont (fnX Try.prog mode2 T_refIn fuel 33 0) (bodyOf Try.prog 29) [1, 1, 1, 0, 1, 0] 64 (endK Try.prog 0 0 29))) := by kernel_rfl
noncomputable def refSomeF {R : Type} (fuel : Nat) (s : Int) (n : Int) (many : Int) (r0 : Int → List Int → Option R) (r1 : Int → Option R) : Option R :=
  (refSomeF_s1 s n many (fun (a46 : Int) (a47 : Int) (a48 : List Int) => (refSomeF_l1 fuel n many (fun (x49 : Int) (x50 : Nat) (x51 : List Int) => (refSomeF_s4 x49 x51 x50 (fun (a52 : Int) (a53 : List Int) => r0 a52 a53))) (fun (x54 : Int) => (refSomeF_s5 x54 (fun (a55 : Int) => r1 a55))) fuel a46 a47 a48)))
theorem refSomeF_eq (fuel : Nat) (s : Int) (n : Int) (many : Int) : callN Try.prog mode2 T_refIn fuel 29 [.s (.int .u64 s), .s (.int .i64 n), .s (.int .i64 many)] [] = refSomeF fuel s n many (fun (z0 : Int) (z1 : List Int) => some (.agg [.s (.int .u64 z0), .li .i64 z1], [])) (fun (z0 : Int) => some (.agg [.s (.int .u64 z0), .s (.slice none 0 0)], [])) := by
  unfold refSomeF
  exact (refSomeF_s1_eq fuel  s n many).trans (congr (Eq.refl (refSomeF_s1 (R := Out) s n many)) (funext fun a46 => funext fun a47 => funext fun a48 => (refSomeF_l1_eq fuel n many (kont (fnX Try.prog mode2 T_refIn fuel 33 0) (bodyOf Try.prog 29) [1, 1, 1, 0, 1, 0] 64 (endK Try.prog 0 0 29)) fuel a46 a47 a48).trans (congrFun (congrFun (congrFun (congrFun (congr (congr (Eq.refl (refSomeF_l1 (R := Out) fuel n many)) (funext fun x49 => funext fun x50 => funext fun x51 => (refSomeF_s4_eq fuel  x49 x51 x50))) (funext fun x54 => (refSomeF_s5_eq fuel  x54))) fuel) a46) a47) a48)))
theorem refSome_more {R : Type} (fuel : Nat) (n many w9 : Int) (w10 : List Int) (hn : n ≤ 512) (h0 : 0 ≤ many) (h1 : many ≤ w10.length) (hl : w10.length ≤ 1000000) (k0 : Nat → List Int → Option R) : ∀ (k j : Nat) (acc : List Int), (j : Int) ≤ n → n < (j : Int) + k → acc.length ≤ j → refSomeF_l2 fuel n many w9 w10 k0 k (j : Int) acc.length acc = k0 (acc ++ pickS (inS w10 many) (n.toNat - j) (j : Int)).length (acc ++ pickS (inS w10 many) (n.toNat - j) (j : Int))
  | 0, j, acc, h2, h3, h4 => by omega
  | k + 1, j, acc, h2, h3, h4 => by
    unfold refSomeF_l2 refSomeF_s3
    rw [br_if]
    by_cases hc : (j : Int) < n
    · rw [if_pos (by simpa using hc), grd_of (by simp; omega), br_if, wrap_i64 (by omega) (by omega), show (j : Int) + 1 = ((j + 1 : Nat) : Int) by omega, show n.toNat - j = (n.toNat - (j + 1)) + 1 by omega, pickS]
      by_cases hp : inS w10 many (j : Int) = true
      · rw [if_pos hp, if_pos hp, grd_of (beq_self _), grd_of (okN_of (by omega) (by omega))]
        dsimp only
        rw [refSome_more fuel n many w9 w10 hn h0 h1 hl k0 k (j + 1) (acc ++ [(j : Int)]) (by omega) (by omega) (by simp; omega), List.append_assoc]
        rfl
      · rw [if_neg hp, if_neg hp]
        exact refSome_more fuel n many w9 w10 hn h0 h1 hl k0 k (j + 1) acc (by omega) (by omega) (by omega)
    · rw [if_neg (by simpa using hc), show n.toNat - j = 0 by omega]
      simp [pickS]
theorem refSome_first {R : Type} (fuel : Nat) (n many w9 : Int) (w10 : List Int) (hn : n ≤ 512) (h0 : 0 ≤ many) (h1 : many ≤ w10.length) (hl : w10.length ≤ 1000000) (k0 : Int → Nat → List Int → Option R) (k1 : Int → Option R) : ∀ (k j : Nat), (j : Int) ≤ n → n < (j : Int) + k →
    refSomeF_l1 fuel n many k0 k1 k (j : Int) w9 w10 = if pickS (inS w10 many) (n.toNat - j) (j : Int) = [] then k1 w9 else k0 w9 (pickS (inS w10 many) (n.toNat - j) (j : Int)).length (pickS (inS w10 many) (n.toNat - j) (j : Int))
  | 0, j, h2, h3 => by omega
  | k + 1, j, h2, h3 => by
    unfold refSomeF_l1 refSomeF_s2
    rw [br_if]
    by_cases hc : (j : Int) < n
    · rw [if_pos (by simpa using hc), grd_of (by simp; omega), br_if, wrap_i64 (by omega) (by omega), show (j : Int) + 1 = ((j + 1 : Nat) : Int) by omega, show n.toNat - j = (n.toNat - (j + 1)) + 1 by omega, pickS]
      by_cases hp : inS w10 many (j : Int) = true
      · rw [if_pos hp, if_pos hp, if_neg (by simp)]
        by_cases hj : (j : Int) + 1 ≤ n ∧ n < (j : Int) + 1 + k
        · exact refSome_more fuel n many w9 w10 hn h0 h1 hl (k0 w9) k (j + 1) [(j : Int)] (by omega) (by omega) (by simp)
        · omega
      · rw [if_neg hp, if_neg hp]
        exact refSome_first fuel n many w9 w10 hn h0 h1 hl k0 k1 k (j + 1) (by omega) (by omega)
    · rw [if_neg (by simpa using hc), show n.toNat - j = 0 by omega]
      simp [pickS]
theorem refSome_fact (s : Int) (n : Int) (many : Int) (hg : ((decide (0 ≤ s) && decide (s < 18446744073709551616) && decide (1 ≤ n) && decide (n ≤ 512)) && decide (0 ≤ many) && decide (many ≤ n)) = true) : Fact Try.prog noG 29 [.s (.int .u64 s), .s (.int .i64 n), .s (.int .i64 many)] [] (.agg [.s (.int .u64 ((shuffleS s n).1)), .li .i64 (someS s n many)], []) := by
  simp only [Bool.and_eq_true, decide_eq_true_eq] at hg
  obtain ⟨⟨⟨⟨⟨h0, h1⟩, hn⟩, hn2⟩, h2⟩, h3⟩ := hg
  have hl := shuffle_len s n
  have hf := fun (k0 : Int → Nat → List Int → Option Out) (k1 : Int → Option Out) => refSome_first 514 n many (shuffleS s n).1 (shuffleS s n).2 hn2 h2 (by omega) (by omega) k0 k1 514 0 (by omega) (by omega)
  rw [Nat.sub_zero, show ((0 : Nat) : Int) = 0 from rfl, ← some_pick h0 h1 hn hn2] at hf
  cases hs : someS s n many with
  | nil =>
    refine Fact.out (v := .agg [.s (.int .u64 (shuffleS s n).1), .s (.slice none 0 0)]) (bs' := []) ?_ (fun _ _ _ x h => RV_agg_two (fun _ h => RVs_two (fun _ h => h) (fun _ h => RVs_two (fun _ h => RV_nil_li h) (fun _ h => h) h) h) h)
    refine callN_fact hN hM T_refIn_ok (n := 514) (mode := mode2) ?_
    rw [refSomeF_eq]
    unfold refSomeF refSomeF_s1
    rw [grd_of (by simp; omega)]
    dsimp only
    rw [hf, hs]
    rfl
  | cons x l =>
    refine callN_fact hN hM T_refIn_ok (n := 514) (mode := mode2) ?_
    rw [refSomeF_eq]
    unfold refSomeF refSomeF_s1
    rw [grd_of (by simp; omega)]
    dsimp only
    rw [hf, hs, if_neg (by simp)]
    unfold refSomeF_s4
    rw [List.drop_zero, List.take_length]
noncomputable def refSome_ent : List V → List Blk → Option (Bool × Out)
  | [.s (.int .u64 s), .s (.int .i64 n), .s (.int .i64 many)], [] => some (((decide (0 ≤ s) && decide (s < 18446744073709551616) && decide (1 ≤ n) && decide (n ≤ 512)) && decide (0 ≤ many) && decide (many ≤ n)), (.agg [.s (.int .u64 ((shuffleS s n).1)), .li .i64 (someS s n many)], []))
  | _, _ => none
theorem refSome_ok : ∀ args bs out, refSome_ent args bs = some (true, out) → Fact Try.prog noG 29 args bs out := by
  intro args bs out h
  unfold refSome_ent at h
  split at h
  · rename_i s n many
    simp only [Option.some.injEq, Prod.mk.injEq] at h
    obtain ⟨hg, rfl⟩ := h
    exact refSome_fact s n many hg
  · cases h
noncomputable def T_refSome : Tbl := Tbl.cons 29 refSome_ent T_refIn
theorem T_refSome_ok : CallOk Try.prog noG T_refSome := cons_ok T_refIn_ok refSome_ok
/-! downpour/downpourref01.Numbers -/
noncomputable def refNumbersF_s2 {R : Type} (w6 : Int) (w5 : Int) (a : List Int) (b : List Int) (c0 : Option R) (c1 : Int → Int → Option R) (c2 : Option R) : Option R :=
  br (decide (w6 < w5))
    (bnd (ix a w6) fun e9 =>
    bnd (ix b w6) fun e10 =>
    br (e9 != e10)
      (c0)
      (c1 w5 (IntKind.i64.wrap (w6 + 1))))
    (c2)
theorem refNumbersF_s2_eq (fuel : Nat) (k : Nat) (K : Ex → St → Option Out) (w6 : Int) (w5 : Int) (a : List Int) (b : List Int) : lpN (sub (bodyOf Try.prog 28) [1, 1, 0, 1, 0, 0]) (fnX Try.prog mode2 T_refSome fuel 26 0) 16 [0, 1, 4, 12, 13] (k + 1) ⟨[(0, .li .i64 a), (1, .li .i64 b), (4, .s (.bool false)), (12, .s (.int .i64 w5)), (13, .s (.int .i64 w6))], [], 0, none⟩ K = refNumbersF_s2 w6 w5 a b (K .ret ⟨[(4, .s (.bool false))], [], 0, none⟩) (fun (a11 : Int) (a12 : Int) => lpN (sub (bodyOf Try.prog 28) [1, 1, 0, 1, 0, 0]) (fnX Try.prog mode2 T_refSome fuel 26 0) 16 [0, 1, 4, 12, 13] k ⟨[(0, .li .i64 a), (1, .li .i64 b), (4, .s (.bool false)), (12, .s (.int .i64 a11)), (13, .s (.int .i64 a12))], [], 0, none⟩ K) (K (.exit 0) ⟨[(4, .s (.bool false))], [], 0, none⟩) := by kernel_rfl
noncomputable def refNumbersF_l1 {R : Type} (fuel : Nat) (a : List Int) (b : List Int) (k0 : Option R) (k1 : Option R) : Nat → Int → Int → Option R
  | 0, _, _ => none
  | k + 1, w5, w6 =>
    (refNumbersF_s2 w6 w5 a b (k0) (fun (a11 : Int) (a12 : Int) => ( refNumbersF_l1 fuel a b k0 k1 k a11 a12 )) (k1))
theorem refNumbersF_l1_eq (fuel : Nat) (a : List Int) (b : List Int) (K : Ex → St → Option Out) : ∀ (k : Nat) (w5 : Int) (w6 : Int), lpN (sub (bodyOf Try.prog 28) [1, 1, 0, 1, 0, 0]) (fnX Try.prog mode2 T_refSome fuel 26 0) 16 [0, 1, 4, 12, 13] k ⟨[(0, .li .i64 a), (1, .li .i64 b), (4, .s (.bool false)), (12, .s (.int .i64 w5)), (13, .s (.int .i64 w6))], [], 0, none⟩ K = refNumbersF_l1 fuel a b (K .ret ⟨[(4, .s (.bool false))], [], 0, none⟩) (K (.exit 0) ⟨[(4, .s (.bool false))], [], 0, none⟩) k w5 w6
  | 0, _, _ => rfl
  | k + 1, w5, w6 => by
    unfold refNumbersF_l1
    exact (refNumbersF_s2_eq fuel k K w6 w5 a b).trans (congr (congr (congr (Eq.refl (refNumbersF_s2 (R := Out) w6 w5 a b)) (rfl)) (funext fun a11 => funext fun a12 => refNumbersF_l1_eq fuel a b K k a11 a12)) (rfl))
noncomputable def refNumbersF_s3 {R : Type}  (c0 : Bool → Option R) : Option R :=
  c0 false
theorem refNumbersF_s3_eq (fuel : Nat)   : (kont (fnX Try.prog mode2 T_refSome fuel 26 0) (bodyOf Try.prog 28) [1, 1, 0, 1, 0] 16 (endK Try.prog 0 0 28)) .ret ⟨[(4, .s (.bool false))], [], 0, none⟩ = refNumbersF_s3  (fun (a15 : Bool) => some (.s (.bool a15), [])) := by kernel_rfl
noncomputable def refNumbersF_s4 {R : Type}  (c0 : Bool → Option R) : Option R :=
  c0 true
theorem refNumbersF_s4_eq (fuel : Nat)   : (kont (fnX Try.prog mode2 T_refSome fuel 26 0) (bodyOf Try.prog 28) [1, 1, 0, 1, 0] 16 (endK Try.prog 0 0 28)) (.exit 0) ⟨[(4, .s (.bool false))], [], 0, none⟩ = refNumbersF_s4  (fun (a16 : Bool) => some (.s (.bool a16), [])) := by kernel_rfl
noncomputable def refNumbersF_s1 {R : Type} (a : List Int) (b : List Int) (c0 : Bool → Option R) (c1 : Int → Int → Option R) : Option R :=
  br ((((a.length : Nat) : Int) : Int) != ((b.length : Nat) : Int))
    (c0 false)
    (c1 ((a.length : Nat) : Int) 0)
theorem refNumbersF_s1_eq (fuel : Nat)  (a : List Int) (b : List Int) : callN Try.prog mode2 T_refSome fuel 28 [.li .i64 a, .li .i64 b] [] = refNumbersF_s1 a b (fun (a1 : Bool) => some (.s (.bool a1), [])) (fun (a13 : Int) (a14 : Int) => lpN (sub (bodyOf Try.prog 28) [1, 1, 0, 1, 0, 0]) (fnX Try.prog mode2 T_refSome fuel 26 0) 16 [0, 1, 4, 12, 13] fuel ⟨[(0, .li .i64 a), (1, .li .i64 b), (4, .s (.bool false)), (12, .s (.int .i64 a13)), (13, .s (.int .i64 a14))], [], 0, none⟩ (kont (fnX Try.prog mode2 T_refSome fuel 26 0) (bodyOf Try.prog 28) [1, 1, 0, 1, 0] 16 (endK Try.prog 0 0 28))) := by kernel_rfl
noncomputable def refNumbersF {R : Type} (fuel : Nat) (a : List Int) (b : List Int) (r0 : Bool → Option R) : Option R :=
  (refNumbersF_s1 a b (fun (a1 : Bool) => r0 a1) (fun (a13 : Int) (a14 : Int) => (refNumbersF_l1 fuel a b ((refNumbersF_s3 (fun (a15 : Bool) => r0 a15))) ((refNumbersF_s4 (fun (a16 : Bool) => r0 a16))) fuel a13 a14)))
theorem refNumbersF_eq (fuel : Nat) (a : List Int) (b : List Int) : callN Try.prog mode2 T_refSome fuel 28 [.li .i64 a, .li .i64 b] [] = refNumbersF fuel a b (fun (z0 : Bool) => some (.s (.bool z0), [])) := by
  unfold refNumbersF
  exact (refNumbersF_s1_eq fuel  a b).trans (congr (congr (Eq.refl (refNumbersF_s1 (R := Out) a b)) (rfl)) (funext fun a13 => funext fun a14 => (refNumbersF_l1_eq fuel a b (kont (fnX Try.prog mode2 T_refSome fuel 26 0) (bodyOf Try.prog 28) [1, 1, 0, 1, 0] 16 (endK Try.prog 0 0 28)) fuel a13 a14).trans (congrFun (congrFun (congrFun (congr (congr (Eq.refl (refNumbersF_l1 (R := Out) fuel a b)) ((refNumbersF_s3_eq fuel  ))) ((refNumbersF_s4_eq fuel  ))) fuel) a13) a14)))
theorem refNumbers_loop {R : Type} (fuel : Nat) (a b : List Int) (hab : a.length = b.length) (hx : a.length ≤ 1000000) (k0 k1 : Option R) : ∀ (k j : Nat), j ≤ a.length → a.length < j + k → refNumbersF_l1 fuel a b k0 k1 k (a.length : Int) (j : Int) = if a.drop j = b.drop j then k1 else k0
  | 0, j, h1, h2 => by omega
  | k + 1, j, h1, h2 => by
    unfold refNumbersF_l1 refNumbersF_s2
    rw [br_if]
    by_cases hc : j < a.length
    · have hc2 : j < b.length := by omega
      rw [if_pos (by simpa using hc), bnd_of ((ix_nat a j).trans (List.getElem?_eq_getElem hc)), bnd_of ((ix_nat b j).trans (List.getElem?_eq_getElem hc2)), br_if, List.drop_eq_getElem_cons hc, List.drop_eq_getElem_cons hc2, wrap_i64 (by omega) (by omega), show (j : Int) + 1 = ((j + 1 : Nat) : Int) by omega]
      dsimp only
      rw [refNumbers_loop fuel a b hab hx k0 k1 k (j + 1) (by omega) (by omega)]
      generalize a[j] = x
      generalize b[j] = y
      generalize a.drop (j + 1) = t
      generalize b.drop (j + 1) = u
      by_cases he : x = y <;> simp [he]
    · rw [if_neg (by simpa using hc), List.drop_eq_nil_of_le (by omega), List.drop_eq_nil_of_le (by omega)]
      simp
theorem refNumbers_fact (a : List Int) (b : List Int) (hg : (decide (a.length ≤ 1000000)) = true) : Fact Try.prog noG 28 [.li .i64 a, .li .i64 b] [] (.s (.bool (eqS_li a b)), []) := by
  have hg := of_decide_eq_true hg
  refine callN_fact hN hM T_refSome_ok (n := a.length + 1) (mode := mode2) ?_
  rw [refNumbersF_eq]
  unfold refNumbersF refNumbersF_s1
  rw [br_if]
  by_cases hab : a.length = b.length
  · rw [if_neg (by simp; omega)]
    dsimp only
    have := refNumbers_loop (R := Out) (a.length + 1) a b hab hg
    rw [show (0 : Int) = ((0 : Nat) : Int) from rfl, this _ _ _ _ (by omega) (by omega), List.drop_zero, List.drop_zero, eqS_li_eq]
    unfold eqI_li refNumbersF_s3 refNumbersF_s4
    by_cases h : a = b <;> simp [h]
  · rw [if_pos (by simp; omega), eqS_li_eq]
    unfold eqI_li
    have : a ≠ b := by rintro rfl; exact hab rfl
    simp [this]
noncomputable def refNumbers_ent : List V → List Blk → Option (Bool × Out)
  | [w0, w1], [] => (asSl (.int .i64) w0).bind fun a => (asSl (.int .i64) w1).bind fun b => some ((decide (a.length ≤ 1000000)), (.s (.bool (eqS_li a b)), []))
  | _, _ => none
theorem refNumbers_ok : ∀ args bs out, refNumbers_ent args bs = some (true, out) → Fact Try.prog noG 28 args bs out := by
  intro args bs out h
  unfold refNumbers_ent at h
  split at h
  · rename_i w0 w1
    obtain ⟨a, h_a, h⟩ := Option.bind_eq_some_iff.1 h
    obtain ⟨b, h_b, h⟩ := Option.bind_eq_some_iff.1 h
    simp only [Option.some.injEq, Prod.mk.injEq] at h
    obtain ⟨hg, rfl⟩ := h
    exact (refNumbers_fact a b hg).args (fun _ _ _ => fun _ h => RVs_two (fun _ h => RV_li h_a h) (fun _ h => RVs_two (fun _ h => RV_li h_b h) (fun _ h => h) h) h)
  · cases h
noncomputable def T_refNumbers : Tbl := Tbl.cons 28 refNumbers_ent T_refSome
theorem T_refNumbers_ok : CallOk Try.prog noG T_refNumbers := cons_ok T_refSome_ok refNumbers_ok
/-! downpour/downpourlaw06.RandomOrders -/
noncomputable def lawOrdersF_s1 {R : Type} (s : Int) (n : Int) (many : Int) (c0 : Bool → Option R) : Option R :=
  grd (decide (0 ≤ s) && decide (s < 18446744073709551616)) <|
  grd (decide (0 ≤ s) && decide (s < 18446744073709551616)) <|
  br (decide (n < 1))
    (br (((if sizedS n = true then 0 else 2) : Int) == 2)
      (br (((if someOk n many = true then 0 else 2) : Int) == 2)
        (br (((if sizedS n = true then (shuffleS s n).1 else 0) : Int) == 0)
          (br (((if someOk n many = true then (shuffleS s n).1 else 0) : Int) == 0)
            (c0 ((IntKind.i64.wrap ((((if sizedS n = true then (shuffleS s n).2 else []).length : Nat) : Int) + (((if someOk n many = true then someS s n many else []).length : Nat) : Int))) == 0))
            (c0 false))
          (c0 false))
        (c0 false))
      (c0 false))
    (br (decide (n > 512))
      (br (((if sizedS n = true then 0 else 2) : Int) == 2)
        (br (((if someOk n many = true then 0 else 2) : Int) == 2)
          (br (((if sizedS n = true then (shuffleS s n).1 else 0) : Int) == 0)
            (br (((if someOk n many = true then (shuffleS s n).1 else 0) : Int) == 0)
              (c0 ((IntKind.i64.wrap ((((if sizedS n = true then (shuffleS s n).2 else []).length : Nat) : Int) + (((if someOk n many = true then someS s n many else []).length : Nat) : Int))) == 0))
              (c0 false))
            (c0 false))
          (c0 false))
        (c0 false))
      (grd (decide (0 ≤ s) && decide (s < 18446744073709551616) && decide (1 ≤ n) && decide (n ≤ 512)) <|
      br (((if sizedS n = true then 0 else 2) : Int) != 0)
        (c0 false)
        (br (((if sizedS n = true then (shuffleS s n).1 else 0) : Int) != (shuffleS s n).1)
          (c0 false)
          (grd (decide ((if sizedS n = true then (shuffleS s n).2 else []).length ≤ 1000000)) <|
          br (!(eqS_li (if sizedS n = true then (shuffleS s n).2 else []) ((shuffleS s n).2)))
            (c0 false)
            (br (decide (many < 0))
              (br (((if someOk n many = true then 0 else 2) : Int) == 2)
                (br (((if someOk n many = true then (shuffleS s n).1 else 0) : Int) == 0)
                  (c0 (((((if someOk n many = true then someS s n many else []).length : Nat) : Int) : Int) == 0))
                  (c0 false))
                (c0 false))
              (br (decide (many > n))
                (br (((if someOk n many = true then 0 else 2) : Int) == 2)
                  (br (((if someOk n many = true then (shuffleS s n).1 else 0) : Int) == 0)
                    (c0 (((((if someOk n many = true then someS s n many else []).length : Nat) : Int) : Int) == 0))
                    (c0 false))
                  (c0 false))
                (grd ((decide (0 ≤ s) && decide (s < 18446744073709551616) && decide (1 ≤ n) && decide (n ≤ 512)) && decide (0 ≤ many) && decide (many ≤ n)) <|
                br (((if someOk n many = true then 0 else 2) : Int) == 0)
                  (br (((if someOk n many = true then (shuffleS s n).1 else 0) : Int) == (shuffleS s n).1)
                    (grd (decide ((if someOk n many = true then someS s n many else []).length ≤ 1000000)) <|
                    c0 (eqS_li (if someOk n many = true then someS s n many else []) (someS s n many)))
                    (c0 false))
                  (c0 false))))))))
theorem lawOrdersF_s1_eq (fuel : Nat)  (s : Int) (n : Int) (many : Int) : callN Try.prog mode2 T_refNumbers fuel 5 [.s (.int .u64 s), .s (.int .i64 n), .s (.int .i64 many)] [] = lawOrdersF_s1 s n many (fun (a1 : Bool) => some (.s (.bool a1), [])) := by kernel_rfl
noncomputable def lawOrdersF {R : Type} (fuel : Nat) (s : Int) (n : Int) (many : Int) (r0 : Bool → Option R) : Option R :=
  (lawOrdersF_s1 s n many (fun (a1 : Bool) => r0 a1))
theorem lawOrdersF_eq (fuel : Nat) (s : Int) (n : Int) (many : Int) : callN Try.prog mode2 T_refNumbers fuel 5 [.s (.int .u64 s), .s (.int .i64 n), .s (.int .i64 many)] [] = lawOrdersF fuel s n many (fun (z0 : Bool) => some (.s (.bool z0), [])) := by
  unfold lawOrdersF
  exact (lawOrdersF_s1_eq fuel  s n many)
theorem lawOrders_fact (s : Int) (n : Int) (many : Int) (hg : (decide (0 ≤ s) && decide (s < 18446744073709551616)) = true) : Fact Try.prog noG 5 [.s (.int .u64 s), .s (.int .i64 n), .s (.int .i64 many)] [] (.s (.bool true), []) := by
  refine callN_fact hN hM T_refNumbers_ok (n := 0) (mode := mode2) ?_
  rw [lawOrdersF_eq]
  unfold lawOrdersF lawOrdersF_s1
  rw [grd_of hg, grd_of hg]
  simp only [br_if]
  by_cases h1 : n < 1
  · have hz : sizedS n = false := by unfold sizedS; simp; omega
    have hs : someOk n many = false := by unfold someOk; rw [hz]; rfl
    have hw : IntKind.i64.wrap 0 = 0 := by decide
    simp [h1, hz, hs, hw]
  · by_cases h2 : n > 512
    · have hz : sizedS n = false := by unfold sizedS; simp; omega
      have hs : someOk n many = false := by unfold someOk; rw [hz]; rfl
      have hw : IntKind.i64.wrap 0 = 0 := by decide
      simp [h1, h2, hz, hs, hw]
    · have hz : sizedS n = true := by unfold sizedS; simp; omega
      simp only [Bool.and_eq_true, decide_eq_true_eq] at hg
      have hl := shuffle_len s n
      have hl2 : (shuffleS s n).2.length ≤ 1000000 := by omega
      have hg2 : (decide (0 ≤ s) && decide (s < 18446744073709551616) && decide (1 ≤ n) && decide (n ≤ 512)) = true := by simp; omega
      by_cases h3 : many < 0
      · have hs : someOk n many = false := by unfold someOk; simp; omega
        simp [h1, h2, hz, hs, h3, grd_of hg2, grd_of (decide_eq_true hl2), eqS_li_self]
      · by_cases h4 : many > n
        · have hs : someOk n many = false := by unfold someOk; simp; omega
          simp [h1, h2, hz, hs, h3, h4, grd_of hg2, grd_of (decide_eq_true hl2), eqS_li_self]
        · have hs : someOk n many = true := by unfold someOk; rw [hz]; simp; omega
          have hg3 : ((decide (0 ≤ s) && decide (s < 18446744073709551616) && decide (1 ≤ n) && decide (n ≤ 512)) && decide (0 ≤ many) && decide (many ≤ n)) = true := by rw [hg2]; simp; omega
          have hl3 : (someS s n many).length ≤ 1000000 := by rw [some_len (by omega) (by omega)]; omega
          simp only [h1, h2, hz, hs, h3, h4, grd_of hg2, grd_of hg3, eqS_li_self, if_true, decide_true, decide_false, bne_self_eq_false, beq_self_eq_true, grd_of (decide_eq_true hl2), grd_of (decide_eq_true hl3), Bool.not_true, Bool.false_eq_true, if_false]
noncomputable def lawOrders_ent : List V → List Blk → Option (Bool × Out)
  | [.s (.int .u64 s), .s (.int .i64 n), .s (.int .i64 many)], [] => some ((decide (0 ≤ s) && decide (s < 18446744073709551616)), (.s (.bool true), []))
  | _, _ => none
theorem lawOrders_ok : ∀ args bs out, lawOrders_ent args bs = some (true, out) → Fact Try.prog noG 5 args bs out := by
  intro args bs out h
  unfold lawOrders_ent at h
  split at h
  · rename_i s n many
    simp only [Option.some.injEq, Prod.mk.injEq] at h
    obtain ⟨hg, rfl⟩ := h
    exact lawOrders_fact s n many hg
  · cases h
noncomputable def T_lawOrders : Tbl := Tbl.cons 5 lawOrders_ent T_refNumbers
theorem T_lawOrders_ok : CallOk Try.prog noG T_lawOrders := cons_ok T_refNumbers_ok lawOrders_ok
end Go.Proofs.Ytkphabppgpcblaa
