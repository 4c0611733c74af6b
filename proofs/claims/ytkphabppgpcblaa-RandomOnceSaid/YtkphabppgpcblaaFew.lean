/- Some of random numbers: what each function tells. -/
import Derived.Test.YtkphabppgpcblaaPmTab
import Derived.KernelRfl
import Derived.Test.YtkphabppgpcblaaProg
import Derived.Test.YtkphabppgpcblaaOrd
set_option autoImplicit false
set_option maxRecDepth 100000
set_option maxHeartbeats 4000000
set_option linter.unusedVariables false
set_option linter.unusedSimpArgs false
namespace Go.Proofs.Ytkphabppgpcblaa
open Go Go.PM Go.Proofs Go.Shelf
/-! Where a number lies in a row; whether it is in it. -/
def placeS : List Int → Int → Int → Int
  | [], _, _ => -1
  | x :: xs, v, j => if v = x then j else placeS xs v (j + 1)
def idxI (l : List Int) (v : Int) : Int := placeS l v 0
noncomputable def idxS : List Int → Int → Int := Classical.choose (⟨idxI, rfl⟩ : ∃ f, f = idxI)
theorem idxS_eq : idxS = idxI := Classical.choose_spec (⟨idxI, rfl⟩ : ∃ f, f = idxI)
def hasI (l : List Int) (v : Int) : Bool := decide (v ∈ l)
noncomputable def hasS : List Int → Int → Bool := Classical.choose (⟨hasI, rfl⟩ : ∃ f, f = hasI)
theorem hasS_eq : hasS = hasI := Classical.choose_spec (⟨hasI, rfl⟩ : ∃ f, f = hasI)
theorem idx_has : ∀ (l : List Int) (v j : Int), 0 ≤ j → (0 ≤ placeS l v j ↔ v ∈ l)
  | [], v, j, h => by simp [placeS]
  | x :: xs, v, j, h => by
    rw [placeS]
    by_cases e : v = x
    · simp [e, h]
    · rw [if_neg e, idx_has xs v (j + 1) (by omega)]
      simp [e]
theorem tmod_two (a : Int) {b : Int} (hb : 0 < b) : -b < a.tmod b ∧ a.tmod b < b := by
  by_cases h : 0 ≤ a
  · rw [Int.tmod_eq_emod_of_nonneg h]
    have := Int.emod_nonneg a (show b ≠ 0 by omega)
    have := Int.emod_lt_of_pos a hb
    omega
  · have e : a = -(-a) := by omega
    rw [e, Int.neg_tmod, Int.tmod_eq_emod_of_nonneg (by omega)]
    have := Int.emod_nonneg (-a) (show b ≠ 0 by omega)
    have := Int.emod_lt_of_pos (-a) hb
    omega
theorem rem_two (a : Int) {b : Int} (hb : 0 < b) : ∃ v, divI .rem .i64 a b = some v ∧ -b < v ∧ v < b := ⟨_, divI_rem (by omega), tmod_two a hb⟩
theorem rem_nn {a b : Int} (ha : 0 ≤ a) (hb : 0 < b) : ∃ v, divI .rem .i64 a b = some v ∧ 0 ≤ v ∧ v < b := ⟨_, rem_pos ha hb, Int.emod_nonneg _ (by omega), Int.emod_lt_of_pos _ hb⟩
theorem iota_get (n j : Nat) (h : j < n) : (iotaS n)[j]? = some (j : Int) := by unfold iotaS; rw [List.getElem?_map, List.getElem?_range h]; rfl
theorem iota_rise (n : Nat) : (iotaS n).Pairwise (· ≤ ·) := by
  unfold iotaS
  rw [List.pairwise_map]
  exact List.pairwise_lt_range.imp fun h => Int.ofNat_le.2 (Nat.le_of_lt h)
theorem sort_all {s n : Int} (h0 : 0 ≤ s) (h1 : s < 18446744073709551616) (hn : 1 ≤ n) (hn2 : n ≤ 512) : someS s n n = iotaS n.toNat := by
  refine List.Perm.eq_of_pairwise (le := (· ≤ ·)) (fun a b _ _ h h' => by omega) (some_rise s n n) (iota_rise _) ?_
  refine (some_perm s n n).trans ?_
  rw [List.take_of_length_le (by rw [shuffle_len]; omega)]
  exact shuffle_perm h0 h1 hn hn2
theorem pre_all {s n : Int} (h0 : 0 ≤ s) (h1 : s < 18446744073709551616) (hn : 1 ≤ n) (hn2 : n ≤ 512) : sortPre (shuffleS s n).2.length (shuffleS s n).2 = iotaS n.toNat := by
  rw [← sort_all h0 h1 hn hn2, sortPre_eq, someS_eq, shuffle_len]
  unfold riseI someI
  rw [List.drop_eq_nil_of_le (by rw [shuffle_len]; omega), List.append_nil]
theorem some_sub {s n a b x : Int} (h : a ≤ b) (hx : x ∈ someS s n a) : x ∈ someS s n b := by
  rw [mem_some] at hx ⊢
  exact (List.take_subset_take_left _ (by omega)) hx
theorem some_lt {s n many : Int} (h0 : 0 ≤ s) (h1 : s < 18446744073709551616) (hn : 1 ≤ n) (hn2 : n ≤ 512) : (someS s n many).Pairwise (· < ·) := by rw [some_pick h0 h1 hn hn2]; exact pick_rise
theorem someOk_of {n many : Int} (hn : 1 ≤ n) (hn2 : n ≤ 512) (h : 0 ≤ many) (h2 : many ≤ n) : someOk n many = true := by unfold someOk sizedS; simp; omega
/-! slices.Index[[]int,int] -/
noncomputable def indexF_s2 {R : Type} (w3 : Int) (w4 : Int) (l : List Int) (v : Int) (c0 : Int → Option R) (c1 : Int → Int → Option R) (c2 : Option R) : Option R :=
  br (decide (w3 < w4))
    (bnd (ix l w3) fun e7 =>
    br (v == e7)
      (c0 w3)
      (c1 w4 (IntKind.i64.wrap (w3 + 1))))
    (c2)
theorem indexF_s2_eq (fuel : Nat) (k : Nat) (K : Ex → St → Option Out) (w3 : Int) (w4 : Int) (l : List Int) (v : Int) : lpN (sub (bodyOf Try.prog 55) [1, 0, 1, 0, 0]) (fnX Try.prog mode2 T_lawOrders fuel 19 0) 16 [0, 1, 4, 7, 8] (k + 1) ⟨[(0, .li .i64 l), (1, .s (.int .i64 v)), (4, .s (.int .i64 0)), (7, .s (.int .i64 w4)), (8, .s (.int .i64 w3))], [], 0, none⟩ K = indexF_s2 w3 w4 l v (fun (a8 : Int) => K .ret ⟨[(4, .s (.int .i64 a8))], [], 0, none⟩) (fun (a9 : Int) (a10 : Int) => lpN (sub (bodyOf Try.prog 55) [1, 0, 1, 0, 0]) (fnX Try.prog mode2 T_lawOrders fuel 19 0) 16 [0, 1, 4, 7, 8] k ⟨[(0, .li .i64 l), (1, .s (.int .i64 v)), (4, .s (.int .i64 0)), (7, .s (.int .i64 a9)), (8, .s (.int .i64 a10))], [], 0, none⟩ K) (K (.exit 0) ⟨[(4, .s (.int .i64 0))], [], 0, none⟩) := by kernel_rfl
noncomputable def indexF_l1 {R : Type} (fuel : Nat) (l : List Int) (v : Int) (k0 : Int → Option R) (k1 : Option R) : Nat → Int → Int → Option R
  | 0, _, _ => none
  | k + 1, w4, w3 =>
    (indexF_s2 w3 w4 l v (fun (a8 : Int) => k0 a8) (fun (a9 : Int) (a10 : Int) => ( indexF_l1 fuel l v k0 k1 k a9 a10 )) (k1))
theorem indexF_l1_eq (fuel : Nat) (l : List Int) (v : Int) (K : Ex → St → Option Out) : ∀ (k : Nat) (w4 : Int) (w3 : Int), lpN (sub (bodyOf Try.prog 55) [1, 0, 1, 0, 0]) (fnX Try.prog mode2 T_lawOrders fuel 19 0) 16 [0, 1, 4, 7, 8] k ⟨[(0, .li .i64 l), (1, .s (.int .i64 v)), (4, .s (.int .i64 0)), (7, .s (.int .i64 w4)), (8, .s (.int .i64 w3))], [], 0, none⟩ K = indexF_l1 fuel l v (fun (y6 : Int) => K .ret ⟨[(4, .s (.int .i64 y6))], [], 0, none⟩) (K (.exit 0) ⟨[(4, .s (.int .i64 0))], [], 0, none⟩) k w4 w3
  | 0, _, _ => rfl
  | k + 1, w4, w3 => by
    unfold indexF_l1
    exact (indexF_s2_eq fuel k K w3 w4 l v).trans (congr (congr (congr (Eq.refl (indexF_s2 (R := Out) w3 w4 l v)) (rfl)) (funext fun a9 => funext fun a10 => indexF_l1_eq fuel l v K k a9 a10)) (rfl))
noncomputable def indexF_s3 {R : Type} (x13 : Int) (c0 : Int → Option R) : Option R :=
  c0 x13
theorem indexF_s3_eq (fuel : Nat)  (x13 : Int) : (kont (fnX Try.prog mode2 T_lawOrders fuel 19 0) (bodyOf Try.prog 55) [1, 0, 1, 0] 16 (endK Try.prog 0 0 55)) .ret ⟨[(4, .s (.int .i64 x13))], [], 0, none⟩ = indexF_s3 x13 (fun (a14 : Int) => some (.s (.int .i64 a14), [])) := by kernel_rfl
noncomputable def indexF_s4 {R : Type}  (c0 : Int → Option R) : Option R :=
  c0 (-1)
theorem indexF_s4_eq (fuel : Nat)   : (kont (fnX Try.prog mode2 T_lawOrders fuel 19 0) (bodyOf Try.prog 55) [1, 0, 1, 0] 16 (endK Try.prog 0 0 55)) (.exit 0) ⟨[(4, .s (.int .i64 0))], [], 0, none⟩ = indexF_s4  (fun (a15 : Int) => some (.s (.int .i64 a15), [])) := by kernel_rfl
noncomputable def indexF_s1 {R : Type} (l : List Int) (v : Int) (c0 : Int → Int → Option R) : Option R :=
  c0 ((l.length : Nat) : Int) 0
theorem indexF_s1_eq (fuel : Nat)  (l : List Int) (v : Int) : callN Try.prog mode2 T_lawOrders fuel 55 [.li .i64 l, .s (.int .i64 v)] [] = indexF_s1 l v (fun (a11 : Int) (a12 : Int) => lpN (sub (bodyOf Try.prog 55) [1, 0, 1, 0, 0]) (fnX Try.prog mode2 T_lawOrders fuel 19 0) 16 [0, 1, 4, 7, 8] fuel ⟨[(0, .li .i64 l), (1, .s (.int .i64 v)), (4, .s (.int .i64 0)), (7, .s (.int .i64 a11)), (8, .s (.int .i64 a12))], [], 0, none⟩ (kont (fnX Try.prog mode2 T_lawOrders fuel 19 0) (bodyOf Try.prog 55) [1, 0, 1, 0] 16 (endK Try.prog 0 0 55))) := by kernel_rfl
noncomputable def indexF {R : Type} (fuel : Nat) (l : List Int) (v : Int) (r0 : Int → Option R) : Option R :=
  (indexF_s1 l v (fun (a11 : Int) (a12 : Int) => (indexF_l1 fuel l v (fun (x13 : Int) => (indexF_s3 x13 (fun (a14 : Int) => r0 a14))) ((indexF_s4 (fun (a15 : Int) => r0 a15))) fuel a11 a12)))
theorem indexF_eq (fuel : Nat) (l : List Int) (v : Int) : callN Try.prog mode2 T_lawOrders fuel 55 [.li .i64 l, .s (.int .i64 v)] [] = indexF fuel l v (fun (z0 : Int) => some (.s (.int .i64 z0), [])) := by
  unfold indexF
  exact (indexF_s1_eq fuel  l v).trans (congr (Eq.refl (indexF_s1 (R := Out) l v)) (funext fun a11 => funext fun a12 => (indexF_l1_eq fuel l v (kont (fnX Try.prog mode2 T_lawOrders fuel 19 0) (bodyOf Try.prog 55) [1, 0, 1, 0] 16 (endK Try.prog 0 0 55)) fuel a11 a12).trans (congrFun (congrFun (congrFun (congr (congr (Eq.refl (indexF_l1 (R := Out) fuel l v)) (funext fun x13 => (indexF_s3_eq fuel  x13))) ((indexF_s4_eq fuel  ))) fuel) a11) a12)))
theorem index_loop {R : Type} (fuel : Nat) (v : Int) (l : List Int) (hx : l.length ≤ 1000000) (k0 : Int → Option R) (k1 : Option R) : ∀ (k j : Nat), j ≤ l.length → l.length < j + k → indexF_l1 fuel l v k0 k1 k (l.length : Int) (j : Int) = if placeS (l.drop j) v (j : Int) = -1 then k1 else k0 (placeS (l.drop j) v (j : Int))
  | 0, j, h1, h2 => by omega
  | k + 1, j, h1, h2 => by
    unfold indexF_l1 indexF_s2
    rw [br_if]
    by_cases hc : j < l.length
    · rw [if_pos (by simpa using hc), bnd_of ((ix_nat l j).trans (List.getElem?_eq_getElem hc)), br_if, List.drop_eq_getElem_cons hc, wrap_i64 (by omega) (by omega), show (j : Int) + 1 = ((j + 1 : Nat) : Int) by omega]
      dsimp only
      rw [index_loop fuel v l hx k0 k1 k (j + 1) (by omega) (by omega), placeS]
      generalize l[j] = x
      by_cases he : v = x
      · rw [if_pos (by simpa using he), if_pos he, if_neg (by omega)]
      · rw [if_neg (by simpa using he), if_neg he]
        rfl
    · rw [if_neg (by simpa using hc), List.drop_eq_nil_of_le (by omega)]
      simp [placeS]
theorem index_fact (l : List Int) (v : Int) (hg : (decide (l.length ≤ 1000000)) = true) : Fact Try.prog noG 55 [.li .i64 l, .s (.int .i64 v)] [] (.s (.int .i64 (idxS l v)), []) := by
  have hg := of_decide_eq_true hg
  refine callN_fact hN hM T_lawOrders_ok (n := l.length + 1) (mode := mode2) ?_
  rw [indexF_eq]
  unfold indexF indexF_s1
  dsimp only
  have := index_loop (R := Out) (l.length + 1) v l hg
  rw [show (0 : Int) = ((0 : Nat) : Int) from rfl, this _ _ _ _ (by omega) (by omega), List.drop_zero, idxS_eq]
  unfold idxI indexF_s3 indexF_s4
  split
  · rename_i h; rw [show ((0 : Nat) : Int) = 0 from rfl] at h; rw [h]
  · rfl
noncomputable def index_ent : List V → List Blk → Option (Bool × Out)
  | [w0, .s (.int .i64 v)], [] => (asSl (.int .i64) w0).bind fun l => some ((decide (l.length ≤ 1000000)), (.s (.int .i64 (idxS l v)), []))
  | _, _ => none
theorem index_ok : ∀ args bs out, index_ent args bs = some (true, out) → Fact Try.prog noG 55 args bs out := by
  intro args bs out h
  unfold index_ent at h
  split at h
  · rename_i w0 v
    obtain ⟨l, h_l, h⟩ := Option.bind_eq_some_iff.1 h
    simp only [Option.some.injEq, Prod.mk.injEq] at h
    obtain ⟨hg, rfl⟩ := h
    exact (index_fact l v hg).args (fun _ _ _ => fun _ h => RVs_two (fun _ h => RV_li h_l h) (fun _ h => h) h)
  · cases h
noncomputable def T_index : Tbl := Tbl.cons 55 index_ent T_lawOrders
theorem T_index_ok : CallOk Try.prog noG T_index := cons_ok T_lawOrders_ok index_ok
/-! slices.Contains[[]int,int] -/
noncomputable def containsF_s1 {R : Type} (l : List Int) (v : Int) (c0 : Bool → Option R) : Option R :=
  grd (decide (l.length ≤ 1000000)) <|
  c0 (decide (((idxS l v) : Int) ≥ 0))
theorem containsF_s1_eq (fuel : Nat)  (l : List Int) (v : Int) : callN Try.prog mode2 T_index fuel 30 [.li .i64 l, .s (.int .i64 v)] [] = containsF_s1 l v (fun (a1 : Bool) => some (.s (.bool a1), [])) := by kernel_rfl
noncomputable def containsF {R : Type} (fuel : Nat) (l : List Int) (v : Int) (r0 : Bool → Option R) : Option R :=
  (containsF_s1 l v (fun (a1 : Bool) => r0 a1))
theorem containsF_eq (fuel : Nat) (l : List Int) (v : Int) : callN Try.prog mode2 T_index fuel 30 [.li .i64 l, .s (.int .i64 v)] [] = containsF fuel l v (fun (z0 : Bool) => some (.s (.bool z0), [])) := by
  unfold containsF
  exact (containsF_s1_eq fuel  l v)
theorem contains_fact (l : List Int) (v : Int) (hg : (decide (l.length ≤ 1000000)) = true) : Fact Try.prog noG 30 [.li .i64 l, .s (.int .i64 v)] [] (.s (.bool (hasS l v)), []) := by
  refine callN_fact hN hM T_index_ok (n := 0) (mode := mode2) ?_
  rw [containsF_eq]
  unfold containsF containsF_s1
  rw [grd_of hg, idxS_eq, hasS_eq]
  unfold idxI hasI
  have := idx_has l v 0 (by omega)
  by_cases h : v ∈ l
  · have := this.2 h; simp [h]; omega
  · have h' : ¬ 0 ≤ placeS l v 0 := fun e => h (this.1 e)
    simp [h]; omega
noncomputable def contains_ent : List V → List Blk → Option (Bool × Out)
  | [w0, .s (.int .i64 v)], [] => (asSl (.int .i64) w0).bind fun l => some ((decide (l.length ≤ 1000000)), (.s (.bool (hasS l v)), []))
  | _, _ => none
theorem contains_ok : ∀ args bs out, contains_ent args bs = some (true, out) → Fact Try.prog noG 30 args bs out := by
  intro args bs out h
  unfold contains_ent at h
  split at h
  · rename_i w0 v
    obtain ⟨l, h_l, h⟩ := Option.bind_eq_some_iff.1 h
    simp only [Option.some.injEq, Prod.mk.injEq] at h
    obtain ⟨hg, rfl⟩ := h
    exact (contains_fact l v hg).args (fun _ _ _ => fun _ h => RVs_two (fun _ h => RV_li h_l h) (fun _ h => h) h)
  · cases h
noncomputable def T_contains : Tbl := Tbl.cons 30 contains_ent T_index
theorem T_contains_ok : CallOk Try.prog noG T_contains := cons_ok T_index_ok contains_ok
/-! downpour/downpourlaw06.RandomFew -/
noncomputable def lawFewF_s2 {R : Type} (w21 : Int) (w20 : Int) (w19 : List Int) (w17 : List Int) (w18 : List Int) (v4 : Int) (c0 : List Int → List Int → Option R) (c1 : List Int → List Int → List Int → Int → Int → Option R) (c2 : List Int → List Int → Option R) : Option R :=
  br (decide (w21 < w20))
    (bnd (ix w19 w21) fun e27 =>
    br (e27 != w21)
      (c0 w17 w18)
      (c1 w17 w18 w19 w20 (IntKind.i64.wrap (w21 + 1))))
    (c2 w17 w18)
theorem lawFewF_s2_eq (fuel : Nat) (k : Nat) (K : Ex → St → Option Out) (w21 : Int) (w20 : Int) (w19 : List Int) (w17 : List Int) (w18 : List Int) (v4 : Int) : lpN (sub (bodyOf Try.prog 6) [1, 1, 1, 1, 1, 1, 1, 1, 0, 1, 0, 0]) (fnX Try.prog mode2 T_contains fuel 129 0) 680543964654442787616235092878223884356 [2, 6, 14, 17, 103, 104, 105] (k + 1) ⟨[(2, .s (.int .i64 v4)), (6, .s (.bool false)), (14, .li .i64 w17), (17, .li .i64 w18), (103, .li .i64 w19), (104, .s (.int .i64 w20)), (105, .s (.int .i64 w21))], [], 0, none⟩ K = lawFewF_s2 w21 w20 w19 w17 w18 v4 (fun (a28 : List Int) (a29 : List Int) => K .ret ⟨[(2, .s (.int .i64 v4)), (6, .s (.bool false)), (14, .li .i64 a28), (17, .li .i64 a29)], [], 0, none⟩) (fun (a30 : List Int) (a31 : List Int) (a32 : List Int) (a33 : Int) (a34 : Int) => lpN (sub (bodyOf Try.prog 6) [1, 1, 1, 1, 1, 1, 1, 1, 0, 1, 0, 0]) (fnX Try.prog mode2 T_contains fuel 129 0) 680543964654442787616235092878223884356 [2, 6, 14, 17, 103, 104, 105] k ⟨[(2, .s (.int .i64 v4)), (6, .s (.bool false)), (14, .li .i64 a30), (17, .li .i64 a31), (103, .li .i64 a32), (104, .s (.int .i64 a33)), (105, .s (.int .i64 a34))], [], 0, none⟩ K) (fun (a35 : List Int) (a36 : List Int) => K (.exit 0) ⟨[(2, .s (.int .i64 v4)), (6, .s (.bool false)), (14, .li .i64 a35), (17, .li .i64 a36)], [], 0, none⟩) := by kernel_rfl
noncomputable def lawFewF_l1 {R : Type} (fuel : Nat) (v4 : Int) (k0 : List Int → List Int → Option R) (k1 : List Int → List Int → Option R) : Nat → List Int → List Int → List Int → Int → Int → Option R
  | 0, _, _, _, _, _ => none
  | k + 1, w17, w18, w19, w20, w21 =>
    (lawFewF_s2 w21 w20 w19 w17 w18 v4 (fun (a28 : List Int) (a29 : List Int) => k0 a28 a29) (fun (a30 : List Int) (a31 : List Int) (a32 : List Int) (a33 : Int) (a34 : Int) => ( lawFewF_l1 fuel v4 k0 k1 k a30 a31 a32 a33 a34 )) (fun (a35 : List Int) (a36 : List Int) => k1 a35 a36))
theorem lawFewF_l1_eq (fuel : Nat) (v4 : Int) (K : Ex → St → Option Out) : ∀ (k : Nat) (w17 : List Int) (w18 : List Int) (w19 : List Int) (w20 : Int) (w21 : Int), lpN (sub (bodyOf Try.prog 6) [1, 1, 1, 1, 1, 1, 1, 1, 0, 1, 0, 0]) (fnX Try.prog mode2 T_contains fuel 129 0) 680543964654442787616235092878223884356 [2, 6, 14, 17, 103, 104, 105] k ⟨[(2, .s (.int .i64 v4)), (6, .s (.bool false)), (14, .li .i64 w17), (17, .li .i64 w18), (103, .li .i64 w19), (104, .s (.int .i64 w20)), (105, .s (.int .i64 w21))], [], 0, none⟩ K = lawFewF_l1 fuel v4 (fun (y23 : List Int) (y24 : List Int) => K .ret ⟨[(2, .s (.int .i64 v4)), (6, .s (.bool false)), (14, .li .i64 y23), (17, .li .i64 y24)], [], 0, none⟩) (fun (y25 : List Int) (y26 : List Int) => K (.exit 0) ⟨[(2, .s (.int .i64 v4)), (6, .s (.bool false)), (14, .li .i64 y25), (17, .li .i64 y26)], [], 0, none⟩) k w17 w18 w19 w20 w21
  | 0, _, _, _, _, _ => rfl
  | k + 1, w17, w18, w19, w20, w21 => by
    unfold lawFewF_l1
    exact (lawFewF_s2_eq fuel k K w21 w20 w19 w17 w18 v4).trans (congr (congr (congr (Eq.refl (lawFewF_s2 (R := Out) w21 w20 w19 w17 w18 v4)) (rfl)) (funext fun a30 => funext fun a31 => funext fun a32 => funext fun a33 => funext fun a34 => lawFewF_l1_eq fuel v4 K k a30 a31 a32 a33 a34)) (rfl))
noncomputable def lawFewF_s3 {R : Type} (v4 : Int) (x42 : List Int) (x43 : List Int) (c0 : Bool → Option R) : Option R :=
  c0 false
theorem lawFewF_s3_eq (fuel : Nat)  (v4 : Int) (x42 : List Int) (x43 : List Int) : (kont (fnX Try.prog mode2 T_contains fuel 129 0) (bodyOf Try.prog 6) [1, 1, 1, 1, 1, 1, 1, 1, 0, 1, 0] 64 (endK Try.prog 0 0 6)) .ret ⟨[(2, .s (.int .i64 v4)), (6, .s (.bool false)), (14, .li .i64 x42), (17, .li .i64 x43)], [], 0, none⟩ = lawFewF_s3 v4 x42 x43 (fun (a44 : Bool) => some (.s (.bool a44), [])) := by kernel_rfl
noncomputable def lawFewF_s5 {R : Type} (w50 : Int) (w49 : Int) (x45 : List Int) (x46 : List Int) (v4 : Int) (c0 : Option R) (c1 : Int → Int → Option R) (c2 : Option R) : Option R :=
  br (decide (w50 < w49))
    (bnd (ix x45 w50) fun e52 =>
    grd (decide (x46.length ≤ 1000000)) <|
    br (!(hasS x46 e52))
      (c0)
      (c1 w49 (IntKind.i64.wrap (w50 + 1))))
    (c2)
theorem lawFewF_s5_eq (fuel : Nat) (k : Nat) (K : Ex → St → Option Out) (w50 : Int) (w49 : Int) (x45 : List Int) (x46 : List Int) (v4 : Int) : lpN (sub (bodyOf Try.prog 6) [1, 1, 1, 1, 1, 1, 1, 1, 1, 0, 1, 0, 0]) (fnX Try.prog mode2 T_contains fuel 129 0) 638029437976759618993827388934565412932 [2, 6, 14, 17, 114, 115, 116] (k + 1) ⟨[(2, .s (.int .i64 v4)), (6, .s (.bool false)), (14, .li .i64 x45), (17, .li .i64 x46), (114, .li .i64 x45), (115, .s (.int .i64 w49)), (116, .s (.int .i64 w50))], [], 0, none⟩ K = lawFewF_s5 w50 w49 x45 x46 v4 (K .ret ⟨[(2, .s (.int .i64 v4)), (6, .s (.bool false)), (14, .li .i64 x45)], [], 0, none⟩) (fun (a53 : Int) (a54 : Int) => lpN (sub (bodyOf Try.prog 6) [1, 1, 1, 1, 1, 1, 1, 1, 1, 0, 1, 0, 0]) (fnX Try.prog mode2 T_contains fuel 129 0) 638029437976759618993827388934565412932 [2, 6, 14, 17, 114, 115, 116] k ⟨[(2, .s (.int .i64 v4)), (6, .s (.bool false)), (14, .li .i64 x45), (17, .li .i64 x46), (114, .li .i64 x45), (115, .s (.int .i64 a53)), (116, .s (.int .i64 a54))], [], 0, none⟩ K) (K (.exit 2) ⟨[(2, .s (.int .i64 v4)), (6, .s (.bool false)), (14, .li .i64 x45)], [], 0, none⟩) := by kernel_rfl
noncomputable def lawFewF_l2 {R : Type} (fuel : Nat) (v4 : Int) (x45 : List Int) (x46 : List Int) (k0 : Option R) (k1 : Option R) : Nat → Int → Int → Option R
  | 0, _, _ => none
  | k + 1, w49, w50 =>
    (lawFewF_s5 w50 w49 x45 x46 v4 (k0) (fun (a53 : Int) (a54 : Int) => ( lawFewF_l2 fuel v4 x45 x46 k0 k1 k a53 a54 )) (k1))
theorem lawFewF_l2_eq (fuel : Nat) (v4 : Int) (x45 : List Int) (x46 : List Int) (K : Ex → St → Option Out) : ∀ (k : Nat) (w49 : Int) (w50 : Int), lpN (sub (bodyOf Try.prog 6) [1, 1, 1, 1, 1, 1, 1, 1, 1, 0, 1, 0, 0]) (fnX Try.prog mode2 T_contains fuel 129 0) 638029437976759618993827388934565412932 [2, 6, 14, 17, 114, 115, 116] k ⟨[(2, .s (.int .i64 v4)), (6, .s (.bool false)), (14, .li .i64 x45), (17, .li .i64 x46), (114, .li .i64 x45), (115, .s (.int .i64 w49)), (116, .s (.int .i64 w50))], [], 0, none⟩ K = lawFewF_l2 fuel v4 x45 x46 (K .ret ⟨[(2, .s (.int .i64 v4)), (6, .s (.bool false)), (14, .li .i64 x45)], [], 0, none⟩) (K (.exit 2) ⟨[(2, .s (.int .i64 v4)), (6, .s (.bool false)), (14, .li .i64 x45)], [], 0, none⟩) k w49 w50
  | 0, _, _ => rfl
  | k + 1, w49, w50 => by
    unfold lawFewF_l2
    exact (lawFewF_s5_eq fuel k K w50 w49 x45 x46 v4).trans (congr (congr (congr (Eq.refl (lawFewF_s5 (R := Out) w50 w49 x45 x46 v4)) (rfl)) (funext fun a53 => funext fun a54 => lawFewF_l2_eq fuel v4 x45 x46 K k a53 a54)) (rfl))
noncomputable def lawFewF_s6 {R : Type} (v4 : Int) (x45 : List Int) (c0 : Bool → Option R) : Option R :=
  c0 false
theorem lawFewF_s6_eq (fuel : Nat)  (v4 : Int) (x45 : List Int) : (kont (fnX Try.prog mode2 T_contains fuel 129 0) (bodyOf Try.prog 6) [1, 1, 1, 1, 1, 1, 1, 1, 1, 0, 1, 0] 64 (endK Try.prog 0 0 6)) .ret ⟨[(2, .s (.int .i64 v4)), (6, .s (.bool false)), (14, .li .i64 x45)], [], 0, none⟩ = lawFewF_s6 v4 x45 (fun (a57 : Bool) => some (.s (.bool a57), [])) := by kernel_rfl
noncomputable def lawFewF_s7 {R : Type} (x45 : List Int) (v4 : Int) (c0 : Bool → Option R) : Option R :=
  c0 (((x45.length : Nat) : Int) == v4)
theorem lawFewF_s7_eq (fuel : Nat)  (x45 : List Int) (v4 : Int) : (kont (fnX Try.prog mode2 T_contains fuel 129 0) (bodyOf Try.prog 6) [1, 1, 1, 1, 1, 1, 1, 1, 1, 0, 1, 0] 64 (endK Try.prog 0 0 6)) (.exit 2) ⟨[(2, .s (.int .i64 v4)), (6, .s (.bool false)), (14, .li .i64 x45)], [], 0, none⟩ = lawFewF_s7 x45 v4 (fun (a58 : Bool) => some (.s (.bool a58), [])) := by kernel_rfl
noncomputable def lawFewF_s4 {R : Type} (x45 : List Int) (v4 : Int) (x46 : List Int) (c0 : Int → Int → Option R) : Option R :=
  c0 ((x45.length : Nat) : Int) 0
theorem lawFewF_s4_eq (fuel : Nat)  (x45 : List Int) (v4 : Int) (x46 : List Int) : (kont (fnX Try.prog mode2 T_contains fuel 129 0) (bodyOf Try.prog 6) [1, 1, 1, 1, 1, 1, 1, 1, 0, 1, 0] 64 (endK Try.prog 0 0 6)) (.exit 0) ⟨[(2, .s (.int .i64 v4)), (6, .s (.bool false)), (14, .li .i64 x45), (17, .li .i64 x46)], [], 0, none⟩ = lawFewF_s4 x45 v4 x46 (fun (a55 : Int) (a56 : Int) => lpN (sub (bodyOf Try.prog 6) [1, 1, 1, 1, 1, 1, 1, 1, 1, 0, 1, 0, 0]) (fnX Try.prog mode2 T_contains fuel 129 0) 638029437976759618993827388934565412932 [2, 6, 14, 17, 114, 115, 116] fuel ⟨[(2, .s (.int .i64 v4)), (6, .s (.bool false)), (14, .li .i64 x45), (17, .li .i64 x46), (114, .li .i64 x45), (115, .s (.int .i64 a55)), (116, .s (.int .i64 a56))], [], 0, none⟩ (kont (fnX Try.prog mode2 T_contains fuel 129 0) (bodyOf Try.prog 6) [1, 1, 1, 1, 1, 1, 1, 1, 1, 0, 1, 0] 64 (endK Try.prog 0 0 6))) := by kernel_rfl
noncomputable def lawFewF_s1 {R : Type} (n : Int) (many : Int) (s : Int) (c0 : Bool → Option R) (c1 : List Int → List Int → List Int → Int → Int → Int → Option R) : Option R :=
  bnd (divI .rem .i64 n 512) fun v1 =>
  bnd (divI .rem .i64 (IntKind.i64.wrap (v1 + 512)) 512) fun v2 =>
  bnd (divI .rem .i64 many (IntKind.i64.wrap (v2 + 1))) fun v3 =>
  bnd (divI .rem .i64 (IntKind.i64.wrap (v3 + (IntKind.i64.wrap (v2 + 1)))) (IntKind.i64.wrap (v2 + 1))) fun v4 =>
  grd (decide (0 ≤ s) && decide (s < 18446744073709551616)) <|
  grd (decide (0 ≤ s) && decide (s < 18446744073709551616)) <|
  grd (decide (0 ≤ s) && decide (s < 18446744073709551616)) <|
  grd (decide (0 ≤ s) && decide (s < 18446744073709551616)) <|
  br (((if someOk (IntKind.i64.wrap (v2 + 1)) 0 = true then 0 else 2) : Int) != 0)
    (c0 false)
    (br (((if someOk (IntKind.i64.wrap (v2 + 1)) (IntKind.i64.wrap (v2 + 1)) = true then 0 else 2) : Int) != 0)
      (c0 false)
      (br (((if someOk (IntKind.i64.wrap (v2 + 1)) v4 = true then 0 else 2) : Int) != 0)
        (c0 false)
        (br (((if someOk (IntKind.i64.wrap (v2 + 1)) (IntKind.i64.wrap (v4 + 1)) = true then 0 else 2) : Int) != 0)
          (c0 false)
          (br (((((if someOk (IntKind.i64.wrap (v2 + 1)) 0 = true then someS s (IntKind.i64.wrap (v2 + 1)) 0 else []).length : Nat) : Int) : Int) != 0)
            (c0 false)
            (br ((((if someOk (IntKind.i64.wrap (v2 + 1)) (IntKind.i64.wrap (v2 + 1)) = true then someS s (IntKind.i64.wrap (v2 + 1)) (IntKind.i64.wrap (v2 + 1)) else []).length : Nat) : Int) != (IntKind.i64.wrap (v2 + 1)))
              (c0 false)
              (br ((((if someOk (IntKind.i64.wrap (v2 + 1)) (IntKind.i64.wrap (v4 + 1)) = true then someS s (IntKind.i64.wrap (v2 + 1)) (IntKind.i64.wrap (v4 + 1)) else []).length : Nat) : Int) != (IntKind.i64.wrap (v4 + 1)))
                (c0 false)
                (c1 (if someOk (IntKind.i64.wrap (v2 + 1)) v4 = true then someS s (IntKind.i64.wrap (v2 + 1)) v4 else []) (if someOk (IntKind.i64.wrap (v2 + 1)) (IntKind.i64.wrap (v4 + 1)) = true then someS s (IntKind.i64.wrap (v2 + 1)) (IntKind.i64.wrap (v4 + 1)) else []) (if someOk (IntKind.i64.wrap (v2 + 1)) (IntKind.i64.wrap (v2 + 1)) = true then someS s (IntKind.i64.wrap (v2 + 1)) (IntKind.i64.wrap (v2 + 1)) else []) (((if someOk (IntKind.i64.wrap (v2 + 1)) (IntKind.i64.wrap (v2 + 1)) = true then someS s (IntKind.i64.wrap (v2 + 1)) (IntKind.i64.wrap (v2 + 1)) else []).length : Nat) : Int) 0 v4)))))))
theorem lawFewF_s1_eq (fuel : Nat)  (n : Int) (many : Int) (s : Int) : callN Try.prog mode2 T_contains fuel 6 [.s (.int .u64 s), .s (.int .i64 n), .s (.int .i64 many)] [] = lawFewF_s1 n many s (fun (a5 : Bool) => some (.s (.bool a5), [])) (fun (a37 : List Int) (a38 : List Int) (a39 : List Int) (a40 : Int) (a41 : Int) (v4 : Int) => lpN (sub (bodyOf Try.prog 6) [1, 1, 1, 1, 1, 1, 1, 1, 0, 1, 0, 0]) (fnX Try.prog mode2 T_contains fuel 129 0) 680543964654442787616235092878223884356 [2, 6, 14, 17, 103, 104, 105] fuel ⟨[(2, .s (.int .i64 v4)), (6, .s (.bool false)), (14, .li .i64 a37), (17, .li .i64 a38), (103, .li .i64 a39), (104, .s (.int .i64 a40)), (105, .s (.int .i64 a41))], [], 0, none⟩ (kont (fnX Try.prog mode2 T_contains fuel 129 0) (bodyOf Try.prog 6) [1, 1, 1, 1, 1, 1, 1, 1, 0, 1, 0] 64 (endK Try.prog 0 0 6))) := by kernel_rfl
noncomputable def lawFewF {R : Type} (fuel : Nat) (s : Int) (n : Int) (many : Int) (r0 : Bool → Option R) : Option R :=
  (lawFewF_s1 n many s (fun (a5 : Bool) => r0 a5) (fun (a37 : List Int) (a38 : List Int) (a39 : List Int) (a40 : Int) (a41 : Int) (v4 : Int) => (lawFewF_l1 fuel v4 (fun (x42 : List Int) (x43 : List Int) => (lawFewF_s3 v4 x42 x43 (fun (a44 : Bool) => r0 a44))) (fun (x45 : List Int) (x46 : List Int) => (lawFewF_s4 x45 v4 x46 (fun (a55 : Int) (a56 : Int) => (lawFewF_l2 fuel v4 x45 x46 ((lawFewF_s6 v4 x45 (fun (a57 : Bool) => r0 a57))) ((lawFewF_s7 x45 v4 (fun (a58 : Bool) => r0 a58))) fuel a55 a56)))) fuel a37 a38 a39 a40 a41)))
theorem lawFewF_eq (fuel : Nat) (s : Int) (n : Int) (many : Int) : callN Try.prog mode2 T_contains fuel 6 [.s (.int .u64 s), .s (.int .i64 n), .s (.int .i64 many)] [] = lawFewF fuel s n many (fun (z0 : Bool) => some (.s (.bool z0), [])) := by
  unfold lawFewF
  exact (lawFewF_s1_eq fuel  n many s).trans (congr (congr (Eq.refl (lawFewF_s1 (R := Out) n many s)) (rfl)) (funext fun a37 => funext fun a38 => funext fun a39 => funext fun a40 => funext fun a41 => funext fun v4 => (lawFewF_l1_eq fuel v4 (kont (fnX Try.prog mode2 T_contains fuel 129 0) (bodyOf Try.prog 6) [1, 1, 1, 1, 1, 1, 1, 1, 0, 1, 0] 64 (endK Try.prog 0 0 6)) fuel a37 a38 a39 a40 a41).trans (congrFun (congrFun (congrFun (congrFun (congrFun (congrFun (congr (congr (Eq.refl (lawFewF_l1 (R := Out) fuel v4)) (funext fun x42 => funext fun x43 => (lawFewF_s3_eq fuel  v4 x42 x43))) (funext fun x45 => funext fun x46 => (lawFewF_s4_eq fuel  x45 v4 x46).trans (congr (Eq.refl (lawFewF_s4 (R := Out) x45 v4 x46)) (funext fun a55 => funext fun a56 => (lawFewF_l2_eq fuel v4 x45 x46 (kont (fnX Try.prog mode2 T_contains fuel 129 0) (bodyOf Try.prog 6) [1, 1, 1, 1, 1, 1, 1, 1, 1, 0, 1, 0] 64 (endK Try.prog 0 0 6)) fuel a55 a56).trans (congrFun (congrFun (congrFun (congr (congr (Eq.refl (lawFewF_l2 (R := Out) fuel v4 x45 x46)) ((lawFewF_s6_eq fuel  v4 x45))) ((lawFewF_s7_eq fuel  x45 v4))) fuel) a55) a56))))) fuel) a37) a38) a39) a40) a41)))
theorem lawFew_all {R : Type} (fuel : Nat) (v4 : Int) (m : Nat) (hm : m ≤ 512) (k0 k1 : List Int → List Int → Option R) (a b : List Int) : ∀ (k j : Nat), j ≤ m → m < j + k → lawFewF_l1 fuel v4 k0 k1 k a b (iotaS m) (m : Int) (j : Int) = k1 a b
  | 0, j, h1, h2 => by omega
  | k + 1, j, h1, h2 => by
    unfold lawFewF_l1 lawFewF_s2
    rw [br_if]
    by_cases hc : j < m
    · rw [if_pos (by simpa using hc), bnd_of ((ix_nat _ j).trans (iota_get m j hc)), br_if, if_neg (by simp), wrap_i64 (by omega) (by omega), show (j : Int) + 1 = ((j + 1 : Nat) : Int) by omega]
      exact lawFew_all fuel v4 m hm k0 k1 a b k (j + 1) (by omega) (by omega)
    · rw [if_neg (by simpa using hc)]
theorem lawFew_sub {R : Type} (fuel : Nat) (v4 : Int) (a b : List Int) (ha : a.length ≤ 512) (hb : b.length ≤ 512) (hab : ∀ x ∈ a, x ∈ b) (k0 k1 : Option R) : ∀ (k j : Nat), j ≤ a.length → a.length < j + k → lawFewF_l2 fuel v4 a b k0 k1 k (a.length : Int) (j : Int) = k1
  | 0, j, h1, h2 => by omega
  | k + 1, j, h1, h2 => by
    unfold lawFewF_l2 lawFewF_s5
    rw [br_if]
    by_cases hc : j < a.length
    · have hh : hasS b a[j] = true := by rw [hasS_eq]; exact decide_eq_true (hab _ (List.getElem_mem hc))
      rw [if_pos (by simpa using hc), bnd_of ((ix_nat _ j).trans (List.getElem?_eq_getElem hc)), grd_of (by simp; omega), br_if, hh, if_neg (by decide), wrap_i64 (by omega) (by omega), show (j : Int) + 1 = ((j + 1 : Nat) : Int) by omega]
      exact lawFew_sub fuel v4 a b ha hb hab k0 k1 k (j + 1) (by omega) (by omega)
    · rw [if_neg (by simpa using hc)]
theorem lawFew_fact (s : Int) (n : Int) (many : Int) (hg : ((decide (0 ≤ s) && decide (s < 18446744073709551616)) && decide (-9223372036854775808 ≤ n) && decide (n ≤ 9223372036854775807) && decide (-9223372036854775808 ≤ many) && decide (many ≤ 9223372036854775807)) = true) : Fact Try.prog noG 6 [.s (.int .u64 s), .s (.int .i64 n), .s (.int .i64 many)] [] (.s (.bool true), []) := by
  simp only [Bool.and_eq_true, decide_eq_true_eq] at hg
  obtain ⟨⟨⟨⟨⟨h0, h1⟩, a1⟩, a2⟩, a3⟩, a4⟩ := hg
  refine callN_fact hN hM T_contains_ok (n := 514) (mode := mode2) ?_
  rw [lawFewF_eq]
  unfold lawFewF lawFewF_s1
  obtain ⟨v1, e1, b1, b2⟩ := rem_two n (b := 512) (by decide)
  have w1 : IntKind.i64.wrap (v1 + 512) = v1 + 512 := wrap_i64 (by omega) (by omega)
  obtain ⟨v2, e2, b3, b4⟩ := rem_nn (a := v1 + 512) (b := 512) (by omega) (by decide)
  have w2 : IntKind.i64.wrap (v2 + 1) = v2 + 1 := wrap_i64 (by omega) (by omega)
  obtain ⟨v3, e3, b5, b6⟩ := rem_two many (b := v2 + 1) (by omega)
  have w3 : IntKind.i64.wrap (v3 + (v2 + 1)) = v3 + (v2 + 1) := wrap_i64 (by omega) (by omega)
  obtain ⟨v4, e4, b7, b8⟩ := rem_nn (a := v3 + (v2 + 1)) (b := v2 + 1) (by omega) (by omega)
  have w4 : IntKind.i64.wrap (v4 + 1) = v4 + 1 := wrap_i64 (by omega) (by omega)
  simp only [e1, bnd_some, w1, e2, w2, e3, w3, e4, w4]
  have b9 : 1 ≤ v2 + 1 := by omega
  have b10 : v2 + 1 ≤ 512 := by omega
  clear e2 w2 e3 w3 e4 e1 w1
  generalize v2 + 1 = N at *
  have hu : (decide (0 ≤ s) && decide (s < 18446744073709551616)) = true := by simp; omega
  have s0 := someOk_of (n := N) (many := 0) (by omega) (by omega) (by omega) (by omega)
  have s1 := someOk_of (n := N) (many := N) (by omega) (by omega) (by omega) (by omega)
  have s2 := someOk_of (n := N) (many := v4) (by omega) (by omega) (by omega) (by omega)
  have s3 := someOk_of (n := N) (many := v4 + 1) (by omega) (by omega) (by omega) (by omega)
  have l0 := some_len (s := s) (n := N) (many := 0) (by omega) (by omega)
  have l1 := some_len (s := s) (n := N) (many := N) (by omega) (by omega)
  have l2 := some_len (s := s) (n := N) (many := v4) (by omega) (by omega)
  have l3 := some_len (s := s) (n := N) (many := v4 + 1) (by omega) (by omega)
  have t1 : ((N.toNat : Nat) : Int) = N := by omega
  have t2 : ((v4.toNat : Nat) : Int) = v4 := by omega
  have t3 : (((v4 + 1).toNat : Nat) : Int) = v4 + 1 := by omega
  have hall := sort_all (s := s) (n := N) h0 h1 (by omega) (by omega)
  rw [hall] at l1
  have q1 := fun k0 k1 => lawFew_all (R := Out) 514 v4 N.toNat (by omega) k0 k1 (someS s N v4) (someS s N (v4 + 1)) 514 0 (by omega) (by omega)
  have q2 := fun k0 k1 => lawFew_sub (R := Out) 514 v4 (someS s N v4) (someS s N (v4 + 1)) (by omega) (by omega) (fun x hx => some_sub (by omega) hx) k0 k1 514 0 (by omega) (by omega)
  rw [l2, t2, show ((0 : Nat) : Int) = 0 from rfl] at q2
  rw [t1, show ((0 : Nat) : Int) = 0 from rfl] at q1
  simp only [grd_of hu, s0, s1, s2, s3, if_true, bne_self_eq_false, br_ff, l0, l2, l3, hall, l1, t1, t2, t3, Int.toNat_zero, Int.natCast_zero, q1]
  unfold lawFewF_s4
  simp only [l2, t2, q2]
  unfold lawFewF_s7
  simp only [l2, t2, beq_self_eq_true]
noncomputable def lawFew_ent : List V → List Blk → Option (Bool × Out)
  | [.s (.int .u64 s), .s (.int .i64 n), .s (.int .i64 many)], [] => some (((decide (0 ≤ s) && decide (s < 18446744073709551616)) && decide (-9223372036854775808 ≤ n) && decide (n ≤ 9223372036854775807) && decide (-9223372036854775808 ≤ many) && decide (many ≤ 9223372036854775807)), (.s (.bool true), []))
  | _, _ => none
theorem lawFew_ok : ∀ args bs out, lawFew_ent args bs = some (true, out) → Fact Try.prog noG 6 args bs out := by
  intro args bs out h
  unfold lawFew_ent at h
  split at h
  · rename_i s n many
    simp only [Option.some.injEq, Prod.mk.injEq] at h
    obtain ⟨hg, rfl⟩ := h
    exact lawFew_fact s n many hg
  · cases h
noncomputable def T_lawFew : Tbl := Tbl.cons 6 lawFew_ent T_contains
theorem T_lawFew_ok : CallOk Try.prog noG T_lawFew := cons_ok T_contains_ok lawFew_ok
def mode3 : FuncId → Nat := fun f => bif Nat.beq f 32 then 2 else bif Nat.beq f 31 then 2 else bif Nat.beq f 53 then 2 else bif Nat.beq f 56 then 2 else bif Nat.beq f 67 then 2 else 0
/-! slices.Values[[]int,int] -/
noncomputable def valuesF_s1 {R : Type} (l : List Int) (c0 : Nat → List Int → Option R) : Option R :=
  c0 0 l
theorem valuesF_s1_eq (fuel : Nat)  (l : List Int) : callN Try.prog mode3 T_lawFew fuel 32 [.li .i64 l] [] = valuesF_s1 l (fun (a1 : Nat) (a2 : List Int) => some (.fn (.func 57) [] [.ptr 0 1 a1 0], [some ⟨49, .agg [.li .i64 a2], true⟩])) := by kernel_rfl
noncomputable def valuesF {R : Type} (fuel : Nat) (l : List Int) (r0 : Nat → List Int → Option R) : Option R :=
  (valuesF_s1 l (fun (a1 : Nat) (a2 : List Int) => r0 a1 a2))
theorem valuesF_eq (fuel : Nat) (l : List Int) : callN Try.prog mode3 T_lawFew fuel 32 [.li .i64 l] [] = valuesF fuel l (fun (z0 : Nat) (z1 : List Int) => some (.fn (.func 57) [] [.ptr 0 1 z0 0], [some ⟨49, .agg [.li .i64 z1], true⟩])) := by
  unfold valuesF
  exact (valuesF_s1_eq fuel  l)
theorem values_fact (l : List Int) : Fact Try.prog noG 32 [.li .i64 l] [] (.fn (.func 57) [] [.ptr 0 1 0 0], [some ⟨49, .agg [.li .i64 l], true⟩]) := by
  refine callN_fact hN hM T_lawFew_ok (n := 0) (mode := mode3) ?_
  rw [valuesF_eq]
  rfl
noncomputable def values_ent : List V → List Blk → Option (Bool × Out)
  | [w0], [] => (asSl (.int .i64) w0).bind fun l => some (true, (.fn (.func 57) [] [.ptr 0 1 0 0], [some ⟨49, .agg [.li .i64 l], true⟩]))
  | _, _ => none
theorem values_ok : ∀ args bs out, values_ent args bs = some (true, out) → Fact Try.prog noG 32 args bs out := by
  intro args bs out h
  unfold values_ent at h
  split at h
  · rename_i w0
    obtain ⟨l, h_l, h⟩ := Option.bind_eq_some_iff.1 h
    simp only [Option.some.injEq, Prod.mk.injEq] at h
    obtain ⟨_, rfl⟩ := h
    exact (values_fact l).args (fun _ _ _ => fun _ h => RVs_two (fun _ h => RV_li h_l h) (fun _ h => h) h)
  · cases h
noncomputable def T_values : Tbl := Tbl.cons 32 values_ent T_lawFew
theorem T_values_ok : CallOk Try.prog noG T_values := cons_ok T_lawFew_ok values_ok
/-! slices.AppendSeq[[]int,int] -/
noncomputable def appendSeqF_s3 {R : Type} (w16 : Int) (w1 : Int) (l : List Int) (w18 : List Int) (w17 : Nat) (c0 : Int → Nat → List Int → Option R) (c1 : Nat → List Int → Option R) : Option R :=
  br (decide (w16 < w1))
    (bnd (ix l w16) fun e22 =>
    grd (Nat.beq w18.length w17) <|
    grd (okN (w17 + 1) 8) <|
    c0 (IntKind.i64.wrap (w16 + 1)) ((w18 ++ [e22]).length) (w18 ++ [e22]))
    (c1 w17 w18)
theorem appendSeqF_s3_eq (fuel : Nat) (k : Nat) (K : Ex → St → Option Out) (w16 : Int) (w1 : Int) (l : List Int) (w18 : List Int) (w17 : Nat) : lpN (sub (bodyOf Try.prog 57) [1, 0, 0]) (itX Try.prog mode3 T_values fuel 3 16 3 2 (roundK (evC (sub (bodyOf Try.prog 67) [1, 0, 1, 0, 0])) (evC (sub (bodyOf Try.prog 67) [1, 0, 1, 0, 1])) (fnX Try.prog mode3 T_values fuel 13 1) #[7] 3876 [(2, .ptr 1 1 0 0), (4, .s (.slice none 0 0)), (6, .fn (.func 57) [] [.ptr 0 1 0 0])])) 0 [0, 5, 6, 7] (k + 1) ⟨[(0, .yl 2), (5, .li .i64 l), (6, .s (.int .i64 w1)), (7, .s (.int .i64 w16))], [(0, some ⟨49, .agg [.li .i64 l], true⟩), (1, some ⟨49, .agg [.sl 3 1 0 w17], true⟩), (2, none), (3, some ⟨3, .li .i64 w18, true⟩)], 4, none⟩ K = appendSeqF_s3 w16 w1 l w18 w17 (fun (a23 : Int) (a24 : Nat) (a25 : List Int) => lpN (sub (bodyOf Try.prog 57) [1, 0, 0]) (itX Try.prog mode3 T_values fuel 3 16 3 2 (roundK (evC (sub (bodyOf Try.prog 67) [1, 0, 1, 0, 0])) (evC (sub (bodyOf Try.prog 67) [1, 0, 1, 0, 1])) (fnX Try.prog mode3 T_values fuel 13 1) #[7] 3876 [(2, .ptr 1 1 0 0), (4, .s (.slice none 0 0)), (6, .fn (.func 57) [] [.ptr 0 1 0 0])])) 0 [0, 5, 6, 7] k ⟨[(0, .yl 2), (5, .li .i64 l), (6, .s (.int .i64 w1)), (7, .s (.int .i64 a23))], [(0, some ⟨49, .agg [.li .i64 l], true⟩), (1, some ⟨49, .agg [.sl 3 1 0 a24], true⟩), (2, none), (3, some ⟨3, .li .i64 a25, true⟩)], 4, none⟩ K) (fun (a26 : Nat) (a27 : List Int) => K (.exit 0) ⟨[], [(0, some ⟨49, .agg [.li .i64 l], true⟩), (1, some ⟨49, .agg [.sl 3 1 0 a26], true⟩), (2, none), (3, some ⟨3, .li .i64 a27, true⟩)], 4, none⟩) := by kernel_rfl
noncomputable def appendSeqF_l2 {R : Type} (fuel : Nat) (l : List Int) (w1 : Int) (k0 : Nat → List Int → Option R) : Nat → Int → Nat → List Int → Option R
  | 0, _, _, _ => none
  | k + 1, w16, w17, w18 =>
    (appendSeqF_s3 w16 w1 l w18 w17 (fun (a23 : Int) (a24 : Nat) (a25 : List Int) => ( appendSeqF_l2 fuel l w1 k0 k a23 a24 a25 )) (fun (a26 : Nat) (a27 : List Int) => k0 a26 a27))
theorem appendSeqF_l2_eq (fuel : Nat) (l : List Int) (w1 : Int) (K : Ex → St → Option Out) : ∀ (k : Nat) (w16 : Int) (w17 : Nat) (w18 : List Int), lpN (sub (bodyOf Try.prog 57) [1, 0, 0]) (itX Try.prog mode3 T_values fuel 3 16 3 2 (roundK (evC (sub (bodyOf Try.prog 67) [1, 0, 1, 0, 0])) (evC (sub (bodyOf Try.prog 67) [1, 0, 1, 0, 1])) (fnX Try.prog mode3 T_values fuel 13 1) #[7] 3876 [(2, .ptr 1 1 0 0), (4, .s (.slice none 0 0)), (6, .fn (.func 57) [] [.ptr 0 1 0 0])])) 0 [0, 5, 6, 7] k ⟨[(0, .yl 2), (5, .li .i64 l), (6, .s (.int .i64 w1)), (7, .s (.int .i64 w16))], [(0, some ⟨49, .agg [.li .i64 l], true⟩), (1, some ⟨49, .agg [.sl 3 1 0 w17], true⟩), (2, none), (3, some ⟨3, .li .i64 w18, true⟩)], 4, none⟩ K = appendSeqF_l2 fuel l w1 (fun (y20 : Nat) (y21 : List Int) => K (.exit 0) ⟨[], [(0, some ⟨49, .agg [.li .i64 l], true⟩), (1, some ⟨49, .agg [.sl 3 1 0 y20], true⟩), (2, none), (3, some ⟨3, .li .i64 y21, true⟩)], 4, none⟩) k w16 w17 w18
  | 0, _, _, _ => rfl
  | k + 1, w16, w17, w18 => by
    unfold appendSeqF_l2
    exact (appendSeqF_s3_eq fuel k K w16 w1 l w18 w17).trans (congr (congr (Eq.refl (appendSeqF_s3 (R := Out) w16 w1 l w18 w17)) (funext fun a23 => funext fun a24 => funext fun a25 => appendSeqF_l2_eq fuel l w1 K k a23 a24 a25)) (rfl))
noncomputable def appendSeqF_s2 {R : Type} (w1 : Int) (l : List Int) (c0 : Int → Nat → List Int → Option R) (c1 : Option R) : Option R :=
  br (decide (0 < w1))
    (bnd (ix l 0) fun e13 =>
    c0 1 1 ([e13]))
    (c1)
theorem appendSeqF_s2_eq (fuel : Nat) (k : Nat) (K : Ex → St → Option Out) (w1 : Int) (l : List Int) : lpN (sub (bodyOf Try.prog 57) [1, 0, 0]) (itX Try.prog mode3 T_values fuel 3 16 3 2 (roundK (evC (sub (bodyOf Try.prog 67) [1, 0, 1, 0, 0])) (evC (sub (bodyOf Try.prog 67) [1, 0, 1, 0, 1])) (fnX Try.prog mode3 T_values fuel 13 1) #[7] 3876 [(2, .ptr 1 1 0 0), (4, .s (.slice none 0 0)), (6, .fn (.func 57) [] [.ptr 0 1 0 0])])) 0 [0, 5, 6, 7] (k + 1) ⟨[(0, .yl 2), (5, .li .i64 l), (6, .s (.int .i64 w1)), (7, .s (.int .i64 0))], [(0, some ⟨49, .agg [.li .i64 l], true⟩), (1, some ⟨49, .agg [.s (.slice none 0 0)], true⟩), (2, none)], 3, none⟩ K = appendSeqF_s2 w1 l (fun (a28 : Int) (a29 : Nat) (a30 : List Int) => lpN (sub (bodyOf Try.prog 57) [1, 0, 0]) (itX Try.prog mode3 T_values fuel 3 16 3 2 (roundK (evC (sub (bodyOf Try.prog 67) [1, 0, 1, 0, 0])) (evC (sub (bodyOf Try.prog 67) [1, 0, 1, 0, 1])) (fnX Try.prog mode3 T_values fuel 13 1) #[7] 3876 [(2, .ptr 1 1 0 0), (4, .s (.slice none 0 0)), (6, .fn (.func 57) [] [.ptr 0 1 0 0])])) 0 [0, 5, 6, 7] k ⟨[(0, .yl 2), (5, .li .i64 l), (6, .s (.int .i64 w1)), (7, .s (.int .i64 a28))], [(0, some ⟨49, .agg [.li .i64 l], true⟩), (1, some ⟨49, .agg [.sl 3 1 0 a29], true⟩), (2, none), (3, some ⟨3, .li .i64 a30, true⟩)], 4, none⟩ K) (K (.exit 0) ⟨[], [(0, some ⟨49, .agg [.li .i64 l], true⟩), (1, some ⟨49, .agg [.s (.slice none 0 0)], true⟩), (2, none)], 3, none⟩) := by kernel_rfl
noncomputable def appendSeqF_l1 {R : Type} (fuel : Nat) (l : List Int) (k0 : Nat → List Int → Option R) (k1 : Option R) : Nat → Int → Option R
  | 0, _ => none
  | k + 1, w1 =>
    (appendSeqF_s2 w1 l (fun (a28 : Int) (a29 : Nat) (a30 : List Int) => (appendSeqF_l2 fuel l w1 (fun (x31 : Nat) (x32 : List Int) => k0 x31 x32) k a28 a29 a30)) (k1))
theorem appendSeqF_l1_eq (fuel : Nat) (l : List Int) (K : Ex → St → Option Out) : ∀ (k : Nat) (w1 : Int), lpN (sub (bodyOf Try.prog 57) [1, 0, 0]) (itX Try.prog mode3 T_values fuel 3 16 3 2 (roundK (evC (sub (bodyOf Try.prog 67) [1, 0, 1, 0, 0])) (evC (sub (bodyOf Try.prog 67) [1, 0, 1, 0, 1])) (fnX Try.prog mode3 T_values fuel 13 1) #[7] 3876 [(2, .ptr 1 1 0 0), (4, .s (.slice none 0 0)), (6, .fn (.func 57) [] [.ptr 0 1 0 0])])) 0 [0, 5, 6, 7] k ⟨[(0, .yl 2), (5, .li .i64 l), (6, .s (.int .i64 w1)), (7, .s (.int .i64 0))], [(0, some ⟨49, .agg [.li .i64 l], true⟩), (1, some ⟨49, .agg [.s (.slice none 0 0)], true⟩), (2, none)], 3, none⟩ K = appendSeqF_l1 fuel l (fun (y11 : Nat) (y12 : List Int) => K (.exit 0) ⟨[], [(0, some ⟨49, .agg [.li .i64 l], true⟩), (1, some ⟨49, .agg [.sl 3 1 0 y11], true⟩), (2, none), (3, some ⟨3, .li .i64 y12, true⟩)], 4, none⟩) (K (.exit 0) ⟨[], [(0, some ⟨49, .agg [.li .i64 l], true⟩), (1, some ⟨49, .agg [.s (.slice none 0 0)], true⟩), (2, none)], 3, none⟩) k w1
  | 0, _ => rfl
  | k + 1, w1 => by
    unfold appendSeqF_l1
    exact (appendSeqF_s2_eq fuel k K w1 l).trans (congr (congr (Eq.refl (appendSeqF_s2 (R := Out) w1 l)) (funext fun a28 => funext fun a29 => funext fun a30 => appendSeqF_l2_eq fuel l w1 K k a28 a29 a30)) (rfl))
noncomputable def appendSeqF_s4 {R : Type} (x34 : Nat) (l : List Int) (x35 : List Int) (c0 : Nat → Nat → List Int → List Int → Option R) : Option R :=
  c0 0 x34 l x35
theorem appendSeqF_s4_eq (fuel : Nat)  (x34 : Nat) (l : List Int) (x35 : List Int) : (kont (itX Try.prog mode3 T_values fuel 3 16 3 2 (roundK (evC (sub (bodyOf Try.prog 67) [1, 0, 1, 0, 0])) (evC (sub (bodyOf Try.prog 67) [1, 0, 1, 0, 1])) (fnX Try.prog mode3 T_values fuel 13 1) #[7] 3876 [(2, .ptr 1 1 0 0), (4, .s (.slice none 0 0)), (6, .fn (.func 57) [] [.ptr 0 1 0 0])])) (bodyOf Try.prog 57) [1, 0] 0 (itE (behind ⟨[(2, .ptr 1 1 0 0), (4, .s (.slice none 0 0)), (6, .fn (.func 57) [] [.ptr 0 1 0 0])], [(0, some ⟨49, .agg [.li .i64 l], true⟩), (1, some ⟨49, .agg [.s (.slice none 0 0)], true⟩)], 2, none⟩ (kont (fnX Try.prog mode3 T_values fuel 13 1) (bodyOf Try.prog 67) [1, 0, 1, 0] 16 (endK Try.prog 2 1 67))))) (.exit 0) ⟨[], [(0, some ⟨49, .agg [.li .i64 l], true⟩), (1, some ⟨49, .agg [.sl 3 1 0 x34], true⟩), (2, none), (3, some ⟨3, .li .i64 x35, true⟩)], 4, none⟩ = appendSeqF_s4 x34 l x35 (fun (a36 : Nat) (a37 : Nat) (a38 : List Int) (a39 : List Int) => some (.sl 1 1 a36 a37, [some ⟨49, .agg [.li .i64 a38], true⟩, some ⟨3, .li .i64 a39, true⟩])) := by kernel_rfl
noncomputable def appendSeqF_s5 {R : Type} (l : List Int) (c0 : List Int → Option R) : Option R :=
  c0 l
theorem appendSeqF_s5_eq (fuel : Nat)  (l : List Int) : (kont (itX Try.prog mode3 T_values fuel 3 16 3 2 (roundK (evC (sub (bodyOf Try.prog 67) [1, 0, 1, 0, 0])) (evC (sub (bodyOf Try.prog 67) [1, 0, 1, 0, 1])) (fnX Try.prog mode3 T_values fuel 13 1) #[7] 3876 [(2, .ptr 1 1 0 0), (4, .s (.slice none 0 0)), (6, .fn (.func 57) [] [.ptr 0 1 0 0])])) (bodyOf Try.prog 57) [1, 0] 0 (itE (behind ⟨[(2, .ptr 1 1 0 0), (4, .s (.slice none 0 0)), (6, .fn (.func 57) [] [.ptr 0 1 0 0])], [(0, some ⟨49, .agg [.li .i64 l], true⟩), (1, some ⟨49, .agg [.s (.slice none 0 0)], true⟩)], 2, none⟩ (kont (fnX Try.prog mode3 T_values fuel 13 1) (bodyOf Try.prog 67) [1, 0, 1, 0] 16 (endK Try.prog 2 1 67))))) (.exit 0) ⟨[], [(0, some ⟨49, .agg [.li .i64 l], true⟩), (1, some ⟨49, .agg [.s (.slice none 0 0)], true⟩), (2, none)], 3, none⟩ = appendSeqF_s5 l (fun (a40 : List Int) => some (.s (.slice none 0 0), [some ⟨49, .agg [.li .i64 a40], true⟩])) := by kernel_rfl
noncomputable def appendSeqF_s1 {R : Type} (l : List Int) (c0 : Int → Option R) : Option R :=
  c0 ((l.length : Nat) : Int)
theorem appendSeqF_s1_eq (fuel : Nat)  (l : List Int) : callN Try.prog mode3 T_values fuel 67 [.s (.slice none 0 0), .fn (.func 57) [] [.ptr 0 1 0 0]] [⟨49, .agg [.li .i64 l], true⟩] = appendSeqF_s1 l (fun (a33 : Int) => lpN (sub (bodyOf Try.prog 57) [1, 0, 0]) (itX Try.prog mode3 T_values fuel 3 16 3 2 (roundK (evC (sub (bodyOf Try.prog 67) [1, 0, 1, 0, 0])) (evC (sub (bodyOf Try.prog 67) [1, 0, 1, 0, 1])) (fnX Try.prog mode3 T_values fuel 13 1) #[7] 3876 [(2, .ptr 1 1 0 0), (4, .s (.slice none 0 0)), (6, .fn (.func 57) [] [.ptr 0 1 0 0])])) 0 [0, 5, 6, 7] fuel ⟨[(0, .yl 2), (5, .li .i64 l), (6, .s (.int .i64 a33)), (7, .s (.int .i64 0))], [(0, some ⟨49, .agg [.li .i64 l], true⟩), (1, some ⟨49, .agg [.s (.slice none 0 0)], true⟩), (2, none)], 3, none⟩ (kont (itX Try.prog mode3 T_values fuel 3 16 3 2 (roundK (evC (sub (bodyOf Try.prog 67) [1, 0, 1, 0, 0])) (evC (sub (bodyOf Try.prog 67) [1, 0, 1, 0, 1])) (fnX Try.prog mode3 T_values fuel 13 1) #[7] 3876 [(2, .ptr 1 1 0 0), (4, .s (.slice none 0 0)), (6, .fn (.func 57) [] [.ptr 0 1 0 0])])) (bodyOf Try.prog 57) [1, 0] 0 (itE (behind ⟨[(2, .ptr 1 1 0 0), (4, .s (.slice none 0 0)), (6, .fn (.func 57) [] [.ptr 0 1 0 0])], [(0, some ⟨49, .agg [.li .i64 l], true⟩), (1, some ⟨49, .agg [.s (.slice none 0 0)], true⟩)], 2, none⟩ (kont (fnX Try.prog mode3 T_values fuel 13 1) (bodyOf Try.prog 67) [1, 0, 1, 0] 16 (endK Try.prog 2 1 67)))))) := by kernel_rfl
noncomputable def appendSeqF {R : Type} (fuel : Nat) (l : List Int) (r0 : Nat → Nat → List Int → List Int → Option R) (r1 : List Int → Option R) : Option R :=
  (appendSeqF_s1 l (fun (a33 : Int) => (appendSeqF_l1 fuel l (fun (x34 : Nat) (x35 : List Int) => (appendSeqF_s4 x34 l x35 (fun (a36 : Nat) (a37 : Nat) (a38 : List Int) (a39 : List Int) => r0 a36 a37 a38 a39))) ((appendSeqF_s5 l (fun (a40 : List Int) => r1 a40))) fuel a33)))
theorem appendSeqF_eq (fuel : Nat) (l : List Int) : callN Try.prog mode3 T_values fuel 67 [.s (.slice none 0 0), .fn (.func 57) [] [.ptr 0 1 0 0]] [⟨49, .agg [.li .i64 l], true⟩] = appendSeqF fuel l (fun (z0 : Nat) (z1 : Nat) (z2 : List Int) (z3 : List Int) => some (.sl 1 1 z0 z1, [some ⟨49, .agg [.li .i64 z2], true⟩, some ⟨3, .li .i64 z3, true⟩])) (fun (z0 : List Int) => some (.s (.slice none 0 0), [some ⟨49, .agg [.li .i64 z0], true⟩])) := by
  unfold appendSeqF
  exact (appendSeqF_s1_eq fuel  l).trans (congr (Eq.refl (appendSeqF_s1 (R := Out) l)) (funext fun a33 => (appendSeqF_l1_eq fuel l (kont (itX Try.prog mode3 T_values fuel 3 16 3 2 (roundK (evC (sub (bodyOf Try.prog 67) [1, 0, 1, 0, 0])) (evC (sub (bodyOf Try.prog 67) [1, 0, 1, 0, 1])) (fnX Try.prog mode3 T_values fuel 13 1) #[7] 3876 [(2, .ptr 1 1 0 0), (4, .s (.slice none 0 0)), (6, .fn (.func 57) [] [.ptr 0 1 0 0])])) (bodyOf Try.prog 57) [1, 0] 0 (itE (behind ⟨[(2, .ptr 1 1 0 0), (4, .s (.slice none 0 0)), (6, .fn (.func 57) [] [.ptr 0 1 0 0])], [(0, some ⟨49, .agg [.li .i64 l], true⟩), (1, some ⟨49, .agg [.s (.slice none 0 0)], true⟩)], 2, none⟩ (kont (fnX Try.prog mode3 T_values fuel 13 1) (bodyOf Try.prog 67) [1, 0, 1, 0] 16 (endK Try.prog 2 1 67))))) fuel a33).trans (congrFun (congrFun (congr (congr (Eq.refl (appendSeqF_l1 (R := Out) fuel l)) (funext fun x34 => funext fun x35 => (appendSeqF_s4_eq fuel  x34 l x35))) ((appendSeqF_s5_eq fuel  l))) fuel) a33)))
theorem appendSeq_loop {R : Type} (fuel : Nat) (l : List Int) (hx : l.length ≤ 1000000) (k0 : Nat → List Int → Option R) : ∀ (k j : Nat), j ≤ l.length → l.length < j + k → appendSeqF_l2 fuel l (l.length : Int) k0 k (j : Int) j (l.take j) = k0 l.length l
  | 0, j, h1, h2 => by omega
  | k + 1, j, h1, h2 => by
    unfold appendSeqF_l2 appendSeqF_s3
    rw [br_if]
    by_cases hc : j < l.length
    · rw [if_pos (by simpa using hc), bnd_of ((ix_nat l j).trans (List.getElem?_eq_getElem hc)), grd_of (by rw [List.length_take, Nat.min_eq_left h1]; exact beq_self _), grd_of (okN_of (by omega) (by omega)), wrap_i64 (by omega) (by omega), show (j : Int) + 1 = ((j + 1 : Nat) : Int) by omega]
      have e : l.take j ++ [l[j]] = l.take (j + 1) := by rw [List.take_add_one, List.getElem?_eq_getElem hc]; rfl
      rw [e, List.length_take, Nat.min_eq_left (by omega)]
      exact appendSeq_loop fuel l hx k0 k (j + 1) (by omega) (by omega)
    · rw [if_neg (by simpa using hc), List.take_of_length_le (by omega), show j = l.length by omega]
theorem appendSeq_fact (l : List Int) (hg : (decide (1 ≤ l.length) && decide (l.length ≤ 1000000)) = true) : Fact Try.prog noG 67 [.s (.slice none 0 0), .fn (.func 57) [] [.ptr 0 1 0 0]] [⟨49, .agg [.li .i64 l], true⟩] (.sl 1 1 0 l.length, [some ⟨49, .agg [.li .i64 l], true⟩, some ⟨3, .li .i64 l, true⟩]) := by
  simp only [Bool.and_eq_true, decide_eq_true_eq] at hg
  refine callN_fact hN hM T_values_ok (n := l.length + 1) (mode := mode3) ?_
  rw [appendSeqF_eq]
  unfold appendSeqF appendSeqF_s1
  dsimp only
  unfold appendSeqF_l1 appendSeqF_s2
  dsimp only
  have hl := appendSeq_loop (R := Out) (l.length + 1) l hg.2
  cases l with
  | nil => simp at hg
  | cons x t =>
    rw [br_if, if_pos (by simp), bnd_of (show ix (x :: t) 0 = some x from rfl)]
    have := fun k0 => hl k0 (x :: t).length 1 (by simp) (by omega)
    rw [show (x :: t).take 1 = [x] from rfl, show ((1 : Nat) : Int) = 1 from rfl] at this
    rw [this]
    rfl
noncomputable def appendSeq_ent : List V → List Blk → Option (Bool × Out)
  | [.s (.slice none 0 0), .fn (.func 57) [] [.ptr 0 1 0 0]], [⟨49, .agg [.li .i64 l], true⟩] => some ((decide (1 ≤ l.length) && decide (l.length ≤ 1000000)), (.sl 1 1 0 l.length, [some ⟨49, .agg [.li .i64 l], true⟩, some ⟨3, .li .i64 l, true⟩]))
  | _, _ => none
theorem appendSeq_ok : ∀ args bs out, appendSeq_ent args bs = some (true, out) → Fact Try.prog noG 67 args bs out := by
  intro args bs out h
  unfold appendSeq_ent at h
  split at h
  · rename_i l
    simp only [Option.some.injEq, Prod.mk.injEq] at h
    obtain ⟨hg, rfl⟩ := h
    exact appendSeq_fact l hg
  · cases h
noncomputable def T_appendSeq : Tbl := Tbl.cons 67 appendSeq_ent T_values
theorem T_appendSeq_ok : CallOk Try.prog noG T_appendSeq := cons_ok T_values_ok appendSeq_ok
/-! slices.Collect[int] -/
noncomputable def collectF_s1 {R : Type} (l : List Int) (c0 : Nat → Nat → List Int → List Int → Option R) : Option R :=
  grd (decide (1 ≤ l.length) && decide (l.length ≤ 1000000)) <|
  c0 0 l.length l l
theorem collectF_s1_eq (fuel : Nat)  (l : List Int) : callN Try.prog mode3 T_appendSeq fuel 56 [.fn (.func 57) [] [.ptr 0 1 0 0]] [⟨49, .agg [.li .i64 l], true⟩] = collectF_s1 l (fun (a1 : Nat) (a2 : Nat) (a3 : List Int) (a4 : List Int) => some (.sl 1 1 a1 a2, [some ⟨49, .agg [.li .i64 a3], true⟩, some ⟨3, .li .i64 a4, true⟩])) := by kernel_rfl
noncomputable def collectF {R : Type} (fuel : Nat) (l : List Int) (r0 : Nat → Nat → List Int → List Int → Option R) : Option R :=
  (collectF_s1 l (fun (a1 : Nat) (a2 : Nat) (a3 : List Int) (a4 : List Int) => r0 a1 a2 a3 a4))
theorem collectF_eq (fuel : Nat) (l : List Int) : callN Try.prog mode3 T_appendSeq fuel 56 [.fn (.func 57) [] [.ptr 0 1 0 0]] [⟨49, .agg [.li .i64 l], true⟩] = collectF fuel l (fun (z0 : Nat) (z1 : Nat) (z2 : List Int) (z3 : List Int) => some (.sl 1 1 z0 z1, [some ⟨49, .agg [.li .i64 z2], true⟩, some ⟨3, .li .i64 z3, true⟩])) := by
  unfold collectF
  exact (collectF_s1_eq fuel  l)
theorem collect_fact (l : List Int) (hg : (decide (1 ≤ l.length) && decide (l.length ≤ 1000000)) = true) : Fact Try.prog noG 56 [.fn (.func 57) [] [.ptr 0 1 0 0]] [⟨49, .agg [.li .i64 l], true⟩] (.sl 1 1 0 l.length, [some ⟨49, .agg [.li .i64 l], true⟩, some ⟨3, .li .i64 l, true⟩]) := by
  refine callN_fact hN hM T_appendSeq_ok (n := 0) (mode := mode3) ?_
  rw [collectF_eq]
  unfold collectF collectF_s1
  rw [grd_of hg]
noncomputable def collect_ent : List V → List Blk → Option (Bool × Out)
  | [.fn (.func 57) [] [.ptr 0 1 0 0]], [⟨49, .agg [.li .i64 l], true⟩] => some ((decide (1 ≤ l.length) && decide (l.length ≤ 1000000)), (.sl 1 1 0 l.length, [some ⟨49, .agg [.li .i64 l], true⟩, some ⟨3, .li .i64 l, true⟩]))
  | _, _ => none
theorem collect_ok : ∀ args bs out, collect_ent args bs = some (true, out) → Fact Try.prog noG 56 args bs out := by
  intro args bs out h
  unfold collect_ent at h
  split at h
  · rename_i l
    simp only [Option.some.injEq, Prod.mk.injEq] at h
    obtain ⟨hg, rfl⟩ := h
    exact collect_fact l hg
  · cases h
noncomputable def T_collect : Tbl := Tbl.cons 56 collect_ent T_appendSeq
theorem T_collect_ok : CallOk Try.prog noG T_collect := cons_ok T_appendSeq_ok collect_ok
/-! slices.Sorted[int] -/
noncomputable def sortedF_s1 {R : Type} (l : List Int) (c0 : Nat → Nat → List Int → List Int → Option R) : Option R :=
  grd (decide (1 ≤ l.length) && decide (l.length ≤ 1000000)) <|
  grd (Nat.ble l.length l.length && Nat.ble l.length 1000000) <|
  c0 0 l.length l (sortPre l.length l)
theorem sortedF_s1_eq (fuel : Nat)  (l : List Int) : callN Try.prog mode3 T_collect fuel 31 [.fn (.func 57) [] [.ptr 0 1 0 0]] [⟨49, .agg [.li .i64 l], true⟩] = sortedF_s1 l (fun (a1 : Nat) (a2 : Nat) (a3 : List Int) (a4 : List Int) => some (.sl 1 1 a1 a2, [some ⟨49, .agg [.li .i64 a3], true⟩, some ⟨3, .li .i64 a4, true⟩])) := by kernel_rfl
noncomputable def sortedF {R : Type} (fuel : Nat) (l : List Int) (r0 : Nat → Nat → List Int → List Int → Option R) : Option R :=
  (sortedF_s1 l (fun (a1 : Nat) (a2 : Nat) (a3 : List Int) (a4 : List Int) => r0 a1 a2 a3 a4))
theorem sortedF_eq (fuel : Nat) (l : List Int) : callN Try.prog mode3 T_collect fuel 31 [.fn (.func 57) [] [.ptr 0 1 0 0]] [⟨49, .agg [.li .i64 l], true⟩] = sortedF fuel l (fun (z0 : Nat) (z1 : Nat) (z2 : List Int) (z3 : List Int) => some (.sl 1 1 z0 z1, [some ⟨49, .agg [.li .i64 z2], true⟩, some ⟨3, .li .i64 z3, true⟩])) := by
  unfold sortedF
  exact (sortedF_s1_eq fuel  l)
theorem sorted_fact (l : List Int) (hg : (decide (1 ≤ l.length) && decide (l.length ≤ 1000000)) = true) : Fact Try.prog noG 31 [.fn (.func 57) [] [.ptr 0 1 0 0]] [⟨49, .agg [.li .i64 l], true⟩] (.sl 1 1 0 l.length, [some ⟨49, .agg [.li .i64 l], true⟩, some ⟨3, .li .i64 (sortPre l.length l), true⟩]) := by
  refine callN_fact hN hM T_collect_ok (n := 0) (mode := mode3) ?_
  have hg' := hg
  simp only [Bool.and_eq_true, decide_eq_true_eq] at hg'
  rw [sortedF_eq]
  unfold sortedF sortedF_s1
  rw [grd_of hg, grd_of (by rw [Bool.and_eq_true]; exact ⟨Nat.ble_eq_true_of_le (by omega), Nat.ble_eq_true_of_le (by omega)⟩)]
noncomputable def sorted_ent : List V → List Blk → Option (Bool × Out)
  | [.fn (.func 57) [] [.ptr 0 1 0 0]], [⟨49, .agg [.li .i64 l], true⟩] => some ((decide (1 ≤ l.length) && decide (l.length ≤ 1000000)), (.sl 1 1 0 l.length, [some ⟨49, .agg [.li .i64 l], true⟩, some ⟨3, .li .i64 (sortPre l.length l), true⟩]))
  | _, _ => none
theorem sorted_ok : ∀ args bs out, sorted_ent args bs = some (true, out) → Fact Try.prog noG 31 args bs out := by
  intro args bs out h
  unfold sorted_ent at h
  split at h
  · rename_i l
    simp only [Option.some.injEq, Prod.mk.injEq] at h
    obtain ⟨hg, rfl⟩ := h
    exact sorted_fact l hg
  · cases h
noncomputable def T_sorted : Tbl := Tbl.cons 31 sorted_ent T_collect
theorem T_sorted_ok : CallOk Try.prog noG T_sorted := cons_ok T_collect_ok sorted_ok
/-! downpour/downpourlaw06.RandomOnce -/
noncomputable def lawOnceF_s2 {R : Type} (w23 : Int) (w22 : Int) (w21 : Nat) (w24 : List Int) (w18 : Int) (w19 : List Int) (w20 : List Int) (s : Int) (v4 : Int) (c0 : Int → List Int → List Int → Option R) (c1 : Int → List Int → List Int → Nat → Int → Int → List Int → Option R) (c2 : Int → List Int → List Int → Option R) : Option R :=
  br (decide (w23 < w22))
    (bnd (below w23 w21) fun j33 =>
    bnd (w24[(0 + j33)]?) fun e34 =>
    br (e34 != w23)
      (c0 w18 w19 w20)
      (c1 w18 w19 w20 w21 w22 (IntKind.i64.wrap (w23 + 1)) w24))
    (c2 w18 w19 w20)
theorem lawOnceF_s2_eq (fuel : Nat) (k : Nat) (K : Ex → St → Option Out) (w23 : Int) (w22 : Int) (w21 : Nat) (w24 : List Int) (w18 : Int) (w19 : List Int) (w20 : List Int) (s : Int) (v4 : Int) : lpN (sub (bodyOf Try.prog 7) [1, 1, 1, 1, 1, 1, 1, 0, 1, 0, 0]) (fnX Try.prog mode3 T_sorted fuel 170 0) 1496577676626844588240533654620216679958878168746311 [0, 1, 2, 6, 8, 11, 84, 85, 86] (k + 1) ⟨[(0, .s (.int .u64 s)), (1, .s (.int .i64 w18)), (2, .s (.int .i64 v4)), (6, .s (.bool false)), (8, .li .i64 w19), (11, .li .i64 w20), (84, .sl 0 1 0 w21), (85, .s (.int .i64 w22)), (86, .s (.int .i64 w23))], [(0, some ⟨3, .li .i64 w24, true⟩)], 1, none⟩ K = lawOnceF_s2 w23 w22 w21 w24 w18 w19 w20 s v4 (fun (a35 : Int) (a36 : List Int) (a37 : List Int) => K .ret ⟨[(0, .s (.int .u64 s)), (1, .s (.int .i64 a35)), (2, .s (.int .i64 v4)), (6, .s (.bool false)), (8, .li .i64 a36), (11, .li .i64 a37)], [], 0, none⟩) (fun (a38 : Int) (a39 : List Int) (a40 : List Int) (a41 : Nat) (a42 : Int) (a43 : Int) (a44 : List Int) => lpN (sub (bodyOf Try.prog 7) [1, 1, 1, 1, 1, 1, 1, 0, 1, 0, 0]) (fnX Try.prog mode3 T_sorted fuel 170 0) 1496577676626844588240533654620216679958878168746311 [0, 1, 2, 6, 8, 11, 84, 85, 86] k ⟨[(0, .s (.int .u64 s)), (1, .s (.int .i64 a38)), (2, .s (.int .i64 v4)), (6, .s (.bool false)), (8, .li .i64 a39), (11, .li .i64 a40), (84, .sl 0 1 0 a41), (85, .s (.int .i64 a42)), (86, .s (.int .i64 a43))], [(0, some ⟨3, .li .i64 a44, true⟩)], 1, none⟩ K) (fun (a45 : Int) (a46 : List Int) (a47 : List Int) => K (.exit 0) ⟨[(0, .s (.int .u64 s)), (1, .s (.int .i64 a45)), (2, .s (.int .i64 v4)), (6, .s (.bool false)), (8, .li .i64 a46), (11, .li .i64 a47)], [], 0, none⟩) := by kernel_rfl
noncomputable def lawOnceF_l1 {R : Type} (fuel : Nat) (s : Int) (v4 : Int) (k0 : Int → List Int → List Int → Option R) (k1 : Int → List Int → List Int → Option R) : Nat → Int → List Int → List Int → Nat → Int → Int → List Int → Option R
  | 0, _, _, _, _, _, _, _ => none
  | k + 1, w18, w19, w20, w21, w22, w23, w24 =>
    (lawOnceF_s2 w23 w22 w21 w24 w18 w19 w20 s v4 (fun (a35 : Int) (a36 : List Int) (a37 : List Int) => k0 a35 a36 a37) (fun (a38 : Int) (a39 : List Int) (a40 : List Int) (a41 : Nat) (a42 : Int) (a43 : Int) (a44 : List Int) => ( lawOnceF_l1 fuel s v4 k0 k1 k a38 a39 a40 a41 a42 a43 a44 )) (fun (a45 : Int) (a46 : List Int) (a47 : List Int) => k1 a45 a46 a47))
theorem lawOnceF_l1_eq (fuel : Nat) (s : Int) (v4 : Int) (K : Ex → St → Option Out) : ∀ (k : Nat) (w18 : Int) (w19 : List Int) (w20 : List Int) (w21 : Nat) (w22 : Int) (w23 : Int) (w24 : List Int), lpN (sub (bodyOf Try.prog 7) [1, 1, 1, 1, 1, 1, 1, 0, 1, 0, 0]) (fnX Try.prog mode3 T_sorted fuel 170 0) 1496577676626844588240533654620216679958878168746311 [0, 1, 2, 6, 8, 11, 84, 85, 86] k ⟨[(0, .s (.int .u64 s)), (1, .s (.int .i64 w18)), (2, .s (.int .i64 v4)), (6, .s (.bool false)), (8, .li .i64 w19), (11, .li .i64 w20), (84, .sl 0 1 0 w21), (85, .s (.int .i64 w22)), (86, .s (.int .i64 w23))], [(0, some ⟨3, .li .i64 w24, true⟩)], 1, none⟩ K = lawOnceF_l1 fuel s v4 (fun (y27 : Int) (y28 : List Int) (y29 : List Int) => K .ret ⟨[(0, .s (.int .u64 s)), (1, .s (.int .i64 y27)), (2, .s (.int .i64 v4)), (6, .s (.bool false)), (8, .li .i64 y28), (11, .li .i64 y29)], [], 0, none⟩) (fun (y30 : Int) (y31 : List Int) (y32 : List Int) => K (.exit 0) ⟨[(0, .s (.int .u64 s)), (1, .s (.int .i64 y30)), (2, .s (.int .i64 v4)), (6, .s (.bool false)), (8, .li .i64 y31), (11, .li .i64 y32)], [], 0, none⟩) k w18 w19 w20 w21 w22 w23 w24
  | 0, _, _, _, _, _, _, _ => rfl
  | k + 1, w18, w19, w20, w21, w22, w23, w24 => by
    unfold lawOnceF_l1
    exact (lawOnceF_s2_eq fuel k K w23 w22 w21 w24 w18 w19 w20 s v4).trans (congr (congr (congr (Eq.refl (lawOnceF_s2 (R := Out) w23 w22 w21 w24 w18 w19 w20 s v4)) (rfl)) (funext fun a38 => funext fun a39 => funext fun a40 => funext fun a41 => funext fun a42 => funext fun a43 => funext fun a44 => lawOnceF_l1_eq fuel s v4 K k a38 a39 a40 a41 a42 a43 a44)) (rfl))
noncomputable def lawOnceF_s3 {R : Type} (s : Int) (x55 : Int) (v4 : Int) (x56 : List Int) (x57 : List Int) (c0 : Bool → Option R) : Option R :=
  c0 false
theorem lawOnceF_s3_eq (fuel : Nat)  (s : Int) (x55 : Int) (v4 : Int) (x56 : List Int) (x57 : List Int) : (kont (fnX Try.prog mode3 T_sorted fuel 170 0) (bodyOf Try.prog 7) [1, 1, 1, 1, 1, 1, 1, 0, 1, 0] 64 (endK Try.prog 0 0 7)) .ret ⟨[(0, .s (.int .u64 s)), (1, .s (.int .i64 x55)), (2, .s (.int .i64 v4)), (6, .s (.bool false)), (8, .li .i64 x56), (11, .li .i64 x57)], [], 0, none⟩ = lawOnceF_s3 s x55 v4 x56 x57 (fun (a58 : Bool) => some (.s (.bool a58), [])) := by kernel_rfl
noncomputable def lawOnceF_s5 {R : Type} (w66 : Int) (w65 : Int) (x61 : List Int) (x59 : Int) (v4 : Int) (x60 : List Int) (s : Int) (c0 : Option R) (c1 : Option R) (c2 : Option R) (c3 : Option R) (c4 : Int → Int → Option R) (c5 : Option R) (c6 : Int → Int → Option R) (c7 : Option R) : Option R :=
  br (decide (w66 < w65))
    (bnd (ix x61 w66) fun e71 =>
    br (decide (e71 < 0))
      (c0)
      (br (decide (e71 ≥ x59))
        (c1)
        (br (decide (w66 > 0))
          (bnd (ix x61 (IntKind.i64.wrap (w66 - 1))) fun e72 =>
          br (decide (e72 ≥ e71))
            (c2)
            (bnd (upTo v4 x60.length) fun j73 =>
            grd (decide (((x60.drop 0).take (j73 - 0)).length ≤ 1000000)) <|
            br (!(hasS ((x60.drop 0).take (j73 - 0)) e71))
              (c3)
              (c4 w65 (IntKind.i64.wrap (w66 + 1)))))
          (bnd (upTo v4 x60.length) fun j76 =>
          grd (decide (((x60.drop 0).take (j76 - 0)).length ≤ 1000000)) <|
          br (!(hasS ((x60.drop 0).take (j76 - 0)) e71))
            (c5)
            (c6 w65 (IntKind.i64.wrap (w66 + 1)))))))
    (c7)
theorem lawOnceF_s5_eq (fuel : Nat) (k : Nat) (K : Ex → St → Option Out) (w66 : Int) (w65 : Int) (x61 : List Int) (x59 : Int) (v4 : Int) (x60 : List Int) (s : Int) : lpN (sub (bodyOf Try.prog 7) [1, 1, 1, 1, 1, 1, 1, 1, 0, 1, 0, 0]) (fnX Try.prog mode3 T_sorted fuel 170 0) 1496577676624122329305205760993766815268220794830915 [0, 1, 2, 6, 8, 11, 95, 96, 97] (k + 1) ⟨[(0, .s (.int .u64 s)), (1, .s (.int .i64 x59)), (2, .s (.int .i64 v4)), (6, .s (.bool false)), (8, .li .i64 x60), (11, .li .i64 x61), (95, .li .i64 x61), (96, .s (.int .i64 w65)), (97, .s (.int .i64 w66))], [], 0, none⟩ K = lawOnceF_s5 w66 w65 x61 x59 v4 x60 s (K .ret ⟨[(0, .s (.int .u64 s)), (1, .s (.int .i64 x59)), (6, .s (.bool false))], [], 0, none⟩) (K .ret ⟨[(0, .s (.int .u64 s)), (1, .s (.int .i64 x59)), (6, .s (.bool false))], [], 0, none⟩) (K .ret ⟨[(0, .s (.int .u64 s)), (1, .s (.int .i64 x59)), (6, .s (.bool false))], [], 0, none⟩) (K .ret ⟨[(0, .s (.int .u64 s)), (1, .s (.int .i64 x59)), (6, .s (.bool false))], [], 0, none⟩) (fun (a74 : Int) (a75 : Int) => lpN (sub (bodyOf Try.prog 7) [1, 1, 1, 1, 1, 1, 1, 1, 0, 1, 0, 0]) (fnX Try.prog mode3 T_sorted fuel 170 0) 1496577676624122329305205760993766815268220794830915 [0, 1, 2, 6, 8, 11, 95, 96, 97] k ⟨[(0, .s (.int .u64 s)), (1, .s (.int .i64 x59)), (2, .s (.int .i64 v4)), (6, .s (.bool false)), (8, .li .i64 x60), (11, .li .i64 x61), (95, .li .i64 x61), (96, .s (.int .i64 a74)), (97, .s (.int .i64 a75))], [], 0, none⟩ K) (K .ret ⟨[(0, .s (.int .u64 s)), (1, .s (.int .i64 x59)), (6, .s (.bool false))], [], 0, none⟩) (fun (a77 : Int) (a78 : Int) => lpN (sub (bodyOf Try.prog 7) [1, 1, 1, 1, 1, 1, 1, 1, 0, 1, 0, 0]) (fnX Try.prog mode3 T_sorted fuel 170 0) 1496577676624122329305205760993766815268220794830915 [0, 1, 2, 6, 8, 11, 95, 96, 97] k ⟨[(0, .s (.int .u64 s)), (1, .s (.int .i64 x59)), (2, .s (.int .i64 v4)), (6, .s (.bool false)), (8, .li .i64 x60), (11, .li .i64 x61), (95, .li .i64 x61), (96, .s (.int .i64 a77)), (97, .s (.int .i64 a78))], [], 0, none⟩ K) (K (.exit 2) ⟨[(0, .s (.int .u64 s)), (1, .s (.int .i64 x59)), (6, .s (.bool false))], [], 0, none⟩) := by kernel_rfl
noncomputable def lawOnceF_l2 {R : Type} (fuel : Nat) (s : Int) (x59 : Int) (v4 : Int) (x60 : List Int) (x61 : List Int) (k0 : Option R) (k1 : Option R) : Nat → Int → Int → Option R
  | 0, _, _ => none
  | k + 1, w65, w66 =>
    (lawOnceF_s5 w66 w65 x61 x59 v4 x60 s (k0) (k0) (k0) (k0) (fun (a74 : Int) (a75 : Int) => ( lawOnceF_l2 fuel s x59 v4 x60 x61 k0 k1 k a74 a75 )) (k0) (fun (a77 : Int) (a78 : Int) => ( lawOnceF_l2 fuel s x59 v4 x60 x61 k0 k1 k a77 a78 )) (k1))
theorem lawOnceF_l2_eq (fuel : Nat) (s : Int) (x59 : Int) (v4 : Int) (x60 : List Int) (x61 : List Int) (K : Ex → St → Option Out) : ∀ (k : Nat) (w65 : Int) (w66 : Int), lpN (sub (bodyOf Try.prog 7) [1, 1, 1, 1, 1, 1, 1, 1, 0, 1, 0, 0]) (fnX Try.prog mode3 T_sorted fuel 170 0) 1496577676624122329305205760993766815268220794830915 [0, 1, 2, 6, 8, 11, 95, 96, 97] k ⟨[(0, .s (.int .u64 s)), (1, .s (.int .i64 x59)), (2, .s (.int .i64 v4)), (6, .s (.bool false)), (8, .li .i64 x60), (11, .li .i64 x61), (95, .li .i64 x61), (96, .s (.int .i64 w65)), (97, .s (.int .i64 w66))], [], 0, none⟩ K = lawOnceF_l2 fuel s x59 v4 x60 x61 (K .ret ⟨[(0, .s (.int .u64 s)), (1, .s (.int .i64 x59)), (6, .s (.bool false))], [], 0, none⟩) (K (.exit 2) ⟨[(0, .s (.int .u64 s)), (1, .s (.int .i64 x59)), (6, .s (.bool false))], [], 0, none⟩) k w65 w66
  | 0, _, _ => rfl
  | k + 1, w65, w66 => by
    unfold lawOnceF_l2
    exact (lawOnceF_s5_eq fuel k K w66 w65 x61 x59 v4 x60 s).trans (congr (congr (congr (congr (congr (congr (congr (congr (Eq.refl (lawOnceF_s5 (R := Out) w66 w65 x61 x59 v4 x60 s)) (rfl)) (rfl)) (rfl)) (rfl)) (funext fun a74 => funext fun a75 => lawOnceF_l2_eq fuel s x59 v4 x60 x61 K k a74 a75)) (rfl)) (funext fun a77 => funext fun a78 => lawOnceF_l2_eq fuel s x59 v4 x60 x61 K k a77 a78)) (rfl))
noncomputable def lawOnceF_s6 {R : Type} (s : Int) (x59 : Int) (c0 : Bool → Option R) : Option R :=
  c0 false
theorem lawOnceF_s6_eq (fuel : Nat)  (s : Int) (x59 : Int) : (kont (fnX Try.prog mode3 T_sorted fuel 170 0) (bodyOf Try.prog 7) [1, 1, 1, 1, 1, 1, 1, 1, 0, 1, 0] 64 (endK Try.prog 0 0 7)) .ret ⟨[(0, .s (.int .u64 s)), (1, .s (.int .i64 x59)), (6, .s (.bool false))], [], 0, none⟩ = lawOnceF_s6 s x59 (fun (a81 : Bool) => some (.s (.bool a81), [])) := by kernel_rfl
noncomputable def lawOnceF_s7 {R : Type} (s : Int) (x59 : Int) (c0 : Bool → Option R) : Option R :=
  grd (decide (0 ≤ s) && decide (s < 18446744073709551616)) <|
  grd (decide (0 ≤ s) && decide (s < 18446744073709551616)) <|
  br (((if sizedS x59 = true then 0 else 2) : Int) == 0)
    (br (((if sizedS x59 = true then 0 else 2) : Int) == 0)
      (br (((if sizedS x59 = true then (belowS s x59).1 else 0) : Int) == (if sizedS x59 = true then (belowS s x59).1 else 0))
        (br (((if sizedS x59 = true then (belowS s x59).2 else 0) : Int) == (if sizedS x59 = true then (belowS s x59).2 else 0))
          (br (decide (((if sizedS x59 = true then (belowS s x59).2 else 0) : Int) ≥ 0))
            (c0 (decide ((if sizedS x59 = true then (belowS s x59).2 else 0) < x59)))
            (c0 false))
          (c0 false))
        (c0 false))
      (c0 false))
    (c0 false)
theorem lawOnceF_s7_eq (fuel : Nat)  (s : Int) (x59 : Int) : (kont (fnX Try.prog mode3 T_sorted fuel 170 0) (bodyOf Try.prog 7) [1, 1, 1, 1, 1, 1, 1, 1, 0, 1, 0] 64 (endK Try.prog 0 0 7)) (.exit 2) ⟨[(0, .s (.int .u64 s)), (1, .s (.int .i64 x59)), (6, .s (.bool false))], [], 0, none⟩ = lawOnceF_s7 s x59 (fun (a82 : Bool) => some (.s (.bool a82), [])) := by kernel_rfl
noncomputable def lawOnceF_s4 {R : Type} (x61 : List Int) (s : Int) (x59 : Int) (v4 : Int) (x60 : List Int) (c0 : Int → Int → Option R) : Option R :=
  c0 ((x61.length : Nat) : Int) 0
theorem lawOnceF_s4_eq (fuel : Nat)  (x61 : List Int) (s : Int) (x59 : Int) (v4 : Int) (x60 : List Int) : (kont (fnX Try.prog mode3 T_sorted fuel 170 0) (bodyOf Try.prog 7) [1, 1, 1, 1, 1, 1, 1, 0, 1, 0] 64 (endK Try.prog 0 0 7)) (.exit 0) ⟨[(0, .s (.int .u64 s)), (1, .s (.int .i64 x59)), (2, .s (.int .i64 v4)), (6, .s (.bool false)), (8, .li .i64 x60), (11, .li .i64 x61)], [], 0, none⟩ = lawOnceF_s4 x61 s x59 v4 x60 (fun (a79 : Int) (a80 : Int) => lpN (sub (bodyOf Try.prog 7) [1, 1, 1, 1, 1, 1, 1, 1, 0, 1, 0, 0]) (fnX Try.prog mode3 T_sorted fuel 170 0) 1496577676624122329305205760993766815268220794830915 [0, 1, 2, 6, 8, 11, 95, 96, 97] fuel ⟨[(0, .s (.int .u64 s)), (1, .s (.int .i64 x59)), (2, .s (.int .i64 v4)), (6, .s (.bool false)), (8, .li .i64 x60), (11, .li .i64 x61), (95, .li .i64 x61), (96, .s (.int .i64 a79)), (97, .s (.int .i64 a80))], [], 0, none⟩ (kont (fnX Try.prog mode3 T_sorted fuel 170 0) (bodyOf Try.prog 7) [1, 1, 1, 1, 1, 1, 1, 1, 0, 1, 0] 64 (endK Try.prog 0 0 7))) := by kernel_rfl
noncomputable def lawOnceF_s1 {R : Type} (n : Int) (many : Int) (s : Int) (c0 : Bool → Option R) (c1 : Int → List Int → List Int → Nat → Int → Int → List Int → Int → Option R) : Option R :=
  bnd (divI .rem .i64 n 512) fun v1 =>
  bnd (divI .rem .i64 (IntKind.i64.wrap (v1 + 512)) 512) fun v2 =>
  bnd (divI .rem .i64 many (IntKind.i64.wrap ((IntKind.i64.wrap (v2 + 1)) + 1))) fun v3 =>
  bnd (divI .rem .i64 (IntKind.i64.wrap ((IntKind.i64.wrap (v3 + (IntKind.i64.wrap (v2 + 1)))) + 1)) (IntKind.i64.wrap ((IntKind.i64.wrap (v2 + 1)) + 1))) fun v4 =>
  grd (decide (0 ≤ s) && decide (s < 18446744073709551616)) <|
  grd (decide (0 ≤ s) && decide (s < 18446744073709551616)) <|
  br (((if sizedS (IntKind.i64.wrap (v2 + 1)) = true then 0 else 2) : Int) != 0)
    (c0 false)
    (br (((if someOk (IntKind.i64.wrap (v2 + 1)) v4 = true then 0 else 2) : Int) != 0)
      (c0 false)
      (br (((if sizedS (IntKind.i64.wrap (v2 + 1)) = true then (shuffleS s (IntKind.i64.wrap (v2 + 1))).1 else 0) : Int) != (if someOk (IntKind.i64.wrap (v2 + 1)) v4 = true then (shuffleS s (IntKind.i64.wrap (v2 + 1))).1 else 0))
        (c0 false)
        (br ((((if sizedS (IntKind.i64.wrap (v2 + 1)) = true then (shuffleS s (IntKind.i64.wrap (v2 + 1))).2 else []).length : Nat) : Int) != (IntKind.i64.wrap (v2 + 1)))
          (c0 false)
          (br ((((if someOk (IntKind.i64.wrap (v2 + 1)) v4 = true then someS s (IntKind.i64.wrap (v2 + 1)) v4 else []).length : Nat) : Int) != v4)
            (c0 false)
            (grd (decide (1 ≤ (if sizedS (IntKind.i64.wrap (v2 + 1)) = true then (shuffleS s (IntKind.i64.wrap (v2 + 1))).2 else []).length) && decide ((if sizedS (IntKind.i64.wrap (v2 + 1)) = true then (shuffleS s (IntKind.i64.wrap (v2 + 1))).2 else []).length ≤ 1000000)) <|
            c1 (IntKind.i64.wrap (v2 + 1)) (if sizedS (IntKind.i64.wrap (v2 + 1)) = true then (shuffleS s (IntKind.i64.wrap (v2 + 1))).2 else []) (if someOk (IntKind.i64.wrap (v2 + 1)) v4 = true then someS s (IntKind.i64.wrap (v2 + 1)) v4 else []) ((if sizedS (IntKind.i64.wrap (v2 + 1)) = true then (shuffleS s (IntKind.i64.wrap (v2 + 1))).2 else []).length) (((if sizedS (IntKind.i64.wrap (v2 + 1)) = true then (shuffleS s (IntKind.i64.wrap (v2 + 1))).2 else []).length : Nat) : Int) 0 (sortPre (if sizedS (IntKind.i64.wrap (v2 + 1)) = true then (shuffleS s (IntKind.i64.wrap (v2 + 1))).2 else []).length (if sizedS (IntKind.i64.wrap (v2 + 1)) = true then (shuffleS s (IntKind.i64.wrap (v2 + 1))).2 else [])) v4)))))
theorem lawOnceF_s1_eq (fuel : Nat)  (n : Int) (many : Int) (s : Int) : callN Try.prog mode3 T_sorted fuel 7 [.s (.int .u64 s), .s (.int .i64 n), .s (.int .i64 many)] [] = lawOnceF_s1 n many s (fun (a5 : Bool) => some (.s (.bool a5), [])) (fun (a48 : Int) (a49 : List Int) (a50 : List Int) (a51 : Nat) (a52 : Int) (a53 : Int) (a54 : List Int) (v4 : Int) => lpN (sub (bodyOf Try.prog 7) [1, 1, 1, 1, 1, 1, 1, 0, 1, 0, 0]) (fnX Try.prog mode3 T_sorted fuel 170 0) 1496577676626844588240533654620216679958878168746311 [0, 1, 2, 6, 8, 11, 84, 85, 86] fuel ⟨[(0, .s (.int .u64 s)), (1, .s (.int .i64 a48)), (2, .s (.int .i64 v4)), (6, .s (.bool false)), (8, .li .i64 a49), (11, .li .i64 a50), (84, .sl 0 1 0 a51), (85, .s (.int .i64 a52)), (86, .s (.int .i64 a53))], [(0, some ⟨3, .li .i64 a54, true⟩)], 1, none⟩ (kont (fnX Try.prog mode3 T_sorted fuel 170 0) (bodyOf Try.prog 7) [1, 1, 1, 1, 1, 1, 1, 0, 1, 0] 64 (endK Try.prog 0 0 7))) := by kernel_rfl
noncomputable def lawOnceF {R : Type} (fuel : Nat) (s : Int) (n : Int) (many : Int) (r0 : Bool → Option R) : Option R :=
  (lawOnceF_s1 n many s (fun (a5 : Bool) => r0 a5) (fun (a48 : Int) (a49 : List Int) (a50 : List Int) (a51 : Nat) (a52 : Int) (a53 : Int) (a54 : List Int) (v4 : Int) => (lawOnceF_l1 fuel s v4 (fun (x55 : Int) (x56 : List Int) (x57 : List Int) => (lawOnceF_s3 s x55 v4 x56 x57 (fun (a58 : Bool) => r0 a58))) (fun (x59 : Int) (x60 : List Int) (x61 : List Int) => (lawOnceF_s4 x61 s x59 v4 x60 (fun (a79 : Int) (a80 : Int) => (lawOnceF_l2 fuel s x59 v4 x60 x61 ((lawOnceF_s6 s x59 (fun (a81 : Bool) => r0 a81))) ((lawOnceF_s7 s x59 (fun (a82 : Bool) => r0 a82))) fuel a79 a80)))) fuel a48 a49 a50 a51 a52 a53 a54)))
theorem lawOnceF_eq (fuel : Nat) (s : Int) (n : Int) (many : Int) : callN Try.prog mode3 T_sorted fuel 7 [.s (.int .u64 s), .s (.int .i64 n), .s (.int .i64 many)] [] = lawOnceF fuel s n many (fun (z0 : Bool) => some (.s (.bool z0), [])) := by
  unfold lawOnceF
  exact (lawOnceF_s1_eq fuel  n many s).trans (congr (congr (Eq.refl (lawOnceF_s1 (R := Out) n many s)) (rfl)) (funext fun a48 => funext fun a49 => funext fun a50 => funext fun a51 => funext fun a52 => funext fun a53 => funext fun a54 => funext fun v4 => (lawOnceF_l1_eq fuel s v4 (kont (fnX Try.prog mode3 T_sorted fuel 170 0) (bodyOf Try.prog 7) [1, 1, 1, 1, 1, 1, 1, 0, 1, 0] 64 (endK Try.prog 0 0 7)) fuel a48 a49 a50 a51 a52 a53 a54).trans (congrFun (congrFun (congrFun (congrFun (congrFun (congrFun (congrFun (congrFun (congr (congr (Eq.refl (lawOnceF_l1 (R := Out) fuel s v4)) (funext fun x55 => funext fun x56 => funext fun x57 => (lawOnceF_s3_eq fuel  s x55 v4 x56 x57))) (funext fun x59 => funext fun x60 => funext fun x61 => (lawOnceF_s4_eq fuel  x61 s x59 v4 x60).trans (congr (Eq.refl (lawOnceF_s4 (R := Out) x61 s x59 v4 x60)) (funext fun a79 => funext fun a80 => (lawOnceF_l2_eq fuel s x59 v4 x60 x61 (kont (fnX Try.prog mode3 T_sorted fuel 170 0) (bodyOf Try.prog 7) [1, 1, 1, 1, 1, 1, 1, 1, 0, 1, 0] 64 (endK Try.prog 0 0 7)) fuel a79 a80).trans (congrFun (congrFun (congrFun (congr (congr (Eq.refl (lawOnceF_l2 (R := Out) fuel s x59 v4 x60 x61)) ((lawOnceF_s6_eq fuel  s x59))) ((lawOnceF_s7_eq fuel  s x59))) fuel) a79) a80))))) fuel) a48) a49) a50) a51) a52) a53) a54)))
theorem lawOnce_all {R : Type} (fuel : Nat) (s v4 : Int) (m : Nat) (hm : m ≤ 512) (k0 k1 : Int → List Int → List Int → Option R) (N : Int) (a b : List Int) : ∀ (k j : Nat), j ≤ m → m < j + k → lawOnceF_l1 fuel s v4 k0 k1 k N a b m (m : Int) (j : Int) (iotaS m) = k1 N a b
  | 0, j, h1, h2 => by omega
  | k + 1, j, h1, h2 => by
    unfold lawOnceF_l1 lawOnceF_s2
    rw [br_if]
    by_cases hc : j < m
    · rw [if_pos (by simpa using hc), bnd_of (below_of (i := (j : Int)) (m := m) (by omega) (by omega)), Int.toNat_natCast, Nat.zero_add, bnd_of (iota_get m j hc), br_if, if_neg (by simp), wrap_i64 (by omega) (by omega), show (j : Int) + 1 = ((j + 1 : Nat) : Int) by omega]
      exact lawOnce_all fuel s v4 m hm k0 k1 N a b k (j + 1) (by omega) (by omega)
    · rw [if_neg (by simpa using hc)]
theorem lawOnce_in {R : Type} (fuel : Nat) (s N v4 : Int) (a b : List Int) (ha : a.length ≤ 512) (hb : b.length ≤ 512) (h4 : 0 ≤ v4) (h4b : v4 ≤ a.length) (hr : ∀ x ∈ b, 0 ≤ x ∧ x < N) (hl : b.Pairwise (· < ·)) (hab : ∀ x ∈ b, x ∈ a.take v4.toNat) (k0 k1 : Option R) : ∀ (k j : Nat), j ≤ b.length → b.length < j + k → lawOnceF_l2 fuel s N v4 a b k0 k1 k (b.length : Int) (j : Int) = k1
  | 0, j, h1, h2 => by omega
  | k + 1, j, h1, h2 => by
    unfold lawOnceF_l2 lawOnceF_s5
    rw [br_if]
    by_cases hc : j < b.length
    · have hm := List.getElem_mem hc
      have hh : hasS (a.take v4.toNat) b[j] = true := by rw [hasS_eq]; exact decide_eq_true (hab _ hm)
      have hx := hr _ hm
      have ih := lawOnce_in fuel s N v4 a b ha hb h4 h4b hr hl hab k0 k1 k (j + 1) (by omega) (by omega)
      have hlen : (a.take v4.toNat).length ≤ 1000000 := by rw [List.length_take]; omega
      rw [if_pos (by simpa using hc), bnd_of ((ix_nat _ j).trans (List.getElem?_eq_getElem hc)), br_if, if_neg (by simp; omega), br_if, if_neg (by simp; omega), br_if]
      rw [wrap_i64 (x := (j : Int) + 1) (by omega) (by omega), show (j : Int) + 1 = ((j + 1 : Nat) : Int) by omega]
      have e2 : upTo v4 a.length = some v4.toNat := upTo_of h4 h4b
      cases j with
      | zero =>
        rw [if_neg (by simp)]
        simp only [e2, bnd_some, List.drop_zero, Nat.sub_zero, grd_of (decide_eq_true hlen), hh, Bool.not_true, br_ff]
        exact ih
      | succ i =>
        have hlt := List.pairwise_iff_getElem.1 hl i (i + 1) (by omega) hc (by omega)
        rw [if_pos (by simp), wrap_i64 (by omega) (by omega), show ((i + 1 : Nat) : Int) - 1 = ((i : Nat) : Int) by omega, bnd_of ((ix_nat _ i).trans (List.getElem?_eq_getElem (by omega))), br_if, if_neg (by simp; omega)]
        simp only [e2, bnd_some, List.drop_zero, Nat.sub_zero, grd_of (decide_eq_true hlen), hh, Bool.not_true, br_ff]
        exact ih
    · rw [if_neg (by simpa using hc)]
theorem lawOnce_fact (s : Int) (n : Int) (many : Int) (hg : ((decide (0 ≤ s) && decide (s < 18446744073709551616)) && decide (-9223372036854775808 ≤ n) && decide (n ≤ 9223372036854775807) && decide (-9223372036854775808 ≤ many) && decide (many ≤ 9223372036854775807)) = true) : Fact Try.prog noG 7 [.s (.int .u64 s), .s (.int .i64 n), .s (.int .i64 many)] [] (.s (.bool true), []) := by
  simp only [Bool.and_eq_true, decide_eq_true_eq] at hg
  obtain ⟨⟨⟨⟨⟨h0, h1⟩, a1⟩, a2⟩, a3⟩, a4⟩ := hg
  refine callN_fact hN hM T_sorted_ok (n := 514) (mode := mode3) ?_
  rw [lawOnceF_eq]
  unfold lawOnceF lawOnceF_s1
  obtain ⟨v1, e1, b1, b2⟩ := rem_two n (b := 512) (by decide)
  have w1 : IntKind.i64.wrap (v1 + 512) = v1 + 512 := wrap_i64 (by omega) (by omega)
  obtain ⟨v2, e2, b3, b4⟩ := rem_nn (a := v1 + 512) (b := 512) (by omega) (by decide)
  have w2 : IntKind.i64.wrap (v2 + 1) = v2 + 1 := wrap_i64 (by omega) (by omega)
  have w5 : IntKind.i64.wrap (v2 + 1 + 1) = v2 + 1 + 1 := wrap_i64 (by omega) (by omega)
  obtain ⟨v3, e3, b5, b6⟩ := rem_two many (b := v2 + 1 + 1) (by omega)
  have w3 : IntKind.i64.wrap (v3 + (v2 + 1)) = v3 + (v2 + 1) := wrap_i64 (by omega) (by omega)
  have w6 : IntKind.i64.wrap (v3 + (v2 + 1) + 1) = v3 + (v2 + 1) + 1 := wrap_i64 (by omega) (by omega)
  obtain ⟨v4, e4, b7, b8⟩ := rem_nn (a := v3 + (v2 + 1) + 1) (b := v2 + 1 + 1) (by omega) (by omega)
  simp only [e1, bnd_some, w1, e2, w2, w5, e3, w3, w6, e4]
  have b9 : 1 ≤ v2 + 1 := by omega
  have b10 : v2 + 1 ≤ 512 := by omega
  clear e2 w2 e3 w3 e4 e1 w1 w5 w6
  generalize v2 + 1 = N at *
  have hu : (decide (0 ≤ s) && decide (s < 18446744073709551616)) = true := by simp; omega
  have s1 := someOk_of (n := N) (many := v4) (by omega) (by omega) (by omega) (by omega)
  have s2 : sizedS N = true := by unfold sizedS; simp; omega
  have l1 := shuffle_len s N
  have l2 := some_len (s := s) (n := N) (many := v4) (by omega) (by omega)
  have t1 : ((N.toNat : Nat) : Int) = N := by omega
  have t2 : ((v4.toNat : Nat) : Int) = v4 := by omega
  have hall := pre_all (s := s) (n := N) h0 h1 (by omega) (by omega)
  have q1 := fun k0 k1 => lawOnce_all (R := Out) 514 s v4 N.toNat (by omega) k0 k1 N (shuffleS s N).2 (someS s N v4) 514 0 (by omega) (by omega)
  have q2 := fun k0 k1 => lawOnce_in (R := Out) 514 s N v4 (shuffleS s N).2 (someS s N v4) (by omega) (by omega) (by omega) (by omega) (fun x hx => (mem_shuffle h0 h1 (by omega) (by omega)).1 ((List.take_sublist _ _).subset (mem_some.1 hx))) (some_lt h0 h1 (by omega) (by omega)) (fun x hx => mem_some.1 hx) k0 k1 514 0 (by omega) (by omega)
  rw [l2, t2, show ((0 : Nat) : Int) = 0 from rfl] at q2
  rw [t1, show ((0 : Nat) : Int) = 0 from rfl] at q1
  have hg1 : (decide (1 ≤ (shuffleS s N).2.length) && decide ((shuffleS s N).2.length ≤ 1000000)) = true := by rw [l1]; simp; omega
  have hi : (iotaS N.toNat).length = N.toNat := iota_len _
  simp only [grd_of hu, s1, s2, if_true, bne_self_eq_false, br_ff, grd_of hg1, hall, l1, l2, t1, t2]
  rw [l1] at hall
  have hg2 : (decide (1 ≤ N.toNat) && decide (N.toNat ≤ 1000000)) = true := by simp; omega
  simp only [bne_self_eq_false, br_ff, grd_of hg2, hall, hi, t1, q1]
  unfold lawOnceF_s4
  simp only [l2, t2, q2]
  unfold lawOnceF_s7
  have hb := below_range (n := N) h0 h1 (by omega) (by omega)
  have c1 : decide ((belowS s N).2 ≥ 0) = true := by simp; omega
  have c2 : decide ((belowS s N).2 < N) = true := by simp; omega
  simp only [grd_of hu, s2, if_true, beq_self_eq_true, br_tt, c1, c2]
noncomputable def lawOnce_ent : List V → List Blk → Option (Bool × Out)
  | [.s (.int .u64 s), .s (.int .i64 n), .s (.int .i64 many)], [] => some (((decide (0 ≤ s) && decide (s < 18446744073709551616)) && decide (-9223372036854775808 ≤ n) && decide (n ≤ 9223372036854775807) && decide (-9223372036854775808 ≤ many) && decide (many ≤ 9223372036854775807)), (.s (.bool true), []))
  | _, _ => none
theorem lawOnce_ok : ∀ args bs out, lawOnce_ent args bs = some (true, out) → Fact Try.prog noG 7 args bs out := by
  intro args bs out h
  unfold lawOnce_ent at h
  split at h
  · rename_i s n many
    simp only [Option.some.injEq, Prod.mk.injEq] at h
    obtain ⟨hg, rfl⟩ := h
    exact lawOnce_fact s n many hg
  · cases h
noncomputable def T_lawOnce : Tbl := Tbl.cons 7 lawOnce_ent T_sorted
theorem T_lawOnce_ok : CallOk Try.prog noG T_lawOnce := cons_ok T_sorted_ok lawOnce_ok
end Go.Proofs.Ytkphabppgpcblaa
