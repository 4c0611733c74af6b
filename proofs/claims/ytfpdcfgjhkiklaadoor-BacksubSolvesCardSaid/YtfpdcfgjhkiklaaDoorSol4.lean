/- The documents own reduction. -/
import Derived.Test.YtfpdcfgjhkiklaaDoorPmTab
import Derived.KernelRfl
import Derived.Test.YtfpdcfgjhkiklaaDoorProg
import Derived.Test.YtfpdcfgjhkiklaaDoorBs
set_option autoImplicit false
set_option maxRecDepth 100000
set_option maxHeartbeats 4000000
set_option linter.unusedVariables false
set_option linter.unusedSimpArgs false
namespace Go.Proofs.YtfpdcfgjhkiklaaDoor
open Go Go.PM Go.Proofs Go.Shelf Go.PM.Row Go.PM.Bits Go.PM.Bit Go.PM.Blk Go.PM.Lin
def mode21 : FuncId → Nat := fun f => 0
/-! The document's reduction. -/
def frFrom (v : Nat) : Nat → Nat → Int
  | 0, _ => -1
  | d + 1, i => if v.testBit i = true then (i : Int) else frFrom v d (i + 1)
def frI (n : Int) (ws : List Int) : Int := frFrom (val ws) n.toNat 0
noncomputable def frS : Int → List Int → Int := Classical.choose (⟨frI, rfl⟩ : ∃ f, f = frI)
theorem frS_eq : frS = frI := Classical.choose_spec (⟨frI, rfl⟩ : ∃ f, f = frI)
noncomputable def fp (v : Nat) : Nat := (frFrom v 600 0).toNat
noncomputable def wR (vs : List Nat) : List (Nat × Nat) := vs.map fun v => (fp v, v)
noncomputable def nzI (n : Int) (l : List Rw) : Bool := decide (0 ≤ n) && decide (n ≤ 512) && decide (l.length ≤ 1000) && l.all fun r => decide (r.1 = n) && okW r.2 && rtS n r.2 && decide (val r.2 ≠ 0)
noncomputable def nzM : Int → List Rw → Bool := Classical.choose (⟨nzI, rfl⟩ : ∃ f, f = nzI)
theorem nzM_eq : nzM = nzI := Classical.choose_spec (⟨nzI, rfl⟩ : ∃ f, f = nzI)
noncomputable def rtMI (n : Int) (l : List Rw) : Bool := decide (0 ≤ n) && decide (n ≤ 512) && decide (l.length ≤ 1000) && l.all fun r => decide (r.1 = n) && okW r.2 && rtS n r.2
noncomputable def rtM : Int → List Rw → Bool := Classical.choose (⟨rtMI, rfl⟩ : ∃ f, f = rtMI)
theorem rtM_eq : rtM = rtMI := Classical.choose_spec (⟨rtMI, rfl⟩ : ∃ f, f = rtMI)
noncomputable def leftWI (n : Int) (l : List Rw) (ws : List Int) : List Int := words (nw n) (left (wR (vals l)) (val ws))
noncomputable def leftW : Int → List Rw → List Int → List Int := Classical.choose (⟨leftWI, rfl⟩ : ∃ f, f = leftWI)
theorem leftW_eq : leftW = leftWI := Classical.choose_spec (⟨leftWI, rfl⟩ : ∃ f, f = leftWI)
noncomputable def withMI (n : Int) (l : List Rw) (ws : List Int) : List Rw := mrs n (Lin.rows (ins (wR (vals l)) (fp (val ws)) (val ws)))
noncomputable def withM : Int → List Rw → List Int → List Rw := Classical.choose (⟨withMI, rfl⟩ : ∃ f, f = withMI)
theorem withM_eq : withM = withMI := Classical.choose_spec (⟨withMI, rfl⟩ : ∃ f, f = withMI)
noncomputable def echRI (n : Int) (m : List Rw) : List Rw := mrs n (Lin.rows (red (vals m)))
noncomputable def echR : Int → List Rw → List Rw := Classical.choose (⟨echRI, rfl⟩ : ∃ f, f = echRI)
theorem echR_eq : echR = echRI := Classical.choose_spec (⟨echRI, rfl⟩ : ∃ f, f = echRI)
theorem frFrom_spec (v : Nat) : ∀ d i, (frFrom v d i = -1 ∧ ∀ j, i ≤ j → j < i + d → v.testBit j = false) ∨ ∃ p, i ≤ p ∧ p < i + d ∧ frFrom v d i = (p : Int) ∧ v.testBit p = true ∧ ∀ j, i ≤ j → j < p → v.testBit j = false
  | 0, i => .inl ⟨rfl, fun j h1 h2 => by omega⟩
  | d + 1, i => by
    rw [frFrom]
    by_cases h : v.testBit i = true
    · rw [if_pos h]; exact .inr ⟨i, Nat.le_refl _, by omega, rfl, h, fun j h1 h2 => by omega⟩
    · rw [if_neg h]
      rcases frFrom_spec v d (i + 1) with ⟨h1, h2⟩ | ⟨p, h1, h2, h3, h4, h5⟩
      · refine .inl ⟨h1, fun j h3 h4 => ?_⟩
        rcases Nat.eq_or_lt_of_le h3 with rfl | h3
        · exact Bool.eq_false_iff.2 h
        · exact h2 j h3 (by omega)
      · refine .inr ⟨p, by omega, by omega, h3, h4, fun j h6 h7 => ?_⟩
        rcases Nat.eq_or_lt_of_le h6 with rfl | h6
        · exact Bool.eq_false_iff.2 h
        · exact h5 j h6 h7
theorem bit_ltN {N v b : Nat} (hv : v < 2 ^ N) (h : v.testBit b = true) : b < N := by
  apply Nat.lt_of_not_le
  intro hle
  rw [Nat.testBit_lt_two_pow (Nat.lt_of_lt_of_le hv (Nat.pow_le_pow_right (by decide) hle))] at h
  cases h
theorem fr_fst {v p d : Nat} (hf : IsFst v p) (hp : p < d) : frFrom v d 0 = (p : Int) := by
  rcases frFrom_spec v d 0 with ⟨_, h2⟩ | ⟨q, _, _, h3, h4, h5⟩
  · have := h2 p (Nat.zero_le _) (by omega)
    rw [hf.1] at this; cases this
  · have : q = p := IsFst.unique ⟨h4, fun j hj => h5 j (Nat.zero_le _) hj⟩ hf
    rw [h3, this]
theorem fp_fst {n : Int} (hn : n ≤ 512) {v p : Nat} (hv : v < 2 ^ n.toNat) (hf : IsFst v p) : fp v = p ∧ p < n.toNat := by
  have hp := bit_ltN hv hf.1
  unfold fp
  rw [fr_fst hf (by omega)]
  exact ⟨by omega, hp⟩
theorem fp_is {n : Int} (hn : n ≤ 512) {v : Nat} (hv : v < 2 ^ n.toNat) (h : v ≠ 0) : IsFst v (fp v) ∧ fp v < n.toNat := by
  obtain ⟨p, hp⟩ := exists_fst h
  obtain ⟨h1, h2⟩ := fp_fst hn hv hp
  rw [h1]; exact ⟨hp, h2⟩
theorem frS_words {n : Int} (h0 : 0 ≤ n) (h1 : n ≤ 512) {v : Nat} (hv : v < 2 ^ n.toNat) : frS n (words (nw n) v) = if v = 0 then -1 else (fp v : Int) := by
  obtain ⟨_, _, c⟩ := mr_rt h0 h1 hv
  rw [frS_eq]; unfold frI
  rw [c]
  by_cases h : v = 0
  · subst h
    rw [if_pos rfl]
    rcases frFrom_spec 0 n.toNat 0 with ⟨h2, _⟩ | ⟨p, _, _, _, h4, _⟩
    · exact h2
    · rw [Nat.zero_testBit] at h4; cases h4
  · obtain ⟨a, b⟩ := fp_is h1 hv h
    rw [if_neg h, fr_fst a b]
theorem xor_mr5 {n : Int} (h0 : 0 ≤ n) (h1 : n ≤ 512) {u v : Nat} (hu : u < 2 ^ n.toNat) (hv : v < 2 ^ n.toNat) : xorW n (words (nw n) u) n (words (nw n) v) = words (nw n) (u ^^^ v) := by
  obtain ⟨a, b, c⟩ := mr_rt h0 h1 hu
  obtain ⟨d, e, f⟩ := mr_rt h0 h1 hv
  obtain ⟨x1, x2, x3⟩ := xor_rt a d b e rfl
  obtain ⟨y1, y2, y3⟩ := xor_val a d b e rfl
  rw [row_words x1 x2, y2, c, f]
theorem bit_mr5 {n : Int} (h0 : 0 ≤ n) (h1 : n ≤ 512) {v : Nat} (hv : v < 2 ^ n.toNat) (i : Nat) : bitS (words (nw n) v) (i : Int) = if v.testBit i = true then 1 else 0 := by
  obtain ⟨_, _, c⟩ := mr_rt h0 h1 hv
  rw [bitS_eq]; unfold bitI
  rw [c, Int.toNat_natCast]
/-- Numbers of rows that are none 0. -/
def NZ (n : Int) (vs : List Nat) : Prop := (0 ≤ n ∧ n ≤ 512) ∧ vs.length ≤ 1000 ∧ ∀ v, v ∈ vs → v ≠ 0 ∧ v < 2 ^ n.toNat
theorem nz_of {n : Int} {l : List Rw} (h : nzM n l = true) : NZ n (vals l) ∧ l = mrs n (vals l) ∧ (vals l).length = l.length := by
  rw [nzM_eq] at h; unfold nzI at h
  simp only [Bool.and_eq_true, decide_eq_true_eq, List.all_eq_true] at h
  obtain ⟨⟨⟨h0, h1⟩, hl⟩, hr⟩ := h
  have hlen : (vals l).length = l.length := List.length_map _
  refine ⟨⟨⟨h0, h1⟩, by omega, fun v hv => ?_⟩, ?_, hlen⟩
  · obtain ⟨r, hm, rfl⟩ := List.mem_map.1 hv
    obtain ⟨⟨⟨e, a⟩, b⟩, c⟩ := hr r hm
    exact ⟨c, (rtS_iff.1 b).2.2⟩
  · unfold mrs vals
    rw [List.map_map]
    refine (List.map_id l).symm.trans (List.map_congr_left fun r hm => ?_)
    obtain ⟨⟨⟨e, a⟩, b⟩, c⟩ := hr r hm
    show r = (n, words (nw n) (val r.2))
    rw [← row_words a b, ← e]
theorem nz_mrs {n : Int} {vs : List Nat} (h : NZ n vs) : nzM n (mrs n vs) = true ∧ vals (mrs n vs) = vs := by
  obtain ⟨⟨h0, h1⟩, hl, hv⟩ := h
  constructor
  · rw [nzM_eq]; unfold nzI
    simp only [Bool.and_eq_true, decide_eq_true_eq, List.all_eq_true]
    refine ⟨⟨⟨h0, h1⟩, by rw [mrs_len]; exact hl⟩, fun r hr => ?_⟩
    obtain ⟨v, hm, rfl⟩ := List.mem_map.1 hr
    obtain ⟨a, b, c⟩ := mr_rt h0 h1 (hv v hm).2
    exact ⟨⟨⟨rfl, a⟩, b⟩, by show val (words (nw n) v) ≠ 0; rw [c]; exact (hv v hm).1⟩
  · unfold vals mrs
    rw [List.map_map]
    refine (List.map_congr_left fun v hm => ?_).trans (List.map_id vs)
    exact (mr_rt h0 h1 (hv v hm).2).2.2
theorem left_lt5 {n : Nat} : ∀ {l : List (Nat × Nat)}, (∀ x, x ∈ l → x.2 < 2 ^ n) → ∀ {v : Nat}, v < 2 ^ n → left l v < 2 ^ n
  | [], _, v, hv => hv
  | x :: t, h, v, hv => by
    unfold left
    refine left_lt5 (fun y hy => h y (List.mem_cons_of_mem _ hy)) ?_
    by_cases hb : v.testBit x.1 = true
    · rw [if_pos hb]; exact Nat.xor_lt_two_pow hv (h x (by simp))
    · rw [if_neg hb]; exact hv
theorem wR_red {n : Int} (hn : n ≤ 512) {r : List (Nat × Nat)} (h : Red r) (hv : ∀ x, x ∈ r → x.2 < 2 ^ n.toNat) : wR (Lin.rows r) = r := by
  unfold wR Lin.rows
  rw [List.map_map]
  refine (List.map_congr_left fun x hx => ?_).trans (List.map_id r)
  show (fp x.2, x.2) = x
  rw [(fp_fst hn (hv x hx) (h.fst x hx)).1]
theorem nz_red {n : Int} (h0 : 0 ≤ n) (hn : n ≤ 512) {vs : List Nat} {r : List (Nat × Nat)} (h : IsRed vs r) (hv : ∀ v, v ∈ vs → v < 2 ^ n.toNat) : NZ n (Lin.rows r) := by
  have hlt := fun x (hx : x ∈ r) => (h.lt hv hx).1
  have hl := h.len hv
  refine ⟨⟨h0, hn⟩, by unfold Lin.rows; rw [List.length_map]; omega, fun v hm => ?_⟩
  obtain ⟨x, hx, rfl⟩ := List.mem_map.1 hm
  refine ⟨fun e => ?_, hlt x hx⟩
  have := (h.1.fst x hx).1
  rw [e, Nat.zero_testBit] at this; cases this
noncomputable def lowF (p v : Nat) (vs : List Nat) : List Nat := (vs.filter fun x => decide (fp x < p)).map fun x => if x.testBit p = true then x ^^^ v else x
noncomputable def highF (p : Nat) (vs : List Nat) : List Nat := vs.filter fun x => decide (p < fp x)
theorem rows_ins (p v : Nat) (vs : List Nat) : Lin.rows (ins (wR vs) p v) = lowF p v vs ++ v :: highF p vs := by
  unfold ins wR lowF highF Lin.rows
  rw [List.map_append, List.map_append, List.map_singleton, List.filter_map, List.filter_map, List.map_map, List.map_map, List.map_map, List.append_assoc]
  congr 1
  show [v] ++ _ = _
  rw [List.singleton_append]
  congr 1
  exact List.map_id _
/-! downpour/downpourref04.First -/
noncomputable def r4FirstF_s2 {R : Type} (w1 n : Int) (ws : List Int) (c0 c1 : Int → Option R) (c2 : Option R) : Option R :=
  br (decide (w1 < n))
    (grd (okW ws && decide (0 ≤ w1) && decide (w1 < 64 * (ws.length : Int)) && decide (ws.length ≤ 1000000)) <|
    br (((bitS ws w1) : Int) == 1)
      (c0 w1)
      (c1 (IntKind.i64.wrap (w1 + 1))))
    (c2)
theorem r4FirstF_s2_eq (fuel k : Nat) (K : Ex → St → Option Out) (w1 n : Int) (ws : List Int) : lpN (sub (bodyOf Tryd.prog 85) [1, 0, 1, 0, 0]) (fnX Tryd.prog mode21 T_Fits fuel 15 0) 4 [1, 2, 3] (k + 1) ⟨[(1, .ptr 0 2 0 0), (2, vI 0), (3, vI w1)], [(0, some ⟨44, .agg [vI n, vW ws], true⟩)], 1, none⟩ K = r4FirstF_s2 w1 n ws (fun a3 => K .ret ⟨[(2, vI a3)], [], 0, none⟩) (fun a4 => lpN (sub (bodyOf Tryd.prog 85) [1, 0, 1, 0, 0]) (fnX Tryd.prog mode21 T_Fits fuel 15 0) 4 [1, 2, 3] k ⟨[(1, .ptr 0 2 0 0), (2, vI 0), (3, vI a4)], [(0, some ⟨44, .agg [vI n, vW ws], true⟩)], 1, none⟩ K) (K (.exit 0) ⟨[(2, vI 0)], [], 0, none⟩) := by kernel_rfl
noncomputable def r4FirstF_l1 {R : Type} (fuel : Nat) (n : Int) (ws : List Int) (k0 : Int → Option R) (k1 : Option R) : Nat → Int → Option R
  | 0, _ => none
  | k + 1, w1 =>
    (r4FirstF_s2 w1 n ws (fun a3 => k0 a3) (fun a4 => ( r4FirstF_l1 fuel n ws k0 k1 k a4 )) (k1))
theorem r4FirstF_l1_eq (fuel : Nat) (n : Int) (ws : List Int) (K : Ex → St → Option Out) : ∀ (k : Nat) (w1 : Int), lpN (sub (bodyOf Tryd.prog 85) [1, 0, 1, 0, 0]) (fnX Tryd.prog mode21 T_Fits fuel 15 0) 4 [1, 2, 3] k ⟨[(1, .ptr 0 2 0 0), (2, vI 0), (3, vI w1)], [(0, some ⟨44, .agg [vI n, vW ws], true⟩)], 1, none⟩ K = r4FirstF_l1 fuel n ws (fun y2 => K .ret ⟨[(2, vI y2)], [], 0, none⟩) (K (.exit 0) ⟨[(2, vI 0)], [], 0, none⟩) k w1
  | 0, _ => rfl
  | k + 1, w1 => by
    unfold r4FirstF_l1
    exact (r4FirstF_s2_eq fuel k K w1 n ws).trans (congr (congr (congr (Eq.refl (r4FirstF_s2 (R := Out) w1 n ws)) (rfl)) (funext fun a4 => r4FirstF_l1_eq fuel n ws K k a4)) (rfl))
noncomputable def r4FirstF_s3 {R : Type} (x6 : Int) (c0 : Int → Option R) : Option R :=
  c0 x6
theorem r4FirstF_s3_eq (fuel : Nat)  (x6 : Int) : (kont (fnX Tryd.prog mode21 T_Fits fuel 15 0) (bodyOf Tryd.prog 85) [1, 0, 1, 0] 4 (endK Tryd.prog 0 0 85)) .ret ⟨[(2, vI x6)], [], 0, none⟩ = r4FirstF_s3 x6 (fun a7 => some (vI a7, [])) := by kernel_rfl
noncomputable def r4FirstF_s4 {R : Type}  (c0 : Int → Option R) : Option R :=
  c0 (-1)
theorem r4FirstF_s4_eq (fuel : Nat)   : (kont (fnX Tryd.prog mode21 T_Fits fuel 15 0) (bodyOf Tryd.prog 85) [1, 0, 1, 0] 4 (endK Tryd.prog 0 0 85)) (.exit 0) ⟨[(2, vI 0)], [], 0, none⟩ = r4FirstF_s4  (fun a8 => some (vI a8, [])) := by kernel_rfl
noncomputable def r4FirstF_s1 {R : Type} (n : Int) (ws : List Int) (c0 : Int → Option R) : Option R :=
  c0 0
theorem r4FirstF_s1_eq (fuel : Nat)  (n : Int) (ws : List Int) : callN Tryd.prog mode21 T_Fits fuel 85 [.agg [vI n, vW ws]] [] = r4FirstF_s1 n ws (fun a5 => lpN (sub (bodyOf Tryd.prog 85) [1, 0, 1, 0, 0]) (fnX Tryd.prog mode21 T_Fits fuel 15 0) 4 [1, 2, 3] fuel ⟨[(1, .ptr 0 2 0 0), (2, vI 0), (3, vI a5)], [(0, some ⟨44, .agg [vI n, vW ws], true⟩)], 1, none⟩ (kont (fnX Tryd.prog mode21 T_Fits fuel 15 0) (bodyOf Tryd.prog 85) [1, 0, 1, 0] 4 (endK Tryd.prog 0 0 85))) := by kernel_rfl
noncomputable def r4FirstF {R : Type} (fuel : Nat) (n : Int) (ws : List Int) (r0 : Int → Option R) : Option R :=
  (r4FirstF_s1 n ws (fun a5 => (r4FirstF_l1 fuel n ws (fun x6 => (r4FirstF_s3 x6 (fun a7 => r0 a7))) ((r4FirstF_s4 (fun a8 => r0 a8))) fuel a5)))
theorem r4FirstF_eq (fuel : Nat) (n : Int) (ws : List Int) : callN Tryd.prog mode21 T_Fits fuel 85 [.agg [.s (.int .i64 n), .li .u64 ws]] [] = r4FirstF fuel n ws (fun z0 => some (.s (.int .i64 z0), [])) := by
  unfold r4FirstF
  exact (r4FirstF_s1_eq fuel  n ws).trans (congr (Eq.refl (r4FirstF_s1 (R := Out) n ws)) (funext fun a5 => (r4FirstF_l1_eq fuel n ws (kont (fnX Tryd.prog mode21 T_Fits fuel 15 0) (bodyOf Tryd.prog 85) [1, 0, 1, 0] 4 (endK Tryd.prog 0 0 85)) fuel a5).trans (congrFun (congrFun (congr (congr (Eq.refl (r4FirstF_l1 (R := Out) fuel n ws)) (funext fun x6 => (r4FirstF_s3_eq fuel  x6))) ((r4FirstF_s4_eq fuel  ))) fuel) a5)))
theorem r4First_loop {R : Type} (fuel m : Nat) (hm : m ≤ 512) (ws : List Int) (hok : okW ws = true) (hl : m ≤ 64 * ws.length) (hx : ws.length ≤ 1000) (k0 : Int → Option R) (k1 : Option R) : ∀ (d k i : Nat), i + d = m → d < k → r4FirstF_l1 fuel (m : Int) ws k0 k1 k (i : Int) = if frFrom (val ws) d i < 0 then k1 else k0 (frFrom (val ws) d i)
  | 0, 0, i, h1, h2 => by omega
  | 0, k + 1, i, h1, h2 => by
    unfold r4FirstF_l1 r4FirstF_s2
    rw [br_if, if_neg (by simp; omega), frFrom, if_pos (by decide)]
  | d + 1, 0, i, h1, h2 => by omega
  | d + 1, k + 1, i, h1, h2 => by
    unfold r4FirstF_l1 r4FirstF_s2
    have hb : bitS ws (i : Int) = if (val ws).testBit i = true then 1 else 0 := by rw [bitS_eq]; unfold bitI; rw [Int.toNat_natCast]
    rw [br_if, if_pos (by simp; omega), grd_of (by rw [hok]; simp; omega), br_if, hb, frFrom, wrap_i64 (by omega) (by omega), show (i : Int) + 1 = ((i + 1 : Nat) : Int) by omega]
    by_cases h : (val ws).testBit i = true
    · rw [if_pos h, if_pos (by decide), if_pos h, if_neg (by omega)]
    · rw [if_neg h, if_neg (by decide), if_neg h]
      exact r4First_loop fuel m hm ws hok hl hx k0 k1 d k (i + 1) (by omega) (by omega)
theorem r4First_fact (n : Int) (ws : List Int) (hg : (okW ws && rtS n ws) = true) : Fact Tryd.prog noG 85 [.agg [.s (.int .i64 n), .li .u64 ws]] [] (.s (.int .i64 (frS n ws)), []) := by
  rw [Bool.and_eq_true] at hg
  obtain ⟨hok, hr⟩ := hg
  obtain ⟨⟨h0, h1⟩, h2, _⟩ := rtS_iff.1 hr
  have hw := nw_cast h0
  have h8 := rt_le hr
  refine callN_fact hN hM T_Fits_ok (n := 600) (mode := mode21) ?_
  rw [r4FirstF_eq]
  unfold r4FirstF r4FirstF_s1
  obtain ⟨m, rfl⟩ : ∃ m : Nat, n = (m : Int) := ⟨n.toNat, by omega⟩
  have hl := fun k0 k1 => r4First_loop (R := Out) 600 m (by omega) ws hok (by omega) (by omega) k0 k1 m 600 0 (by omega) (by omega)
  rw [show ((0 : Nat) : Int) = 0 from rfl] at hl
  dsimp only
  rw [hl, frS_eq]
  unfold frI r4FirstF_s3 r4FirstF_s4
  rw [Int.toNat_natCast]
  by_cases h : frFrom (val ws) m 0 < 0
  · rw [if_pos h]
    rcases frFrom_spec (val ws) m 0 with ⟨h3, _⟩ | ⟨p, _, _, h3, _⟩
    · rw [h3]
    · omega
  · rw [if_neg h]
noncomputable def r4First_ent : List V → List Blk → Option (Bool × Out)
  | [.agg [.s (.int .i64 n), w0]], [] => (asSl (.int .u64) w0).bind fun ws => some ((okW ws && rtS n ws), (.s (.int .i64 (frS n ws)), []))
  | _, _ => none
theorem r4First_ok : ∀ args bs out, r4First_ent args bs = some (true, out) → Fact Tryd.prog noG 85 args bs out := by
  intro args bs out h
  unfold r4First_ent at h
  split at h
  · rename_i n w0
    obtain ⟨ws, h_ws, h⟩ := Option.bind_eq_some_iff.1 h
    simp only [Option.some.injEq, Prod.mk.injEq] at h
    obtain ⟨hg, rfl⟩ := h
    exact (r4First_fact n ws hg).args (fun _ _ _ => fun _ h => RVs_two (fun _ h => RV_agg_two (fun _ h => RVs_two (fun _ h => h) (fun _ h => RVs_two (fun _ h => RV_li h_ws h) (fun _ h => h) h) h) h) (fun _ h => h) h)
  · cases h
noncomputable def T_r4First : Tbl := Tbl.cons 85 r4First_ent T_Fits
theorem T_r4First_ok : CallOk Tryd.prog noG T_r4First := cons_ok T_Fits_ok r4First_ok
/-! downpour/downpourref04.Left -/
noncomputable abbrev qe0 : Nat × Option Blk := (1, some ⟨44, .agg [vI 0, vN], true⟩)
noncomputable abbrev qe1 (fuel : Nat) : Ctx Out := (fnX Tryd.prog mode21 T_r4First fuel 23 0)
noncomputable abbrev qe2 : Code := (sub (bodyOf Tryd.prog 133) [1, 0, 1, 0, 0])
noncomputable def r4LeftF_s2 {R : Type} (w4 w3 : Int) (l : List (Int × List Int)) (w5 : List Int) (n : Int) (c0 c1 : Int → Int → List Int → Option R) (c2 : List Int → Option R) : Option R :=
  br (decide (w4 < w3))
    (bnd (ix l w4) fun e8 =>
    grd (okW e8.2 && rtS e8.1 e8.2) <|
    grd (okW w5 && decide (0 ≤ (frS e8.1 e8.2)) && decide ((frS e8.1 e8.2) < 64 * (w5.length : Int)) && decide (w5.length ≤ 1000000)) <|
    br (((bitS w5 (frS e8.1 e8.2)) : Int) == 1)
      (grd (rtS n w5 && rtS e8.1 e8.2 && decide (n = e8.1) && okW w5 && okW e8.2) <|
      c0 w3 (IntKind.i64.wrap (w4 + 1)) (xorW n w5 e8.1 e8.2))
      (c1 w3 (IntKind.i64.wrap (w4 + 1)) w5))
    (c2 w5)
theorem r4LeftF_s2_eq (fuel k : Nat) (K : Ex → St → Option Out) (w4 w3 : Int) (l : List (Int × List Int)) (w5 : List Int) (n : Int) : lpN qe2 (qe1 fuel) 4194328 [3, 4, 7, 8, 9] (k + 1) ⟨[(3, .ptr 0 2 0 0), (4, .ptr 1 2 0 0), (7, vR l), (8, vI w3), (9, vI w4)], [(0, some ⟨44, .agg [vI n, vW w5], true⟩), qe0], 2, none⟩ K = r4LeftF_s2 w4 w3 l w5 n (fun a9 a0 a1 => lpN qe2 (qe1 fuel) 4194328 [3, 4, 7, 8, 9] k ⟨[(3, .ptr 0 2 0 0), (4, .ptr 1 2 0 0), (7, vR l), (8, vI a9), (9, vI a0)], [(0, some ⟨44, .agg [vI n, vW a1], true⟩), qe0], 2, none⟩ K) (fun a2 a3 a4 => lpN qe2 (qe1 fuel) 4194328 [3, 4, 7, 8, 9] k ⟨[(3, .ptr 0 2 0 0), (4, .ptr 1 2 0 0), (7, vR l), (8, vI a2), (9, vI a3)], [(0, some ⟨44, .agg [vI n, vW a4], true⟩), qe0], 2, none⟩ K) (fun a5 => K (.exit 0) ⟨[(3, .ptr 0 2 0 0), (4, .ptr 1 2 0 0)], [(0, some ⟨44, .agg [vI n, vW a5], true⟩), qe0], 2, none⟩) := by kernel_rfl
noncomputable def r4LeftF_l1 {R : Type} (fuel : Nat) (l : List (Int × List Int)) (n : Int) (k0 : List Int → Option R) : Nat → Int → Int → List Int → Option R
  | 0, _, _, _ => none
  | k + 1, w3, w4, w5 =>
    (r4LeftF_s2 w4 w3 l w5 n (fun a9 a0 a1 => ( r4LeftF_l1 fuel l n k0 k a9 a0 a1 )) (fun a2 a3 a4 => ( r4LeftF_l1 fuel l n k0 k a2 a3 a4 )) (fun a5 => k0 a5))
theorem r4LeftF_l1_eq (fuel : Nat) (l : List (Int × List Int)) (n : Int) (K : Ex → St → Option Out) : ∀ (k : Nat) (w3 w4 : Int) (w5 : List Int), lpN qe2 (qe1 fuel) 4194328 [3, 4, 7, 8, 9] k ⟨[(3, .ptr 0 2 0 0), (4, .ptr 1 2 0 0), (7, vR l), (8, vI w3), (9, vI w4)], [(0, some ⟨44, .agg [vI n, vW w5], true⟩), qe0], 2, none⟩ K = r4LeftF_l1 fuel l n (fun y7 => K (.exit 0) ⟨[(3, .ptr 0 2 0 0), (4, .ptr 1 2 0 0)], [(0, some ⟨44, .agg [vI n, vW y7], true⟩), qe0], 2, none⟩) k w3 w4 w5
  | 0, _, _, _ => rfl
  | k + 1, w3, w4, w5 => by
    unfold r4LeftF_l1
    exact (r4LeftF_s2_eq fuel k K w4 w3 l w5 n).trans (congr (congr (congr (Eq.refl (r4LeftF_s2 (R := Out) w4 w3 l w5 n)) (funext fun a9 => funext fun a0 => funext fun a1 => r4LeftF_l1_eq fuel l n K k a9 a0 a1)) (funext fun a2 => funext fun a3 => funext fun a4 => r4LeftF_l1_eq fuel l n K k a2 a3 a4)) (rfl))
noncomputable def r4LeftF_s3 {R : Type} (n : Int) (x0 : List Int) (c0 : Int → List Int → Option R) : Option R :=
  c0 n x0
theorem r4LeftF_s3_eq (fuel : Nat)  (n : Int) (x0 : List Int) : (kont (qe1 fuel) (bodyOf Tryd.prog 133) [1, 0, 1, 0] 16 (endK Tryd.prog 0 0 133)) (.exit 0) ⟨[(3, .ptr 0 2 0 0), (4, .ptr 1 2 0 0)], [(0, some ⟨44, .agg [vI n, vW x0], true⟩), qe0], 2, none⟩ = r4LeftF_s3 n x0 (fun a0 a1 => some (.agg [vI a0, vW a1], [])) := by kernel_rfl
noncomputable def r4LeftF_s1 {R : Type} (l : List (Int × List Int)) (ws : List Int) (n : Int) (c0 : Int → Int → List Int → Option R) : Option R :=
  c0 ((l.length : Nat) : Int) 0 ws
theorem r4LeftF_s1_eq (fuel : Nat)  (l : List (Int × List Int)) (ws : List Int) (n : Int) : callN Tryd.prog mode21 T_r4First fuel 133 [vR l, .agg [vI n, vW ws]] [] = r4LeftF_s1 l ws n (fun a0 a1 a2 => lpN qe2 (qe1 fuel) 4194328 [3, 4, 7, 8, 9] fuel ⟨[(3, .ptr 0 2 0 0), (4, .ptr 1 2 0 0), (7, vR l), (8, vI a0), (9, vI a1)], [(0, some ⟨44, .agg [vI n, vW a2], true⟩), qe0], 2, none⟩ (kont (qe1 fuel) (bodyOf Tryd.prog 133) [1, 0, 1, 0] 16 (endK Tryd.prog 0 0 133))) := by kernel_rfl
noncomputable def r4LeftF {R : Type} (fuel : Nat) (l : List (Int × List Int)) (n : Int) (ws : List Int) (r0 : Int → List Int → Option R) : Option R :=
  (r4LeftF_s1 l ws n (fun a0 a1 a2 => (r4LeftF_l1 fuel l n (fun x0 => (r4LeftF_s3 n x0 (fun a3 a4 => r0 a3 a4))) fuel a0 a1 a2)))
theorem r4LeftF_eq (fuel : Nat) (l : List (Int × List Int)) (n : Int) (ws : List Int) : callN Tryd.prog mode21 T_r4First fuel 133 [.lt (.pair (.int .i64) (.sl (.int .u64))) l, .agg [.s (.int .i64 n), .li .u64 ws]] [] = r4LeftF fuel l n ws (fun z0 z1 => some (.agg [.s (.int .i64 z0), .li .u64 z1], [])) := by
  unfold r4LeftF
  exact (r4LeftF_s1_eq fuel  l ws n).trans (congr (Eq.refl (r4LeftF_s1 (R := Out) l ws n)) (funext fun a0 => funext fun a1 => funext fun a2 => (r4LeftF_l1_eq fuel l n (kont (qe1 fuel) (bodyOf Tryd.prog 133) [1, 0, 1, 0] 16 (endK Tryd.prog 0 0 133)) fuel a0 a1 a2).trans (congrFun (congrFun (congrFun (congrFun (congr (Eq.refl (r4LeftF_l1 (R := Out) fuel l n)) (funext fun x0 => (r4LeftF_s3_eq fuel  n x0))) fuel) a0) a1) a2)))
theorem r4Left_loop {R : Type} (fuel : Nat) (n : Int) (vs : List Nat) (hz : NZ n vs) (k0 : List Int → Option R) : ∀ (k j v : Nat), j ≤ vs.length → vs.length < j + k → v < 2 ^ n.toNat → r4LeftF_l1 fuel (mrs n vs) n k0 k (vs.length : Int) (j : Int) (words (nw n) v) = k0 (words (nw n) (left (wR (vs.drop j)) v))
  | 0, j, v, h1, h2, _ => by omega
  | k + 1, j, v, h1, h2, hv => by
    obtain ⟨⟨n0, n1⟩, hl, hvs⟩ := hz
    have hw := nw_cast n0
    unfold r4LeftF_l1 r4LeftF_s2
    rw [br_if]
    by_cases hc : j < vs.length
    · obtain ⟨z1, z2⟩ := hvs _ (List.getElem_mem hc)
      obtain ⟨a, b, c⟩ := mr_rt n0 n1 z2
      obtain ⟨a', b', c'⟩ := mr_rt n0 n1 hv
      obtain ⟨f1, f2⟩ := fp_is n1 z2 z1
      have e1 : ix (mrs n vs) (j : Int) = some (mr n vs[j]) := by unfold mrs; rw [ix_nat, List.getElem?_map, List.getElem?_eq_getElem hc]; rfl
      have ef : frS (mr n vs[j]).1 (mr n vs[j]).2 = (fp vs[j] : Int) := (frS_words n0 n1 z2).trans (if_neg z1)
      have ex : xorW n (words (nw n) v) (mr n vs[j]).1 (mr n vs[j]).2 = words (nw n) (v ^^^ vs[j]) := xor_mr5 n0 n1 hv z2
      have hwl : (words (nw n) v).length = nw n := length_words _ _
      have h8 := nw_le n1
      have ed : wR (vs.drop j) = (fp vs[j], vs[j]) :: wR (vs.drop (j + 1)) := by rw [List.drop_eq_getElem_cons hc]; rfl
      rw [if_pos (by simpa using hc), bnd_of e1, grd_of (by rw [show okW (mr n vs[j]).2 = true from a, show rtS (mr n vs[j]).1 (mr n vs[j]).2 = true from b]; rfl), ef, grd_of (by rw [a', hwl]; simp; omega), br_if, bit_mr5 n0 n1 hv, grd_of (by rw [b', a', show okW (mr n vs[j]).2 = true from a, show rtS (mr n vs[j]).1 (mr n vs[j]).2 = true from b, decide_eq_true (show n = (mr n vs[j]).1 from rfl)]; rfl), ex, wrap_i64 (by omega) (by omega), show (j : Int) + 1 = ((j + 1 : Nat) : Int) by omega, ed]
      unfold left
      dsimp only
      by_cases hb : v.testBit (fp vs[j]) = true
      · rw [if_pos hb, if_pos (by decide), if_pos hb]
        exact r4Left_loop fuel n vs ⟨⟨n0, n1⟩, hl, hvs⟩ k0 k (j + 1) (v ^^^ vs[j]) (by omega) (by omega) (Nat.xor_lt_two_pow hv z2)
      · rw [if_neg hb, if_neg (by decide), if_neg hb]
        exact r4Left_loop fuel n vs ⟨⟨n0, n1⟩, hl, hvs⟩ k0 k (j + 1) v (by omega) (by omega) hv
    · rw [if_neg (by simpa using hc), List.drop_eq_nil_of_le (by omega)]
      rfl
theorem r4Left_fact (l : List (Int × List Int)) (n : Int) (ws : List Int) (hg : (nzM n l && (okW ws && rtS n ws)) = true) : Fact Tryd.prog noG 133 [.lt (.pair (.int .i64) (.sl (.int .u64))) l, .agg [.s (.int .i64 n), .li .u64 ws]] [] (.agg [.s (.int .i64 n), .li .u64 (leftW n l ws)], []) := by
  simp only [Bool.and_eq_true] at hg
  obtain ⟨hz, hok, hr⟩ := hg
  obtain ⟨z1, z2, z3⟩ := nz_of hz
  have hv : val ws < 2 ^ n.toNat := (rtS_iff.1 hr).2.2
  have hl := z1.2.1
  refine callN_fact hN hM T_r4First_ok (n := 1100) (mode := mode21) ?_
  rw [r4LeftF_eq]
  unfold r4LeftF r4LeftF_s1
  have hl2 := fun k0 => r4Left_loop (R := Out) 1100 n (vals l) z1 k0 1100 0 (val ws) (by omega) (by omega) hv
  rw [show ((0 : Nat) : Int) = 0 from rfl, List.drop_zero, ← z2, z3, ← row_words hok hr] at hl2
  dsimp only
  rw [hl2]
  unfold r4LeftF_s3
  rw [leftW_eq]
  rfl
noncomputable def r4Left_ent : List V → List Blk → Option (Bool × Out)
  | [w0, .agg [.s (.int .i64 n), w1]], [] => (asSl (.pair (.int .i64) (.sl (.int .u64))) w0).bind fun l => (asSl (.int .u64) w1).bind fun ws => some ((nzM n l && (okW ws && rtS n ws)), (.agg [.s (.int .i64 n), .li .u64 (leftW n l ws)], []))
  | _, _ => none
theorem r4Left_ok : ∀ args bs out, r4Left_ent args bs = some (true, out) → Fact Tryd.prog noG 133 args bs out := by
  intro args bs out h
  unfold r4Left_ent at h
  split at h
  · rename_i w0 n w1
    obtain ⟨l, h_l, h⟩ := Option.bind_eq_some_iff.1 h
    obtain ⟨ws, h_ws, h⟩ := Option.bind_eq_some_iff.1 h
    simp only [Option.some.injEq, Prod.mk.injEq] at h
    obtain ⟨hg, rfl⟩ := h
    exact (r4Left_fact l n ws hg).args (fun _ _ _ => fun _ h => RVs_two (fun _ h => RV_sl (s := (.pair (.int .i64) (.sl (.int .u64)))) h_l h) (fun _ h => RVs_two (fun _ h => RV_agg_two (fun _ h => RVs_two (fun _ h => h) (fun _ h => RVs_two (fun _ h => RV_li h_ws h) (fun _ h => h) h) h) h) (fun _ h => h) h) h)
  · cases h
noncomputable def T_r4Left : Tbl := Tbl.cons 133 r4Left_ent T_r4First
theorem T_r4Left_ok : CallOk Tryd.prog noG T_r4Left := cons_ok T_r4First_ok r4Left_ok
/-! downpour/downpourref04.with -/
noncomputable abbrev qe3 (fuel : Nat) : Ctx Out := (fnX Tryd.prog mode21 T_r4Left fuel 56 0)
noncomputable abbrev qe4 : Code := (bodyOf Tryd.prog 134)
noncomputable abbrev qe5 (n : Int) (ws : List Int) : Nat × Option Blk := (0, some ⟨44, .agg [vI n, vW ws], true⟩)
noncomputable abbrev qe6 : Code := (sub qe4 [1, 1, 1, 0, 1, 0, 0])
noncomputable abbrev qe7 : Code := (sub qe4 [1, 1, 1, 1, 1, 0, 1, 0, 0])
noncomputable def r4withF_s2 {R : Type} (w7 w6 : Int) (l : List (Int × List Int)) (w5 n : Int) (ws : List Int) (w8 : List (Int × List Int)) (w4 : Nat) (c0 c1 c2 : Int → Nat → Int → Int → (List (Int × List Int)) → Option R) (c3 : Int → Nat → (List (Int × List Int)) → Option R) : Option R :=
  br (decide (w7 < w6))
    (bnd (ix l w7) fun e0 =>
    grd (okW e0.2 && rtS e0.1 e0.2) <|
    br (decide ((frS e0.1 e0.2) < w5))
      (grd (okW e0.2 && decide (0 ≤ w5) && decide (w5 < 64 * (e0.2.length : Int)) && decide (e0.2.length ≤ 1000000)) <|
      br (((bitS e0.2 w5) : Int) == 1)
        (grd (rtS e0.1 e0.2 && rtS n ws && decide (e0.1 = n) && okW e0.2 && okW ws) <|
        grd (Nat.beq w8.length w4) <|
        grd (okN (w4 + 1) 32) <|
        c0 w5 ((w8 ++ [(e0.1, (xorW e0.1 e0.2 n ws))]).length) w6 (IntKind.i64.wrap (w7 + 1)) (w8 ++ [(e0.1, (xorW e0.1 e0.2 n ws))]))
        (grd (Nat.beq w8.length w4) <|
        grd (okN (w4 + 1) 32) <|
        c1 w5 ((w8 ++ [e0]).length) w6 (IntKind.i64.wrap (w7 + 1)) (w8 ++ [e0])))
      (c2 w5 w4 w6 (IntKind.i64.wrap (w7 + 1)) w8))
    (c3 w5 w4 w8)
theorem r4withF_s2_eq (fuel k : Nat) (K : Ex → St → Option Out) (w7 w6 : Int) (l : List (Int × List Int)) (w5 n : Int) (ws : List Int) (w8 : List (Int × List Int)) (w4 : Nat) : lpN qe6 (qe3 fuel) 72057525318452345 [0, 3, 4, 5, 6, 14, 15, 16] (k + 1) ⟨[(0, vR l), (3, .ptr 0 2 0 0), (4, vN), (5, vI w5), (6, .sl 1 2 0 w4), (14, vR l), (15, vI w6), (16, vI w7)], [(qe5 n ws), (1, some ⟨44, vR w8, true⟩)], 2, none⟩ K = r4withF_s2 w7 w6 l w5 n ws w8 w4 (fun a0 a1 a2 a3 a4 => lpN qe6 (qe3 fuel) 72057525318452345 [0, 3, 4, 5, 6, 14, 15, 16] k ⟨[(0, vR l), (3, .ptr 0 2 0 0), (4, vN), (5, vI a0), (6, .sl 1 2 0 a1), (14, vR l), (15, vI a2), (16, vI a3)], [(qe5 n ws), (1, some ⟨44, vR a4, true⟩)], 2, none⟩ K) (fun a5 a6 a7 a8 a9 => lpN qe6 (qe3 fuel) 72057525318452345 [0, 3, 4, 5, 6, 14, 15, 16] k ⟨[(0, vR l), (3, .ptr 0 2 0 0), (4, vN), (5, vI a5), (6, .sl 1 2 0 a6), (14, vR l), (15, vI a7), (16, vI a8)], [(qe5 n ws), (1, some ⟨44, vR a9, true⟩)], 2, none⟩ K) (fun a24 a25 a26 a27 a28 => lpN qe6 (qe3 fuel) 72057525318452345 [0, 3, 4, 5, 6, 14, 15, 16] k ⟨[(0, vR l), (3, .ptr 0 2 0 0), (4, vN), (5, vI a24), (6, .sl 1 2 0 a25), (14, vR l), (15, vI a26), (16, vI a27)], [(qe5 n ws), (1, some ⟨44, vR a28, true⟩)], 2, none⟩ K) (fun a29 a30 a31 => K (.exit 0) ⟨[(0, vR l), (3, .ptr 0 2 0 0), (4, vN), (5, vI a29), (6, .sl 1 2 0 a30)], [(qe5 n ws), (1, some ⟨44, vR a31, true⟩)], 2, none⟩) := by kernel_rfl
noncomputable def r4withF_l1 {R : Type} (fuel : Nat) (l : List (Int × List Int)) (n : Int) (ws : List Int) (k0 : Int → Nat → (List (Int × List Int)) → Option R) : Nat → Int → Nat → Int → Int → (List (Int × List Int)) → Option R
  | 0, _, _, _, _, _ => none
  | k + 1, w5, w4, w6, w7, w8 =>
    (r4withF_s2 w7 w6 l w5 n ws w8 w4 (fun a0 a1 a2 a3 a4 => ( r4withF_l1 fuel l n ws k0 k a0 a1 a2 a3 a4 )) (fun a5 a6 a7 a8 a9 => ( r4withF_l1 fuel l n ws k0 k a5 a6 a7 a8 a9 )) (fun a24 a25 a26 a27 a28 => ( r4withF_l1 fuel l n ws k0 k a24 a25 a26 a27 a28 )) (fun a29 a30 a31 => k0 a29 a30 a31))
theorem r4withF_l1_eq (fuel : Nat) (l : List (Int × List Int)) (n : Int) (ws : List Int) (K : Ex → St → Option Out) : ∀ (k : Nat) (w5 : Int) (w4 : Nat) (w6 w7 : Int) (w8 : List (Int × List Int)), lpN qe6 (qe3 fuel) 72057525318452345 [0, 3, 4, 5, 6, 14, 15, 16] k ⟨[(0, vR l), (3, .ptr 0 2 0 0), (4, vN), (5, vI w5), (6, .sl 1 2 0 w4), (14, vR l), (15, vI w6), (16, vI w7)], [(qe5 n ws), (1, some ⟨44, vR w8, true⟩)], 2, none⟩ K = r4withF_l1 fuel l n ws (fun y0 y1 y2 => K (.exit 0) ⟨[(0, vR l), (3, .ptr 0 2 0 0), (4, vN), (5, vI y0), (6, .sl 1 2 0 y1)], [(qe5 n ws), (1, some ⟨44, vR y2, true⟩)], 2, none⟩) k w5 w4 w6 w7 w8
  | 0, _, _, _, _, _ => rfl
  | k + 1, w5, w4, w6, w7, w8 => by
    unfold r4withF_l1
    exact (r4withF_s2_eq fuel k K w7 w6 l w5 n ws w8 w4).trans (congr (congr (congr (congr (Eq.refl (r4withF_s2 (R := Out) w7 w6 l w5 n ws w8 w4)) (funext fun a0 => funext fun a1 => funext fun a2 => funext fun a3 => funext fun a4 => r4withF_l1_eq fuel l n ws K k a0 a1 a2 a3 a4)) (funext fun a5 => funext fun a6 => funext fun a7 => funext fun a8 => funext fun a9 => r4withF_l1_eq fuel l n ws K k a5 a6 a7 a8 a9)) (funext fun a24 => funext fun a25 => funext fun a26 => funext fun a27 => funext fun a28 => r4withF_l1_eq fuel l n ws K k a24 a25 a26 a27 a28)) (rfl))
noncomputable def r4withF_s4 {R : Type} (w0 w1 : Int) (l : List (Int × List Int)) (x0 : Int) (w2 : List (Int × List Int)) (w3 : Nat) (c0 c1 : Nat → Int → Int → (List (Int × List Int)) → Option R) (c2 : Nat → (List (Int × List Int)) → Option R) : Option R :=
  br (decide (w0 < w1))
    (bnd (ix l w0) fun e0 =>
    grd (okW e0.2 && rtS e0.1 e0.2) <|
    br (decide ((frS e0.1 e0.2) > x0))
      (grd (Nat.beq w2.length w3) <|
      grd (okN (w3 + 1) 32) <|
      c0 ((w2 ++ [e0]).length) w1 (IntKind.i64.wrap (w0 + 1)) (w2 ++ [e0]))
      (c1 w3 w1 (IntKind.i64.wrap (w0 + 1)) w2))
    (c2 w3 w2)
theorem r4withF_s4_eq (fuel k : Nat) (K : Ex → St → Option Out) (w0 w1 : Int) (l : List (Int × List Int)) (x0 : Int) (w2 : List (Int × List Int)) (w3 : Nat) : lpN qe7 (qe3 fuel) 36028797018964048 [4, 5, 6, 40, 41, 42] (k + 1) ⟨[(4, vN), (5, vI x0), (6, .sl 0 2 0 w3), (40, vR l), (41, vI w1), (42, vI w0)], [(0, some ⟨44, vR w2, true⟩)], 1, none⟩ K = r4withF_s4 w0 w1 l x0 w2 w3 (fun a0 a1 a2 a3 => lpN qe7 (qe3 fuel) 36028797018964048 [4, 5, 6, 40, 41, 42] k ⟨[(4, vN), (5, vI x0), (6, .sl 0 2 0 a0), (40, vR l), (41, vI a1), (42, vI a2)], [(0, some ⟨44, vR a3, true⟩)], 1, none⟩ K) (fun a4 a5 a6 a7 => lpN qe7 (qe3 fuel) 36028797018964048 [4, 5, 6, 40, 41, 42] k ⟨[(4, vN), (5, vI x0), (6, .sl 0 2 0 a4), (40, vR l), (41, vI a5), (42, vI a6)], [(0, some ⟨44, vR a7, true⟩)], 1, none⟩ K) (fun a8 a9 => K (.exit 2) ⟨[(4, vN), (6, .sl 0 2 0 a8)], [(0, some ⟨44, vR a9, true⟩)], 1, none⟩) := by kernel_rfl
noncomputable def r4withF_l2 {R : Type} (fuel : Nat) (x0 : Int) (l : List (Int × List Int)) (k0 : Nat → (List (Int × List Int)) → Option R) : Nat → Nat → Int → Int → (List (Int × List Int)) → Option R
  | 0, _, _, _, _ => none
  | k + 1, w0, w1, w2, w3 =>
    (r4withF_s4 w2 w1 l x0 w3 w0 (fun a0 a1 a2 a3 => ( r4withF_l2 fuel x0 l k0 k a0 a1 a2 a3 )) (fun a4 a5 a6 a7 => ( r4withF_l2 fuel x0 l k0 k a4 a5 a6 a7 )) (fun a8 a9 => k0 a8 a9))
theorem r4withF_l2_eq (fuel : Nat) (x0 : Int) (l : List (Int × List Int)) (K : Ex → St → Option Out) : ∀ (k w0 : Nat) (w1 w2 : Int) (w3 : List (Int × List Int)), lpN qe7 (qe3 fuel) 36028797018964048 [4, 5, 6, 40, 41, 42] k ⟨[(4, vN), (5, vI x0), (6, .sl 0 2 0 w0), (40, vR l), (41, vI w1), (42, vI w2)], [(0, some ⟨44, vR w3, true⟩)], 1, none⟩ K = r4withF_l2 fuel x0 l (fun y0 y1 => K (.exit 2) ⟨[(4, vN), (6, .sl 0 2 0 y0)], [(0, some ⟨44, vR y1, true⟩)], 1, none⟩) k w0 w1 w2 w3
  | 0, _, _, _, _ => rfl
  | k + 1, w0, w1, w2, w3 => by
    unfold r4withF_l2
    exact (r4withF_s4_eq fuel k K w2 w1 l x0 w3 w0).trans (congr (congr (congr (Eq.refl (r4withF_s4 (R := Out) w2 w1 l x0 w3 w0)) (funext fun a0 => funext fun a1 => funext fun a2 => funext fun a3 => r4withF_l2_eq fuel x0 l K k a0 a1 a2 a3)) (funext fun a4 => funext fun a5 => funext fun a6 => funext fun a7 => r4withF_l2_eq fuel x0 l K k a4 a5 a6 a7)) (rfl))
noncomputable def r4withF_s5 {R : Type} (x0 : List (Int × List Int)) (x1 : Nat) (c0 : (List (Int × List Int)) → Option R) : Option R :=
  c0 ((x0.drop 0).take x1)
theorem r4withF_s5_eq (fuel : Nat)  (x0 : List (Int × List Int)) (x1 : Nat) : (kont (qe3 fuel) qe4 [1, 1, 1, 1, 1, 0, 1, 0] 16 (endK Tryd.prog 0 0 134)) (.exit 2) ⟨[(4, vN), (6, .sl 0 2 0 x1)], [(0, some ⟨44, vR x0, true⟩)], 1, none⟩ = r4withF_s5 x0 x1 (fun a0 => some (vR a0, [])) := by kernel_rfl
noncomputable def r4withF_s3 {R : Type} (x0 : List (Int × List Int)) (x1 : Nat) (n : Int) (ws : List Int) (l : List (Int × List Int)) (x2 : Int) (c0 : Nat → Int → Int → (List (Int × List Int)) → Option R) : Option R :=
  grd (Nat.beq x0.length x1) <|
  grd (okN (x1 + 1) 32) <|
  c0 ((x0 ++ [(n, ws)]).length) ((l.length : Nat) : Int) 0 (x0 ++ [(n, ws)])
theorem r4withF_s3_eq (fuel : Nat)  (x0 : List (Int × List Int)) (x1 : Nat) (n : Int) (ws : List Int) (l : List (Int × List Int)) (x2 : Int) : (kont (qe3 fuel) qe4 [1, 1, 1, 0, 1, 0] 16 (endK Tryd.prog 0 0 134)) (.exit 0) ⟨[(0, vR l), (3, .ptr 0 2 0 0), (4, vN), (5, vI x2), (6, .sl 1 2 0 x1)], [(qe5 n ws), (1, some ⟨44, vR x0, true⟩)], 2, none⟩ = r4withF_s3 x0 x1 n ws l x2 (fun a0 a1 a2 a3 => lpN qe7 (qe3 fuel) 36028797018964048 [4, 5, 6, 40, 41, 42] fuel ⟨[(4, vN), (5, vI x2), (6, .sl 0 2 0 a0), (40, vR l), (41, vI a1), (42, vI a2)], [(0, some ⟨44, vR a3, true⟩)], 1, none⟩ (kont (qe3 fuel) qe4 [1, 1, 1, 1, 1, 0, 1, 0] 16 (endK Tryd.prog 0 0 134))) := by kernel_rfl
noncomputable def r4withF_s1 {R : Type} (ws : List Int) (n : Int) (l : List (Int × List Int)) (c0 : Int → Nat → Int → Int → (List (Int × List Int)) → Option R) : Option R :=
  grd (okW ws && rtS n ws) <|
  c0 (frS n ws) 0 ((l.length : Nat) : Int) 0 ([])
theorem r4withF_s1_eq (fuel : Nat)  (ws : List Int) (n : Int) (l : List (Int × List Int)) : callN Tryd.prog mode21 T_r4Left fuel 134 [vR l, .agg [vI n, vW ws]] [] = r4withF_s1 ws n l (fun a0 a1 a2 a3 a4 => lpN qe6 (qe3 fuel) 72057525318452345 [0, 3, 4, 5, 6, 14, 15, 16] fuel ⟨[(0, vR l), (3, .ptr 0 2 0 0), (4, vN), (5, vI a0), (6, .sl 1 2 0 a1), (14, vR l), (15, vI a2), (16, vI a3)], [(qe5 n ws), (1, some ⟨44, vR a4, true⟩)], 2, none⟩ (kont (qe3 fuel) qe4 [1, 1, 1, 0, 1, 0] 16 (endK Tryd.prog 0 0 134))) := by kernel_rfl
noncomputable def r4withF {R : Type} (fuel : Nat) (l : List (Int × List Int)) (n : Int) (ws : List Int) (r0 : (List (Int × List Int)) → Option R) : Option R :=
  (r4withF_s1 ws n l (fun a0 a1 a2 a3 a4 => (r4withF_l1 fuel l n ws (fun x0 x1 x2 => (r4withF_s3 x2 x1 n ws l x0 (fun a5 a6 a7 a8 => (r4withF_l2 fuel x0 l (fun x3 x4 => (r4withF_s5 x4 x3 (fun a9 => r0 a9))) fuel a5 a6 a7 a8)))) fuel a0 a1 a2 a3 a4)))
theorem r4withF_eq (fuel : Nat) (l : List (Int × List Int)) (n : Int) (ws : List Int) : callN Tryd.prog mode21 T_r4Left fuel 134 [.lt (.pair (.int .i64) (.sl (.int .u64))) l, .agg [.s (.int .i64 n), .li .u64 ws]] [] = r4withF fuel l n ws (fun z0 => some (.lt (.pair (.int .i64) (.sl (.int .u64))) z0, [])) := by
  unfold r4withF
  exact (r4withF_s1_eq fuel  ws n l).trans (congr (Eq.refl (r4withF_s1 (R := Out) ws n l)) (funext fun a0 => funext fun a1 => funext fun a2 => funext fun a3 => funext fun a4 => (r4withF_l1_eq fuel l n ws (kont (qe3 fuel) qe4 [1, 1, 1, 0, 1, 0] 16 (endK Tryd.prog 0 0 134)) fuel a0 a1 a2 a3 a4).trans (congrFun (congrFun (congrFun (congrFun (congrFun (congrFun (congr (Eq.refl (r4withF_l1 (R := Out) fuel l n ws)) (funext fun x0 => funext fun x1 => funext fun x2 => (r4withF_s3_eq fuel  x2 x1 n ws l x0).trans (congr (Eq.refl (r4withF_s3 (R := Out) x2 x1 n ws l x0)) (funext fun a5 => funext fun a6 => funext fun a7 => funext fun a8 => (r4withF_l2_eq fuel x0 l (kont (qe3 fuel) qe4 [1, 1, 1, 1, 1, 0, 1, 0] 16 (endK Tryd.prog 0 0 134)) fuel a5 a6 a7 a8).trans (congrFun (congrFun (congrFun (congrFun (congrFun (congr (Eq.refl (r4withF_l2 (R := Out) fuel x0 l)) (funext fun x3 => funext fun x4 => (r4withF_s5_eq fuel  x4 x3))) fuel) a5) a6) a7) a8))))) fuel) a0) a1) a2) a3) a4)))
theorem r4with_low {R : Type} (fuel : Nat) (n : Int) (vs : List Nat) (hz : NZ n vs) (v : Nat) (hv : v < 2 ^ n.toNat) (p : Nat) (hp : p < n.toNat) (k0 : Int → Nat → List Rw → Option R) : ∀ (k j : Nat) (acc : List Nat), j ≤ vs.length → vs.length < j + k → acc.length ≤ j →
    r4withF_l1 fuel (mrs n vs) n (words (nw n) v) k0 k (p : Int) (mrs n acc).length (vs.length : Int) (j : Int) (mrs n acc) = k0 (p : Int) (mrs n (acc ++ lowF p v (vs.drop j))).length (mrs n (acc ++ lowF p v (vs.drop j)))
  | 0, j, acc, h1, h2, _ => by omega
  | k + 1, j, acc, h1, h2, ha => by
    obtain ⟨⟨n0, n1⟩, hl, hvs⟩ := hz
    have hw := nw_cast n0
    have hal : (mrs n acc).length = acc.length := mrs_len n acc
    unfold r4withF_l1 r4withF_s2
    rw [br_if]
    by_cases hc : j < vs.length
    · obtain ⟨z1, z2⟩ := hvs _ (List.getElem_mem hc)
      obtain ⟨a, b, c⟩ := mr_rt n0 n1 z2
      obtain ⟨a', b', c'⟩ := mr_rt n0 n1 hv
      have e1 : ix (mrs n vs) (j : Int) = some (mr n vs[j]) := by unfold mrs; rw [ix_nat, List.getElem?_map, List.getElem?_eq_getElem hc]; rfl
      have ef : frS (mr n vs[j]).1 (mr n vs[j]).2 = (fp vs[j] : Int) := (frS_words n0 n1 z2).trans (if_neg z1)
      have ex : xorW (mr n vs[j]).1 (mr n vs[j]).2 n (words (nw n) v) = words (nw n) (vs[j] ^^^ v) := xor_mr5 n0 n1 z2 hv
      have eb : bitS (mr n vs[j]).2 (p : Int) = if (vs[j]).testBit p = true then 1 else 0 := bit_mr5 n0 n1 z2 p
      have hwl : (mr n vs[j]).2.length = nw n := length_words _ _
      have h8 := nw_le n1
      have ea : ∀ x, mrs n acc ++ [(n, words (nw n) x)] = mrs n (acc ++ [x]) := fun x => by unfold mrs; rw [List.map_append]; rfl
      rw [if_pos (by simpa using hc), bnd_of e1, grd_of (by rw [show okW (mr n vs[j]).2 = true from a, show rtS (mr n vs[j]).1 (mr n vs[j]).2 = true from b]; rfl), ef, br_if, grd_of (by rw [show okW (mr n vs[j]).2 = true from a, hwl]; simp; omega), br_if, eb, grd_of (by rw [b', a', show okW (mr n vs[j]).2 = true from a, show rtS (mr n vs[j]).1 (mr n vs[j]).2 = true from b, decide_eq_true (show (mr n vs[j]).1 = n from rfl)]; rfl), grd_of (beq_self _), grd_of (okN_of (by omega) (by omega)), grd_of (beq_self _), grd_of (okN_of (by omega) (by omega)), ex, wrap_i64 (by omega) (by omega), show (j : Int) + 1 = ((j + 1 : Nat) : Int) by omega, List.drop_eq_getElem_cons hc]
      have el : lowF p v (vs[j] :: vs.drop (j + 1)) = if fp vs[j] < p then (if (vs[j]).testBit p = true then vs[j] ^^^ v else vs[j]) :: lowF p v (vs.drop (j + 1)) else lowF p v (vs.drop (j + 1)) := by
        unfold lowF
        by_cases h : fp vs[j] < p
        · rw [List.filter_cons_of_pos (by simpa using h), if_pos h]; rfl
        · rw [List.filter_cons_of_neg (by simpa using h), if_neg h]
      rw [el]
      have ih := fun acc' ha' => r4with_low fuel n vs ⟨⟨n0, n1⟩, hl, hvs⟩ v hv p hp k0 k (j + 1) acc' (by omega) (by omega) ha'
      by_cases h : fp vs[j] < p
      · rw [if_pos (by simpa using h), if_pos h]
        by_cases hb : (vs[j]).testBit p = true
        · rw [if_pos hb, if_pos (by decide), if_pos hb]
          have := ih (acc ++ [vs[j] ^^^ v]) (by simp; omega)
          rw [List.append_assoc, ← ea] at this
          exact this
        · rw [if_neg hb, if_neg (by decide), if_neg hb]
          have := ih (acc ++ [vs[j]]) (by simp; omega)
          rw [List.append_assoc, ← ea] at this
          exact this
      · rw [if_neg (by simpa using h), if_neg h]
        exact ih acc (by omega)
    · rw [if_neg (by simpa using hc), List.drop_eq_nil_of_le (by omega)]
      have : acc ++ lowF p v [] = acc := List.append_nil acc
      rw [this]
theorem r4with_high {R : Type} (fuel : Nat) (n : Int) (vs : List Nat) (hz : NZ n vs) (p : Nat) (k0 : Nat → List Rw → Option R) : ∀ (k j : Nat) (acc : List Nat), j ≤ vs.length → vs.length < j + k → acc.length ≤ 2000 + j →
    r4withF_l2 fuel (p : Int) (mrs n vs) k0 k (mrs n acc).length (vs.length : Int) (j : Int) (mrs n acc) = k0 (mrs n (acc ++ highF p (vs.drop j))).length (mrs n (acc ++ highF p (vs.drop j)))
  | 0, j, acc, h1, h2, _ => by omega
  | k + 1, j, acc, h1, h2, ha => by
    obtain ⟨⟨n0, n1⟩, hl, hvs⟩ := hz
    have hal : (mrs n acc).length = acc.length := mrs_len n acc
    unfold r4withF_l2 r4withF_s4
    rw [br_if]
    by_cases hc : j < vs.length
    · obtain ⟨z1, z2⟩ := hvs _ (List.getElem_mem hc)
      obtain ⟨a, b, c⟩ := mr_rt n0 n1 z2
      have e1 : ix (mrs n vs) (j : Int) = some (mr n vs[j]) := by unfold mrs; rw [ix_nat, List.getElem?_map, List.getElem?_eq_getElem hc]; rfl
      have ef : frS (mr n vs[j]).1 (mr n vs[j]).2 = (fp vs[j] : Int) := (frS_words n0 n1 z2).trans (if_neg z1)
      have ea : ∀ x, mrs n acc ++ [mr n x] = mrs n (acc ++ [x]) := fun x => by unfold mrs; rw [List.map_append]; rfl
      rw [if_pos (by simpa using hc), bnd_of e1, grd_of (by rw [show okW (mr n vs[j]).2 = true from a, show rtS (mr n vs[j]).1 (mr n vs[j]).2 = true from b]; rfl), ef, br_if, grd_of (beq_self _), grd_of (okN_of (by omega) (by omega)), wrap_i64 (by omega) (by omega), show (j : Int) + 1 = ((j + 1 : Nat) : Int) by omega, List.drop_eq_getElem_cons hc]
      have ih := fun acc' ha' => r4with_high fuel n vs ⟨⟨n0, n1⟩, hl, hvs⟩ p k0 k (j + 1) acc' (by omega) (by omega) ha'
      by_cases h : p < fp vs[j]
      · have el : highF p (vs[j] :: vs.drop (j + 1)) = vs[j] :: highF p (vs.drop (j + 1)) := List.filter_cons_of_pos (by simpa using h)
        rw [if_pos (by simpa using h), el]
        have := ih (acc ++ [vs[j]]) (by simp; omega)
        rw [List.append_assoc, ← ea] at this
        exact this
      · have el : highF p (vs[j] :: vs.drop (j + 1)) = highF p (vs.drop (j + 1)) := List.filter_cons_of_neg (by simpa using h)
        rw [if_neg (by simpa using h), el]
        exact ih acc (by omega)
    · rw [if_neg (by simpa using hc), List.drop_eq_nil_of_le (by omega)]
      have : acc ++ highF p [] = acc := List.append_nil acc
      rw [this]
theorem r4with_fact (l : List (Int × List Int)) (n : Int) (ws : List Int) (hg : (nzM n l && (okW ws && rtS n ws) && decide (val ws ≠ 0)) = true) : Fact Tryd.prog noG 134 [.lt (.pair (.int .i64) (.sl (.int .u64))) l, .agg [.s (.int .i64 n), .li .u64 ws]] [] (.lt (.pair (.int .i64) (.sl (.int .u64))) ((withM n l ws) : List (Int × List Int)), []) := by
  simp only [Bool.and_eq_true, decide_eq_true_eq] at hg
  obtain ⟨⟨hz, hok, hr⟩, hne⟩ := hg
  obtain ⟨z1, z2, z3⟩ := nz_of hz
  obtain ⟨⟨n0, n1⟩, hl, hvs⟩ := z1
  have hv : val ws < 2 ^ n.toNat := (rtS_iff.1 hr).2.2
  obtain ⟨f1, f2⟩ := fp_is n1 hv hne
  have ew := row_words hok hr
  have ef : frS n ws = (fp (val ws) : Int) := by
    have := frS_words n0 n1 hv
    rwa [← ew, if_neg hne] at this
  refine callN_fact hN hM T_r4Left_ok (n := 1100) (mode := mode21) ?_
  rw [r4withF_eq]
  unfold r4withF r4withF_s1
  have h1 := fun k0 => r4with_low (R := Out) 1100 n (vals l) ⟨⟨n0, n1⟩, hl, hvs⟩ (val ws) hv (fp (val ws)) f2 k0 1100 0 [] (by omega) (by omega) (by simp)
  rw [show ((0 : Nat) : Int) = 0 from rfl, List.drop_zero, List.nil_append, ← z2, z3, ← ew] at h1
  have e0 : mrs n [] = [] := rfl
  rw [e0] at h1
  rw [grd_of (by rw [hok, hr]; rfl), ef]
  dsimp only
  rw [show (0 : Nat) = List.length (α := Rw) [] from rfl, h1]
  unfold r4withF_s3
  have hlow : (lowF (fp (val ws)) (val ws) (vals l)).length ≤ 1000 := by
    unfold lowF
    rw [List.length_map]
    have := List.length_filter_le (fun x => decide (fp x < fp (val ws))) (vals l)
    omega
  have ea : mrs n (lowF (fp (val ws)) (val ws) (vals l)) ++ [(n, ws)] = mrs n (lowF (fp (val ws)) (val ws) (vals l) ++ [val ws]) := by
    unfold mrs mr
    rw [List.map_append, List.map_singleton, ← ew]
  rw [grd_of (beq_self _), grd_of (okN_of (by rw [mrs_len]; omega) (by rw [mrs_len]; omega)), ea]
  have h2 := fun k0 => r4with_high (R := Out) 1100 n (vals l) ⟨⟨n0, n1⟩, hl, hvs⟩ (fp (val ws)) k0 1100 0 (lowF (fp (val ws)) (val ws) (vals l) ++ [val ws]) (by omega) (by omega) (by simp; omega)
  rw [show ((0 : Nat) : Int) = 0 from rfl, List.drop_zero, ← z2, z3] at h2
  dsimp only
  rw [h2]
  unfold r4withF_s5
  rw [List.drop_zero, List.take_length, withM_eq]
  unfold withMI
  rw [rows_ins, List.append_assoc]
  rfl
noncomputable def r4with_ent : List V → List Blk → Option (Bool × Out)
  | [w0, .agg [.s (.int .i64 n), w1]], [] => (asSl (.pair (.int .i64) (.sl (.int .u64))) w0).bind fun l => (asSl (.int .u64) w1).bind fun ws => some ((nzM n l && (okW ws && rtS n ws) && decide (val ws ≠ 0)), (.lt (.pair (.int .i64) (.sl (.int .u64))) ((withM n l ws) : List (Int × List Int)), []))
  | _, _ => none
theorem r4with_ok : ∀ args bs out, r4with_ent args bs = some (true, out) → Fact Tryd.prog noG 134 args bs out := by
  intro args bs out h
  unfold r4with_ent at h
  split at h
  · rename_i w0 n w1
    obtain ⟨l, h_l, h⟩ := Option.bind_eq_some_iff.1 h
    obtain ⟨ws, h_ws, h⟩ := Option.bind_eq_some_iff.1 h
    simp only [Option.some.injEq, Prod.mk.injEq] at h
    obtain ⟨hg, rfl⟩ := h
    exact (r4with_fact l n ws hg).args (fun _ _ _ => fun _ h => RVs_two (fun _ h => RV_sl (s := (.pair (.int .i64) (.sl (.int .u64)))) h_l h) (fun _ h => RVs_two (fun _ h => RV_agg_two (fun _ h => RVs_two (fun _ h => h) (fun _ h => RVs_two (fun _ h => RV_li h_ws h) (fun _ h => h) h) h) h) (fun _ h => h) h) h)
  · cases h
noncomputable def T_r4with : Tbl := Tbl.cons 134 r4with_ent T_r4Left
theorem T_r4with_ok : CallOk Tryd.prog noG T_r4with := cons_ok T_r4Left_ok r4with_ok
/-! downpour/downpourref04.Echelon -/
noncomputable abbrev qe8 : Code := (sub (bodyOf Tryd.prog 86) [1, 1, 0, 1, 0, 0])
noncomputable abbrev qe9 (fuel : Nat) : Ctx Out := (fnX Tryd.prog mode21 T_r4with fuel 26 0)
noncomputable abbrev qe10 : List (Nat × Option Blk) := [(0, some ⟨44, vR ([] : List (Int × List Int)), false⟩)]
noncomputable abbrev qe11 : List (Nat × Option Blk) := [(0, some ⟨44, vR ([] : List (Int × List Int)), true⟩)]
noncomputable abbrev qe12 : List Nat := [2, 3, 9, 10, 11]
noncomputable abbrev qe13 : Nat × V := (3, .sl 0 2 0 0)
noncomputable def r4EchF_s3 {R : Type} (w0 w1 : Int) (m w2 : List (Int × List Int)) (c0 c1 : (List (Int × List Int)) → Int → Option R) (c2 : (List (Int × List Int)) → Option R) : Option R :=
  br (decide (w0 < w1))
    (bnd (ix m w0) fun e0 =>
    grd (nzM e0.1 w2 && (okW e0.2 && rtS e0.1 e0.2)) <|
    grd (okW (leftW e0.1 w2 e0.2) && rtS e0.1 (leftW e0.1 w2 e0.2)) <|
    br (decide (((frS e0.1 (leftW e0.1 w2 e0.2)) : Int) ≥ 0))
      (grd (nzM e0.1 w2 && (okW (leftW e0.1 w2 e0.2) && rtS e0.1 (leftW e0.1 w2 e0.2)) && decide (val (leftW e0.1 w2 e0.2) ≠ 0)) <|
      c0 (withM e0.1 w2 (leftW e0.1 w2 e0.2)) (IntKind.i64.wrap (w0 + 1)))
      (c1 w2 (IntKind.i64.wrap (w0 + 1))))
    (c2 w2)
theorem r4EchF_s3_eq (fuel k : Nat) (K : Ex → St → Option Out) (w0 w1 : Int) (m w2 : List (Int × List Int)) : lpN qe8 (qe9 fuel) 33554444 qe12 (k + 1) ⟨[(2, vN), (3, vR w2), (9, vR m), (10, vI w1), (11, vI w0)], [], 0, none⟩ K = r4EchF_s3 w0 w1 m w2 (fun a0 a1 => lpN qe8 (qe9 fuel) 33554444 qe12 k ⟨[(2, vN), (3, vR a0), (9, vR m), (10, vI w1), (11, vI a1)], [], 0, none⟩ K) (fun a2 a3 => lpN qe8 (qe9 fuel) 33554444 qe12 k ⟨[(2, vN), (3, vR a2), (9, vR m), (10, vI w1), (11, vI a3)], [], 0, none⟩ K) (fun a4 => K (.exit 0) ⟨[(2, vN), (3, vR a4)], [], 0, none⟩) := by kernel_rfl
noncomputable def r4EchF_l2 {R : Type} (fuel : Nat) (m : List (Int × List Int)) (w1 : Int) (k0 : (List (Int × List Int)) → Option R) : Nat → (List (Int × List Int)) → Int → Option R
  | 0, _, _ => none
  | k + 1, w0, w2 =>
    (r4EchF_s3 w2 w1 m w0 (fun a0 a1 => ( r4EchF_l2 fuel m w1 k0 k a0 a1 )) (fun a2 a3 => ( r4EchF_l2 fuel m w1 k0 k a2 a3 )) (fun a4 => k0 a4))
theorem r4EchF_l2_eq (fuel : Nat) (m : List (Int × List Int)) (w1 : Int) (K : Ex → St → Option Out) : ∀ (k : Nat) (w0 : List (Int × List Int)) (w2 : Int), lpN qe8 (qe9 fuel) 33554444 qe12 k ⟨[(2, vN), (3, vR w0), (9, vR m), (10, vI w1), (11, vI w2)], [], 0, none⟩ K = r4EchF_l2 fuel m w1 (fun y0 => K (.exit 0) ⟨[(2, vN), (3, vR y0)], [], 0, none⟩) k w0 w2
  | 0, _, _ => rfl
  | k + 1, w0, w2 => by
    unfold r4EchF_l2
    exact (r4EchF_s3_eq fuel k K w2 w1 m w0).trans (congr (congr (congr (Eq.refl (r4EchF_s3 (R := Out) w2 w1 m w0)) (funext fun a0 => funext fun a1 => r4EchF_l2_eq fuel m w1 K k a0 a1)) (funext fun a2 => funext fun a3 => r4EchF_l2_eq fuel m w1 K k a2 a3)) (rfl))
noncomputable def r4EchF_s4 {R : Type} (w0 w1 : Int) (m : List (Int × List Int)) (c0 : (List (Int × List Int)) → Int → Option R) (c1 : Int → Option R) (c2 : Option R) : Option R :=
  br (decide (w0 < w1))
    (bnd (ix m w0) fun e0 =>
    grd (nzM e0.1 ([]) && (okW e0.2 && rtS e0.1 e0.2)) <|
    grd (okW (leftW e0.1 ([]) e0.2) && rtS e0.1 (leftW e0.1 ([]) e0.2)) <|
    br (decide (((frS e0.1 (leftW e0.1 ([]) e0.2)) : Int) ≥ 0))
      (grd (nzM e0.1 ([]) && (okW (leftW e0.1 ([]) e0.2) && rtS e0.1 (leftW e0.1 ([]) e0.2)) && decide (val (leftW e0.1 ([]) e0.2) ≠ 0)) <|
      c0 (withM e0.1 ([]) (leftW e0.1 ([]) e0.2)) (IntKind.i64.wrap (w0 + 1)))
      (c1 (IntKind.i64.wrap (w0 + 1))))
    (c2)
theorem r4EchF_s4_eq (fuel k : Nat) (K : Ex → St → Option Out) (w0 w1 : Int) (m : List (Int × List Int)) : lpN qe8 (qe9 fuel) 33554444 qe12 (k + 1) ⟨[(2, vN), qe13, (9, vR m), (10, vI w1), (11, vI w0)], qe10, 1, none⟩ K = r4EchF_s4 w0 w1 m (fun a0 a1 => lpN qe8 (qe9 fuel) 33554444 qe12 k ⟨[(2, vN), (3, vR a0), (9, vR m), (10, vI w1), (11, vI a1)], [], 0, none⟩ K) (fun a2 => lpN qe8 (qe9 fuel) 33554444 qe12 k ⟨[(2, vN), qe13, (9, vR m), (10, vI w1), (11, vI a2)], qe10, 1, none⟩ K) (K (.exit 0) ⟨[(2, vN), qe13], qe10, 1, none⟩) := by kernel_rfl
noncomputable def r4EchF_l3 {R : Type} (fuel : Nat) (m : List (Int × List Int)) (w1 : Int) (k0 : (List (Int × List Int)) → Option R) (k1 : Option R) : Nat → Int → Option R
  | 0, _ => none
  | k + 1, w0 =>
    (r4EchF_s4 w0 w1 m (fun a0 a1 => (r4EchF_l2 fuel m w1 (fun x0 => k0 x0) k a0 a1)) (fun a2 => ( r4EchF_l3 fuel m w1 k0 k1 k a2 )) (k1))
theorem r4EchF_l3_eq (fuel : Nat) (m : List (Int × List Int)) (w1 : Int) (K : Ex → St → Option Out) : ∀ (k : Nat) (w0 : Int), lpN qe8 (qe9 fuel) 33554444 qe12 k ⟨[(2, vN), qe13, (9, vR m), (10, vI w1), (11, vI w0)], qe10, 1, none⟩ K = r4EchF_l3 fuel m w1 (fun y0 => K (.exit 0) ⟨[(2, vN), (3, vR y0)], [], 0, none⟩) (K (.exit 0) ⟨[(2, vN), qe13], qe10, 1, none⟩) k w0
  | 0, _ => rfl
  | k + 1, w0 => by
    unfold r4EchF_l3
    exact (r4EchF_s4_eq fuel k K w0 w1 m).trans (congr (congr (congr (Eq.refl (r4EchF_s4 (R := Out) w0 w1 m)) (funext fun a0 => funext fun a1 => r4EchF_l2_eq fuel m w1 K k a0 a1)) (funext fun a2 => r4EchF_l3_eq fuel m w1 K k a2)) (rfl))
noncomputable def r4EchF_s2 {R : Type} (w1 : Int) (m : List (Int × List Int)) (c0 : (List (Int × List Int)) → Int → Option R) (c1 : Int → Option R) (c2 : Option R) : Option R :=
  br (decide (0 < w1))
    (bnd (ix m 0) fun e0 =>
    grd (nzM e0.1 ([]) && (okW e0.2 && rtS e0.1 e0.2)) <|
    grd (okW (leftW e0.1 ([]) e0.2) && rtS e0.1 (leftW e0.1 ([]) e0.2)) <|
    br (decide (((frS e0.1 (leftW e0.1 ([]) e0.2)) : Int) ≥ 0))
      (grd (nzM e0.1 ([]) && (okW (leftW e0.1 ([]) e0.2) && rtS e0.1 (leftW e0.1 ([]) e0.2)) && decide (val (leftW e0.1 ([]) e0.2) ≠ 0)) <|
      c0 (withM e0.1 ([]) (leftW e0.1 ([]) e0.2)) 1)
      (c1 1))
    (c2)
theorem r4EchF_s2_eq (fuel k : Nat) (K : Ex → St → Option Out) (w1 : Int) (m : List (Int × List Int)) : lpN qe8 (qe9 fuel) 33554444 qe12 (k + 1) ⟨[(2, vN), qe13, (9, vR m), (10, vI w1), (11, vI 0)], qe11, 1, none⟩ K = r4EchF_s2 w1 m (fun a0 a1 => lpN qe8 (qe9 fuel) 33554444 qe12 k ⟨[(2, vN), (3, vR a0), (9, vR m), (10, vI w1), (11, vI a1)], [], 0, none⟩ K) (fun a2 => lpN qe8 (qe9 fuel) 33554444 qe12 k ⟨[(2, vN), qe13, (9, vR m), (10, vI w1), (11, vI a2)], qe10, 1, none⟩ K) (K (.exit 0) ⟨[(2, vN), qe13], qe11, 1, none⟩) := by kernel_rfl
noncomputable def r4EchF_l1 {R : Type} (fuel : Nat) (m : List (Int × List Int)) (k0 : (List (Int × List Int)) → Option R) (k1 k2 : Option R) : Nat → Int → Option R
  | 0, _ => none
  | k + 1, w1 =>
    (r4EchF_s2 w1 m (fun a0 a1 => (r4EchF_l2 fuel m w1 (fun x0 => k0 x0) k a0 a1)) (fun a2 => (r4EchF_l3 fuel m w1 (fun x1 => k0 x1) (k1) k a2)) (k2))
theorem r4EchF_l1_eq (fuel : Nat) (m : List (Int × List Int)) (K : Ex → St → Option Out) : ∀ (k : Nat) (w1 : Int), lpN qe8 (qe9 fuel) 33554444 qe12 k ⟨[(2, vN), qe13, (9, vR m), (10, vI w1), (11, vI 0)], qe11, 1, none⟩ K = r4EchF_l1 fuel m (fun y0 => K (.exit 0) ⟨[(2, vN), (3, vR y0)], [], 0, none⟩) (K (.exit 0) ⟨[(2, vN), qe13], qe10, 1, none⟩) (K (.exit 0) ⟨[(2, vN), qe13], qe11, 1, none⟩) k w1
  | 0, _ => rfl
  | k + 1, w1 => by
    unfold r4EchF_l1
    exact (r4EchF_s2_eq fuel k K w1 m).trans (congr (congr (congr (Eq.refl (r4EchF_s2 (R := Out) w1 m)) (funext fun a0 => funext fun a1 => r4EchF_l2_eq fuel m w1 K k a0 a1)) (funext fun a2 => r4EchF_l3_eq fuel m w1 K k a2)) (rfl))
noncomputable def r4EchF_s5 {R : Type} (x0 : List (Int × List Int)) (c0 : (List (Int × List Int)) → Option R) : Option R :=
  c0 x0
theorem r4EchF_s5_eq (fuel : Nat)  (x0 : List (Int × List Int)) : (kont (qe9 fuel) (bodyOf Tryd.prog 86) [1, 1, 0, 1, 0] 4 (endK Tryd.prog 0 0 86)) (.exit 0) ⟨[(2, vN), (3, vR x0)], [], 0, none⟩ = r4EchF_s5 x0 (fun a0 => some (vR a0, [])) := by kernel_rfl
noncomputable def r4EchF_s6 {R : Type}  (c0 : (List (Int × List Int)) → Option R) : Option R :=
  c0 ([])
theorem r4EchF_s6_eq (fuel : Nat)   : (kont (qe9 fuel) (bodyOf Tryd.prog 86) [1, 1, 0, 1, 0] 4 (endK Tryd.prog 0 0 86)) (.exit 0) ⟨[(2, vN), qe13], qe10, 1, none⟩ = r4EchF_s6  (fun a0 => some (vR a0, [])) := by kernel_rfl
noncomputable def r4EchF_s7 {R : Type}  (c0 : (List (Int × List Int)) → Option R) : Option R :=
  c0 ([])
theorem r4EchF_s7_eq (fuel : Nat)   : (kont (qe9 fuel) (bodyOf Tryd.prog 86) [1, 1, 0, 1, 0] 4 (endK Tryd.prog 0 0 86)) (.exit 0) ⟨[(2, vN), qe13], qe11, 1, none⟩ = r4EchF_s7  (fun a0 => some (vR a0, [])) := by kernel_rfl
noncomputable def r4EchF_s1 {R : Type} (m : List (Int × List Int)) (n : Int) (c0 : Int → Option R) : Option R :=
  c0 ((m.length : Nat) : Int)
theorem r4EchF_s1_eq (fuel : Nat)  (m : List (Int × List Int)) (n : Int) : callN Tryd.prog mode21 T_r4with fuel 86 [.agg [vI n, vR m]] [] = r4EchF_s1 m n (fun a0 => lpN qe8 (qe9 fuel) 33554444 qe12 fuel ⟨[(2, vN), qe13, (9, vR m), (10, vI a0), (11, vI 0)], qe11, 1, none⟩ (kont (qe9 fuel) (bodyOf Tryd.prog 86) [1, 1, 0, 1, 0] 4 (endK Tryd.prog 0 0 86))) := by kernel_rfl
noncomputable def r4EchF {R : Type} (fuel : Nat) (n : Int) (m : List (Int × List Int)) (r0 : (List (Int × List Int)) → Option R) : Option R :=
  (r4EchF_s1 m n (fun a0 => (r4EchF_l1 fuel m (fun x0 => (r4EchF_s5 x0 (fun a1 => r0 a1))) ((r4EchF_s6 (fun a2 => r0 a2))) ((r4EchF_s7 (fun a3 => r0 a3))) fuel a0)))
theorem r4EchF_eq (fuel : Nat) (n : Int) (m : List (Int × List Int)) : callN Tryd.prog mode21 T_r4with fuel 86 [.agg [.s (.int .i64 n), .lt (.pair (.int .i64) (.sl (.int .u64))) m]] [] = r4EchF fuel n m (fun z0 => some (.lt (.pair (.int .i64) (.sl (.int .u64))) z0, [])) := by
  unfold r4EchF
  exact (r4EchF_s1_eq fuel  m n).trans (congr (Eq.refl (r4EchF_s1 (R := Out) m n)) (funext fun a0 => (r4EchF_l1_eq fuel m (kont (qe9 fuel) (bodyOf Tryd.prog 86) [1, 1, 0, 1, 0] 4 (endK Tryd.prog 0 0 86)) fuel a0).trans (congrFun (congrFun (congr (congr (congr (Eq.refl (r4EchF_l1 (R := Out) fuel m)) (funext fun x0 => (r4EchF_s5_eq fuel  x0))) ((r4EchF_s6_eq fuel  ))) ((r4EchF_s7_eq fuel  ))) fuel) a0)))
theorem ech_step {n : Int} (h0 : 0 ≤ n) (hn : n ≤ 512) {us : List Nat} {r : List (Nat × Nat)} (h : IsRed us r) (hu : ∀ v, v ∈ us → v < 2 ^ n.toNat) {v : Nat} (hv : v < 2 ^ n.toNat) :
    nzM n (mrs n (Lin.rows r)) = true ∧ okW (leftW n (mrs n (Lin.rows r)) (words (nw n) v)) = true ∧ rtS n (leftW n (mrs n (Lin.rows r)) (words (nw n) v)) = true ∧
    ((frS n (leftW n (mrs n (Lin.rows r)) (words (nw n) v)) < 0 ∧ IsRed (us ++ [v]) r) ∨ (0 ≤ frS n (leftW n (mrs n (Lin.rows r)) (words (nw n) v)) ∧ val (leftW n (mrs n (Lin.rows r)) (words (nw n) v)) ≠ 0 ∧ ∃ r', IsRed (us ++ [v]) r' ∧ withM n (mrs n (Lin.rows r)) (leftW n (mrs n (Lin.rows r)) (words (nw n) v)) = mrs n (Lin.rows r'))) := by
  have hz := nz_red h0 hn h hu
  obtain ⟨z1, z2⟩ := nz_mrs hz
  have hlt := fun x (hx : x ∈ r) => (h.lt hu hx).1
  have hwr := wR_red hn h.1 hlt
  obtain ⟨_, _, c⟩ := mr_rt h0 hn hv
  have eL : leftW n (mrs n (Lin.rows r)) (words (nw n) v) = words (nw n) (left r v) := by
    rw [leftW_eq]; unfold leftWI
    rw [z2, c, hwr]
  have hll := left_lt5 hlt hv
  obtain ⟨a', b', c'⟩ := mr_rt h0 hn hll
  rw [eL]
  refine ⟨z1, a', b', ?_⟩
  rw [frS_words h0 hn hll, c']
  obtain ⟨r', h1, h2, h3⟩ := h.next v
  by_cases hzero : left r v = 0
  · refine .inl ⟨by rw [if_pos hzero]; decide, ?_⟩
    rw [← h2 hzero]; exact h1
  · obtain ⟨f1, f2⟩ := fp_is hn hll hzero
    refine .inr ⟨by rw [if_neg hzero]; omega, hzero, r', h1, ?_⟩
    rw [withM_eq]; unfold withMI
    rw [z2, c', hwr, h3 _ f1]
theorem r4Ech_more {R : Type} (fuel : Nat) (n : Int) (h0 : 0 ≤ n) (hn : n ≤ 512) (vs : List Nat) (hl : vs.length ≤ 1000) (hv : ∀ v, v ∈ vs → v < 2 ^ n.toNat) (k0 : List Rw → Option R) : ∀ (k j : Nat) (r : List (Nat × Nat)), j ≤ vs.length → vs.length < j + k → IsRed (vs.take j) r →
    r4EchF_l2 fuel (mrs n vs) (vs.length : Int) k0 k (mrs n (Lin.rows r)) (j : Int) = k0 (mrs n (Lin.rows (red vs)))
  | 0, j, r, h1, h2, _ => by omega
  | k + 1, j, r, h1, h2, hr => by
    unfold r4EchF_l2 r4EchF_s3
    rw [br_if]
    by_cases hc : j < vs.length
    · have hvj := hv _ (List.getElem_mem hc)
      obtain ⟨a, b, _⟩ := mr_rt h0 hn hvj
      have e1 : ix (mrs n vs) (j : Int) = some (n, words (nw n) vs[j]) := by unfold mrs; rw [ix_nat, List.getElem?_map, List.getElem?_eq_getElem hc]; rfl
      obtain ⟨s1, s2, s3, s4⟩ := ech_step h0 hn hr (fun v hm => hv v (List.mem_of_mem_take hm)) hvj
      rw [if_pos (by simpa using hc), bnd_of e1]
      dsimp only
      rw [grd_of (by rw [s1, a, b]; rfl), grd_of (by rw [s2, s3]; rfl), br_if, wrap_i64 (by omega) (by omega), show (j : Int) + 1 = ((j + 1 : Nat) : Int) by omega]
      rw [← List.take_succ_eq_append_getElem hc] at s4
      rcases s4 with ⟨t1, t2⟩ | ⟨t1, t2, r', t3, t4⟩
      · rw [if_neg (by simp; omega)]
        exact r4Ech_more fuel n h0 hn vs hl hv k0 k (j + 1) r (by omega) (by omega) t2
      · rw [if_pos (by simp; omega), grd_of (by rw [s1, s2, s3, decide_eq_true t2]; rfl), t4]
        exact r4Ech_more fuel n h0 hn vs hl hv k0 k (j + 1) r' (by omega) (by omega) t3
    · rw [if_neg (by simpa using hc)]
      rw [List.take_of_length_le (by omega)] at hr
      rw [red_eq hr]
theorem r4Ech_none {R : Type} (fuel : Nat) (n : Int) (h0 : 0 ≤ n) (hn : n ≤ 512) (vs : List Nat) (hl : vs.length ≤ 1000) (hv : ∀ v, v ∈ vs → v < 2 ^ n.toNat) (k0 : List Rw → Option R) (k1 : Option R) : ∀ (k j : Nat), j ≤ vs.length → vs.length < j + k → IsRed (vs.take j) [] →
    (red vs = [] ∧ r4EchF_l3 fuel (mrs n vs) (vs.length : Int) k0 k1 k (j : Int) = k1) ∨ r4EchF_l3 fuel (mrs n vs) (vs.length : Int) k0 k1 k (j : Int) = k0 (mrs n (Lin.rows (red vs)))
  | 0, j, h1, h2, _ => by omega
  | k + 1, j, h1, h2, hr => by
    unfold r4EchF_l3 r4EchF_s4
    rw [br_if]
    by_cases hc : j < vs.length
    · have hvj := hv _ (List.getElem_mem hc)
      obtain ⟨a, b, _⟩ := mr_rt h0 hn hvj
      have e1 : ix (mrs n vs) (j : Int) = some (n, words (nw n) vs[j]) := by unfold mrs; rw [ix_nat, List.getElem?_map, List.getElem?_eq_getElem hc]; rfl
      obtain ⟨s1, s2, s3, s4⟩ := ech_step h0 hn hr (fun v hm => hv v (List.mem_of_mem_take hm)) hvj
      have e0 : mrs n (Lin.rows []) = [] := rfl
      rw [e0] at s1 s2 s3 s4
      rw [if_pos (by simpa using hc), bnd_of e1]
      dsimp only
      rw [grd_of (by rw [s1, a, b]; rfl), grd_of (by rw [s2, s3]; rfl), br_if, wrap_i64 (by omega) (by omega), show (j : Int) + 1 = ((j + 1 : Nat) : Int) by omega]
      rw [← List.take_succ_eq_append_getElem hc] at s4
      rcases s4 with ⟨t1, t2⟩ | ⟨t1, t2, r', t3, t4⟩
      · rw [if_neg (by simp; omega)]
        exact r4Ech_none fuel n h0 hn vs hl hv k0 k1 k (j + 1) (by omega) (by omega) t2
      · rw [if_pos (by simp; omega), grd_of (by rw [s1, s2, s3, decide_eq_true t2]; rfl), t4]
        cases k with
        | zero => omega
        | succ k => exact .inr (r4Ech_more fuel n h0 hn vs hl hv _ (k + 1) (j + 1) r' (by omega) (by omega) t3)
    · rw [if_neg (by simpa using hc)]
      rw [List.take_of_length_le (by omega)] at hr
      exact .inl ⟨red_eq hr, rfl⟩
theorem r4Ech_first {R : Type} (fuel : Nat) (n : Int) (h0 : 0 ≤ n) (hn : n ≤ 512) (vs : List Nat) (hl : vs.length ≤ 1000) (hv : ∀ v, v ∈ vs → v < 2 ^ n.toNat) (k0 : List Rw → Option R) (k1 : Option R) (k : Nat) (hk : vs.length + 2 < k) :
    (red vs = [] ∧ r4EchF_l1 fuel (mrs n vs) k0 k1 k1 k (vs.length : Int) = k1) ∨ r4EchF_l1 fuel (mrs n vs) k0 k1 k1 k (vs.length : Int) = k0 (mrs n (Lin.rows (red vs))) := by
  cases k with
  | zero => omega
  | succ k =>
    unfold r4EchF_l1 r4EchF_s2
    dsimp only
    rw [br_if]
    by_cases hc : 0 < vs.length
    · have hvj := hv _ (List.getElem_mem hc)
      obtain ⟨a, b, _⟩ := mr_rt h0 hn hvj
      have e1 : ix (mrs n vs) 0 = some (n, words (nw n) vs[0]) := by
        have := ix_nat (mrs n vs) 0
        unfold mrs at this ⊢
        rw [List.getElem?_map, List.getElem?_eq_getElem hc] at this
        exact this
      obtain ⟨s1, s2, s3, s4⟩ := ech_step h0 hn red_nil (fun v hm => by simp at hm) hvj
      have e0 : mrs n (Lin.rows []) = [] := rfl
      rw [e0] at s1 s2 s3 s4
      have et : [] ++ [vs[0]] = vs.take 1 := by
        cases vs with
        | nil => simp at hc
        | cons x t => rfl
      rw [et] at s4
      rw [if_pos (by simpa using hc), bnd_of e1]
      dsimp only
      rw [grd_of (by rw [s1, a, b]; rfl), grd_of (by rw [s2, s3]; rfl), br_if]
      rcases s4 with ⟨t1, t2⟩ | ⟨t1, t2, r', t3, t4⟩
      · rw [if_neg (by simp; omega)]
        have := r4Ech_none (R := R) fuel n h0 hn vs hl hv k0 k1 k 1 (by omega) (by omega) t2
        exact this
      · rw [if_pos (by simp; omega), grd_of (by rw [s1, s2, s3, decide_eq_true t2]; rfl), t4]
        have := r4Ech_more (R := R) fuel n h0 hn vs hl hv k0 k 1 r' (by omega) (by omega) t3
        exact .inr this
    · rw [if_neg (by simpa using hc)]
      have : vs = [] := List.eq_nil_of_length_eq_zero (by omega)
      exact .inl ⟨by rw [this]; exact red_nil_eq, rfl⟩
theorem r4Ech_fact (n : Int) (m : List (Int × List Int)) (hg : (rtM n m) = true) : Fact Tryd.prog noG 86 [.agg [.s (.int .i64 n), .lt (.pair (.int .i64) (.sl (.int .u64))) m]] [] (.lt (.pair (.int .i64) (.sl (.int .u64))) ((echR n m) : List (Int × List Int)), []) := by
  have hg0 := hg
  rw [rtM_eq] at hg; unfold rtMI at hg
  simp only [Bool.and_eq_true, decide_eq_true_eq, List.all_eq_true] at hg
  obtain ⟨⟨⟨h0, h1⟩, hl⟩, hr⟩ := hg
  have hlen : (vals m).length = m.length := List.length_map _
  have hv : ∀ v, v ∈ vals m → v < 2 ^ n.toNat := fun v hv => by
    obtain ⟨r, hm, rfl⟩ := List.mem_map.1 hv
    exact (rtS_iff.1 (hr r hm).2).2.2
  have em : m = mrs n (vals m) := by
    unfold mrs vals
    rw [List.map_map]
    refine (List.map_id m).symm.trans (List.map_congr_left fun r hm => ?_)
    obtain ⟨⟨e, a⟩, b⟩ := hr r hm
    show r = (n, words (nw n) (val r.2))
    rw [← row_words a b, ← e]
  refine callN_fact hN hM T_r4with_ok (n := 1100) (mode := mode21) ?_
  rw [r4EchF_eq]
  unfold r4EchF r4EchF_s1
  have h2 := fun k0 k1 => r4Ech_first (R := Out) 1100 n h0 h1 (vals m) (by omega) hv k0 k1 1100 (by omega)
  rw [← em, hlen] at h2
  dsimp only
  rw [echR_eq]
  unfold echRI
  unfold r4EchF_s5 r4EchF_s6 r4EchF_s7
  rcases h2 _ _ with ⟨e, h3⟩ | h3
  · rw [h3, e]; rfl
  · rw [h3]
noncomputable def r4Ech_ent : List V → List Blk → Option (Bool × Out)
  | [.agg [.s (.int .i64 n), w0]], [] => (asSl (.pair (.int .i64) (.sl (.int .u64))) w0).bind fun m => some ((rtM n m), (.lt (.pair (.int .i64) (.sl (.int .u64))) ((echR n m) : List (Int × List Int)), []))
  | _, _ => none
theorem r4Ech_ok : ∀ args bs out, r4Ech_ent args bs = some (true, out) → Fact Tryd.prog noG 86 args bs out := by
  intro args bs out h
  unfold r4Ech_ent at h
  split at h
  · rename_i n w0
    obtain ⟨m, h_m, h⟩ := Option.bind_eq_some_iff.1 h
    simp only [Option.some.injEq, Prod.mk.injEq] at h
    obtain ⟨hg, rfl⟩ := h
    exact (r4Ech_fact n m hg).args (fun _ _ _ => fun _ h => RVs_two (fun _ h => RV_agg_two (fun _ h => RVs_two (fun _ h => h) (fun _ h => RVs_two (fun _ h => RV_sl (s := (.pair (.int .i64) (.sl (.int .u64)))) h_m h) (fun _ h => h) h) h) h) (fun _ h => h) h)
  · cases h
noncomputable def T_r4Ech : Tbl := Tbl.cons 86 r4Ech_ent T_r4with
theorem T_r4Ech_ok : CallOk Tryd.prog noG T_r4Ech := cons_ok T_r4with_ok r4Ech_ok
end Go.Proofs.YtfpdcfgjhkiklaaDoor
