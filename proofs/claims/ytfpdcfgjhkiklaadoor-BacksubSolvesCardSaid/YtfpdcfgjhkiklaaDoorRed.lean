/- Matrices reduced: what each function tells. -/
import Derived.Test.YtfpdcfgjhkiklaaDoorPmTab
import Derived.KernelRfl
import Derived.Test.YtfpdcfgjhkiklaaDoorProg
import Derived.Test.YtfpdcfgjhkiklaaDoorBsBlk
import Derived.WalkKit
set_option autoImplicit false
set_option maxRecDepth 100000
set_option maxHeartbeats 4000000
set_option linter.unusedVariables false
set_option linter.unusedSimpArgs false
namespace Go.Proofs.YtfpdcfgjhkiklaaDoor
open Go Go.PM Go.Proofs Go.Shelf Go.PM.Row Go.PM.Bits Go.PM.Bit Go.PM.Blk Go.PM.Lin
/-! Matrices reduced. -/
noncomputable def hasI (n : Int) (ws : List Int) (i : Int) : Bool := getS n ws i == 1
noncomputable def hasS : Int → List Int → Int → Bool := Classical.choose (⟨hasI, rfl⟩ : ∃ f, f = hasI)
theorem hasS_eq : hasS = hasI := Classical.choose_spec (⟨hasI, rfl⟩ : ∃ f, f = hasI)
noncomputable def hasAt (i : Int) : List Rw → Int → Int
  | [], _ => -1
  | r :: t, j => if hasS r.1 r.2 i = true then j else hasAt i t (j + 1)
noncomputable def idxHI (i : Int) (r : List Rw) : Int := hasAt i r 0
noncomputable def idxH : Int → List Rw → Int := Classical.choose (⟨idxHI, rfl⟩ : ∃ f, f = idxHI)
theorem idxH_eq : idxH = idxHI := Classical.choose_spec (⟨idxHI, rfl⟩ : ∃ f, f = idxHI)
/-- A number as a row of n bits. -/
noncomputable def mr (n : Int) (v : Nat) : Rw := (n, words (nw n) v)
noncomputable def mrs (n : Int) (vs : List Nat) : List Rw := vs.map (mr n)
def vals (m : List Rw) : List Nat := m.map fun r => val r.2
def pcast (l : List (Nat × Nat)) : List Int := (Lin.places l).map fun (q : Nat) => (q : Int)
noncomputable def echNI (n : Int) (m : List Rw) : Int := if mrt n m = true then n else 0
noncomputable def echN : Int → List Rw → Int := Classical.choose (⟨echNI, rfl⟩ : ∃ f, f = echNI)
theorem echN_eq : echN = echNI := Classical.choose_spec (⟨echNI, rfl⟩ : ∃ f, f = echNI)
noncomputable def echMI (n : Int) (m : List Rw) : List Rw := if mrt n m = true then mrs n (Lin.rows (red (vals m))) else []
noncomputable def echM : Int → List Rw → List Rw := Classical.choose (⟨echMI, rfl⟩ : ∃ f, f = echMI)
theorem echM_eq : echM = echMI := Classical.choose_spec (⟨echMI, rfl⟩ : ∃ f, f = echMI)
noncomputable def echPI (n : Int) (m : List Rw) : List Int := if mrt n m = true then pcast (red (vals m)) else []
noncomputable def echP : Int → List Rw → List Int := Classical.choose (⟨echPI, rfl⟩ : ∃ f, f = echPI)
theorem echP_eq : echP = echPI := Classical.choose_spec (⟨echPI, rfl⟩ : ∃ f, f = echPI)
/-! Rows as numbers. -/
theorem hasAt_cases (i : Int) : ∀ (l : List Rw) (j : Int), (hasAt i l j = -1 ∧ ∀ r, r ∈ l → ¬ hasS r.1 r.2 i = true) ∨ ∃ b : Nat, ∃ h : b < l.length, hasAt i l j = j + (b : Int) ∧ hasS (l[b]).1 (l[b]).2 i = true ∧ ∀ c, (hc : c < b) → ¬ hasS (l[c]).1 (l[c]).2 i = true
  | [], j => .inl ⟨rfl, fun r h => by simp at h⟩
  | r :: t, j => by
    rw [hasAt]
    by_cases h : hasS r.1 r.2 i = true
    · rw [if_pos h]; exact .inr ⟨0, by simp, by simp, h, fun c hc => by omega⟩
    · rw [if_neg h]
      rcases hasAt_cases i t (j + 1) with ⟨h1, h2⟩ | ⟨b, h1, h2, h3, h4⟩
      · refine .inl ⟨h1, fun x hx => ?_⟩
        rcases List.mem_cons.1 hx with rfl | hx
        · exact h
        · exact h2 x hx
      · refine .inr ⟨b + 1, by simp; omega, by rw [h2]; omega, h3, fun c hc => ?_⟩
        cases c with
        | zero => exact h
        | succ c => exact h4 c (by omega)
theorem hasAt_neg {i : Int} {l : List Rw} (h : hasAt i l 0 < 0) : hasAt i l 0 = -1 := by
  rcases hasAt_cases i l 0 with ⟨h1, _⟩ | ⟨b, _, h2, _⟩
  · exact h1
  · omega
def Lt (n : Int) (vs : List Nat) : Prop := ∀ t, t < vs.length → vs.getD t 0 < 2 ^ n.toNat
theorem Lt.mem {n : Int} {vs : List Nat} (h : Lt n vs) {v : Nat} (hv : v ∈ vs) : v < 2 ^ n.toNat := by
  obtain ⟨t, ht, rfl⟩ := Lin.mem_getD.1 hv
  exact h t ht
theorem Lt.of_mem {n : Int} {vs : List Nat} (h : ∀ v, v ∈ vs → v < 2 ^ n.toNat) : Lt n vs := fun t ht => h _ (Lin.mem_getD.2 ⟨t, ht, rfl⟩)
theorem mr_rt {n : Int} (h0 : 0 ≤ n) (h1 : n ≤ 512) {v : Nat} (hv : v < 2 ^ n.toNat) : okW (words (nw n) v) = true ∧ rtS n (words (nw n) v) = true ∧ val (words (nw n) v) = v := by
  have hw := nw_cast h0
  have hval : val (words (nw n) v) = v := by
    rw [val_words, Nat.mod_eq_of_lt (Nat.lt_of_lt_of_le hv (Nat.pow_le_pow_right (by omega) (by omega)))]
  exact ⟨okW_iff.2 (words_ok _ _), rtS_iff.2 ⟨⟨h0, h1⟩, length_words _ _, by rw [hval]; exact hv⟩, hval⟩
theorem row_words {n : Int} {ws : List Int} (hok : okW ws = true) (h : rtS n ws = true) : ws = words (nw n) (val ws) := by
  have := words_val (okW_iff.1 hok)
  rw [(rtS_iff.1 h).2.1] at this
  exact this.symm
theorem mrs_len (n : Int) (vs : List Nat) : (mrs n vs).length = vs.length := List.length_map _
theorem mrs_get {n : Int} {vs : List Nat} {t : Nat} (ht : t < vs.length) : (mrs n vs)[t]? = some (mr n (vs.getD t 0)) := by
  unfold mrs
  rw [List.getElem?_map, List.getD_eq_getElem?_getD, List.getElem?_eq_getElem ht]; rfl
theorem mrs_set (n : Int) (vs : List Nat) (t v : Nat) : (mrs n vs).set t (mr n v) = mrs n (vs.set t v) := by unfold mrs; rw [List.map_set]
theorem mrs_ok {n : Int} {vs : List Nat} : okM (mrs n vs) = true := okM_iff.2 fun r hr => by
  obtain ⟨v, _, rfl⟩ := List.mem_map.1 hr
  exact okW_iff.2 (words_ok _ _)
theorem mrt_vals {n : Int} {m : List Rw} (hok : okM m = true) (h : mrt n m = true) : m = mrs n (vals m) ∧ Lt n (vals m) ∧ (vals m).length = m.length := by
  obtain ⟨_, _, hr⟩ := mrt_iff.1 h
  refine ⟨?_, Lt.of_mem fun v hv => ?_, List.length_map _⟩
  · unfold mrs vals
    rw [List.map_map]
    refine (List.map_id m).symm.trans (List.map_congr_left fun r hm => ?_)
    obtain ⟨h1, h2⟩ := hr r hm
    show r = (n, words (nw n) (val r.2))
    rw [← row_words (okM_iff.1 hok r hm) (h1 ▸ h2), ← h1]
  · obtain ⟨r, hm, rfl⟩ := List.mem_map.1 hv
    obtain ⟨h1, h2⟩ := hr r hm
    have := (rtS_iff.1 h2).2.2
    rw [h1] at this; exact this
theorem mrs_mrt {n : Int} (h0 : 0 ≤ n) (h1 : n ≤ 64) {vs : List Nat} (hl : vs.length ≤ 64) (hv : Lt n vs) : mrt n (mrs n vs) = true := mrt_iff.2 ⟨⟨h0, h1⟩, by rw [mrs_len]; exact hl, fun r hr => by
  obtain ⟨v, hm, rfl⟩ := List.mem_map.1 hr
  exact ⟨rfl, (mr_rt h0 (by omega) (hv.mem hm)).2.1⟩⟩
theorem vals_mrs {n : Int} (h0 : 0 ≤ n) (h1 : n ≤ 64) {vs : List Nat} (hv : Lt n vs) : vals (mrs n vs) = vs := by
  unfold vals mrs
  rw [List.map_map]
  refine (List.map_congr_left fun v hm => ?_).trans (List.map_id vs)
  exact (mr_rt h0 (by omega) (hv.mem hm)).2.2
theorem has_mr {n : Int} (h0 : 0 ≤ n) (h1 : n ≤ 64) {v : Nat} (hv : v < 2 ^ n.toNat) {i : Nat} (hi : (i : Int) < n) : hasS n (words (nw n) v) (i : Int) = v.testBit i := by
  obtain ⟨a, b, c⟩ := mr_rt h0 (by omega) hv
  rw [hasS_eq]; unfold hasI
  rw [getS_eq]; unfold getI
  rw [if_pos ⟨b, by omega, hi⟩]
  unfold bitI
  rw [c, Int.toNat_natCast]
  cases v.testBit i <;> rfl
theorem xor_mr {n : Int} (h0 : 0 ≤ n) (h1 : n ≤ 64) {u v : Nat} (hu : u < 2 ^ n.toNat) (hv : v < 2 ^ n.toNat) : xorN n (words (nw n) u) n (words (nw n) v) = n ∧ xorW n (words (nw n) u) n (words (nw n) v) = words (nw n) (u ^^^ v) := by
  obtain ⟨a, b, c⟩ := mr_rt h0 (by omega) hu
  obtain ⟨d, e, f⟩ := mr_rt h0 (by omega) hv
  obtain ⟨x1, x2, x3⟩ := xor_rt a d b e rfl
  obtain ⟨y1, y2, y3⟩ := xor_val a d b e rfl
  refine ⟨x3, ?_⟩
  rw [row_words x1 x2, y2, c, f]
theorem idx_mrs {n : Int} (h0 : 0 ≤ n) (h1 : n ≤ 64) {vs : List Nat} (hv : Lt n vs) {d i : Nat} (hi : (i : Int) < n) (hd : d ≤ vs.length) :
    (idxH (i : Int) ((mrs n vs).drop d) = -1 ∧ ∀ b, d ≤ b → b < vs.length → (vs.getD b 0).testBit i = false) ∨ ∃ b : Nat, d + b < vs.length ∧ idxH (i : Int) ((mrs n vs).drop d) = (b : Int) ∧ (vs.getD (d + b) 0).testBit i = true := by
  have hg : ∀ c, (hc : d + c < vs.length) → ((mrs n vs).drop d)[c]'(by rw [List.length_drop, mrs_len]; omega) = mr n (vs.getD (d + c) 0) := fun c hc => by
    rw [List.getElem_drop]
    have := mrs_get (n := n) hc
    rw [List.getElem?_eq_getElem (by rw [mrs_len]; exact hc)] at this
    exact Option.some.inj this
  rw [idxH_eq]; unfold idxHI
  rcases hasAt_cases (i : Int) ((mrs n vs).drop d) 0 with ⟨h2, h3⟩ | ⟨b, h2, h3, h4, _⟩
  · refine .inl ⟨h2, fun b hb hl => ?_⟩
    have hm := List.getElem_mem (l := (mrs n vs).drop d) (n := b - d) (by rw [List.length_drop, mrs_len]; omega)
    have := h3 _ hm
    rw [hg (b - d) (by omega), show d + (b - d) = b by omega] at this
    have e := has_mr h0 h1 (hv b hl) hi
    show _ = false
    cases hc : (vs.getD b 0).testBit i with
    | false => rfl
    | true => exact absurd (e.trans hc) this
  · rw [List.length_drop, mrs_len] at h2
    refine .inr ⟨b, by omega, by rw [h3]; omega, ?_⟩
    rw [hg b (by omega)] at h4
    exact (has_mr h0 h1 (hv _ (by omega)) hi).symm.trans h4
theorem sw_mrs {n : Int} {vs : List Nat} {d s : Nat} : ((mrs n vs).set d (mr n (vs.getD s 0))).set s (mr n (vs.getD d 0)) = mrs n (sw vs d s) := by
  unfold sw
  rw [mrs_set, mrs_set]
theorem pcast_len (l : List (Nat × Nat)) : (pcast l).length = l.length := by unfold pcast Lin.places; rw [List.length_map, List.length_map]
theorem red_nil_eq : red [] = [] := red_eq red_nil
theorem ech_nil (n : Int) : echM n [] = [] ∧ echP n [] = [] ∧ (mrt n [] = true → 0 ≤ n ∧ n ≤ 64) := by
  rw [echM_eq, echP_eq]
  unfold echMI echPI vals
  simp only [List.map_nil, red_nil_eq]
  refine ⟨?_, ?_, fun h => (mrt_iff.1 h).1⟩
  · split <;> rfl
  · split <;> rfl
def mode15 : FuncId → Nat := fun f => bif Nat.beq f 155 then 2 else bif Nat.beq f 122 then 2 else bif Nat.beq f 159 then 2 else 0
/-! downpour/reduce.bit -/
noncomputable def rbitF_s1 {R : Type} (ws : List Int) (n i : Int) (c0 : Bool → Option R) : Option R :=
  grd (okW ws) <|
  c0 (((getS n ws i) : Int) == 1)
theorem rbitF_s1_eq (fuel : Nat)  (ws : List Int) (n i : Int) : callN Tryd.prog mode15 T_refMRight fuel 90 [.agg [vI n, vW ws], vI i] [] = rbitF_s1 ws n i (fun a1 => some (vB a1, [])) := by kernel_rfl
noncomputable def rbitF {R : Type} (fuel : Nat) (n : Int) (ws : List Int) (i : Int) (r0 : Bool → Option R) : Option R :=
  (rbitF_s1 ws n i (fun a1 => r0 a1))
theorem rbitF_eq (fuel : Nat) (n : Int) (ws : List Int) (i : Int) : callN Tryd.prog mode15 T_refMRight fuel 90 [.agg [.s (.int .i64 n), .li .u64 ws], .s (.int .i64 i)] [] = rbitF fuel n ws i (fun z0 => some (.s (.bool z0), [])) := by
  unfold rbitF
  exact (rbitF_s1_eq fuel  ws n i)
theorem rbit_fact (n : Int) (ws : List Int) (i : Int) (hg : (okW ws) = true) : Fact Tryd.prog noG 90 [.agg [.s (.int .i64 n), .li .u64 ws], .s (.int .i64 i)] [] (.s (.bool (hasS n ws i)), []) := by
  refine callN_fact hN hM T_refMRight_ok (n := 0) (mode := mode15) ?_
  rw [rbitF_eq]
  unfold rbitF rbitF_s1
  rw [grd_of hg, hasS_eq]
  rfl
noncomputable def rbit_ent : List V → List Blk → Option (Bool × Out)
  | [.agg [.s (.int .i64 n), w0], .s (.int .i64 i)], [] => (asSl (.int .u64) w0).bind fun ws => some ((okW ws), (.s (.bool (hasS n ws i)), []))
  | _, _ => none
theorem rbit_ok : ∀ args bs out, rbit_ent args bs = some (true, out) → Fact Tryd.prog noG 90 args bs out := by
  intro args bs out h
  unfold rbit_ent at h
  split at h
  · rename_i n w0 i
    obtain ⟨ws, h_ws, h⟩ := Option.bind_eq_some_iff.1 h
    simp only [Option.some.injEq, Prod.mk.injEq] at h
    obtain ⟨hg, rfl⟩ := h
    exact (rbit_fact n ws i hg).args (fun _ _ _ => fun _ h => RVs_two (fun _ h => RV_agg_two (fun _ h => RVs_two (fun _ h => h) (fun _ h => RVs_two (fun _ h => RV_li h_ws h) (fun _ h => h) h) h) h) (fun _ h => h) h)
  · cases h
noncomputable def T_rbit : Tbl := Tbl.cons 90 rbit_ent T_refMRight
theorem T_rbit_ok : CallOk Tryd.prog noG T_rbit := cons_ok T_refMRight_ok rbit_ok
/-! (*downpour/reduce.work).columns$1 -/
noncomputable def col1F_s1 {R : Type} (ws : List Int) (n i : Int) (c0 : Bool → Int → Option R) : Option R :=
  grd (okW ws) <|
  c0 (hasS n ws i) i
theorem col1F_s1_eq (fuel : Nat)  (ws : List Int) (n i : Int) : callN Tryd.prog mode15 T_rbit fuel 159 [.agg [vI n, vW ws], .ptr 0 1 0 0] [⟨3, .agg [vI i], true⟩] = col1F_s1 ws n i (fun a1 a2 => some (vB a1, [some ⟨3, .agg [vI a2], true⟩])) := by kernel_rfl
noncomputable def col1F {R : Type} (fuel : Nat) (n : Int) (ws : List Int) (i : Int) (r0 : Bool → Int → Option R) : Option R :=
  (col1F_s1 ws n i (fun a1 a2 => r0 a1 a2))
theorem col1F_eq (fuel : Nat) (n : Int) (ws : List Int) (i : Int) : callN Tryd.prog mode15 T_rbit fuel 159 [.agg [.s (.int .i64 n), .li .u64 ws], .ptr 0 1 0 0] [⟨3, .agg [.s (.int .i64 i)], true⟩] = col1F fuel n ws i (fun z0 z1 => some (.s (.bool z0), [some ⟨3, .agg [.s (.int .i64 z1)], true⟩])) := by
  unfold col1F
  exact (col1F_s1_eq fuel  ws n i)
theorem col1_fact (n : Int) (ws : List Int) (i : Int) (hg : (okW ws) = true) : Fact Tryd.prog noG 159 [.agg [.s (.int .i64 n), .li .u64 ws], .ptr 0 1 0 0] [⟨3, .agg [.s (.int .i64 i)], true⟩] (.s (.bool (hasS n ws i)), [some ⟨3, .agg [.s (.int .i64 i)], true⟩]) := by
  refine callN_fact hN hM T_rbit_ok (n := 0) (mode := mode15) ?_
  rw [col1F_eq]
  unfold col1F col1F_s1
  rw [grd_of hg]
noncomputable def col1_ent : List V → List Blk → Option (Bool × Out)
  | [.agg [.s (.int .i64 n), w0], .ptr 0 1 0 0], [⟨3, .agg [.s (.int .i64 i)], true⟩] => (asSl (.int .u64) w0).bind fun ws => some ((okW ws), (.s (.bool (hasS n ws i)), [some ⟨3, .agg [.s (.int .i64 i)], true⟩]))
  | _, _ => none
theorem col1_ok : ∀ args bs out, col1_ent args bs = some (true, out) → Fact Tryd.prog noG 159 args bs out := by
  intro args bs out h
  unfold col1_ent at h
  split at h
  · rename_i n w0 i
    obtain ⟨ws, h_ws, h⟩ := Option.bind_eq_some_iff.1 h
    simp only [Option.some.injEq, Prod.mk.injEq] at h
    obtain ⟨hg, rfl⟩ := h
    exact (col1_fact n ws i hg).args (fun _ _ _ => fun _ h => RVs_two (fun _ h => RV_agg_two (fun _ h => RVs_two (fun _ h => h) (fun _ h => RVs_two (fun _ h => RV_li h_ws h) (fun _ h => h) h) h) h) (fun _ h => h) h)
  · cases h
noncomputable def T_col1 : Tbl := Tbl.cons 159 col1_ent T_rbit
theorem T_col1_ok : CallOk Tryd.prog noG T_col1 := cons_ok T_rbit_ok col1_ok
/-! slices.IndexFunc[[]downpour/api.Row,downpour/api.Row] -/
noncomputable abbrev qc0 (r : List (Int × List Int)) (i : Int) : List (Nat × Option Blk) := [(0, some ⟨44, vR r, true⟩), (1, some ⟨3, .agg [vI i], true⟩)]
noncomputable abbrev qc1 (fuel : Nat) : Ctx Out := (fnX Tryd.prog mode15 T_col1 fuel 19 2)
noncomputable abbrev qc2 : Code := (bodyOf Tryd.prog 155)
noncomputable def idxHfF_s2 {R : Type} (w4 w5 : Int) (z : Nat) (r : List (Int × List Int)) (d : Nat) (i : Int) (c0 : Int → Option R) (c1 : Int → Int → Option R) (c2 : Option R) : Option R :=
  br (decide (w4 < w5))
    (bnd (below w4 z) fun j9 =>
    bnd (r[(d + j9)]?) fun e0 =>
    grd (okW e0.2) <|
    br (hasS e0.1 e0.2 i)
      (c0 w4)
      (c1 w5 (IntKind.i64.wrap (w4 + 1))))
    (c2)
theorem idxHfF_s2_eq (fuel k : Nat) (K : Ex → St → Option Out) (w4 w5 : Int) (z : Nat) (r : List (Int × List Int)) (d : Nat) (i : Int) : lpN (sub qc2 [1, 0, 1, 0, 0]) (qc1 fuel) 16 [0, 1, 4, 7, 8] (k + 1) ⟨[(0, .sl 0 2 d z), (1, .fn (.func 159) [] [.ptr 1 1 0 0]), (4, vI 0), (7, vI w5), (8, vI w4)], (qc0 r i), 2, none⟩ K = idxHfF_s2 w4 w5 z r d i (fun a0 => K .ret ⟨[(4, vI a0)], (qc0 r i), 2, none⟩) (fun a1 a2 => lpN (sub qc2 [1, 0, 1, 0, 0]) (qc1 fuel) 16 [0, 1, 4, 7, 8] k ⟨[(0, .sl 0 2 d z), (1, .fn (.func 159) [] [.ptr 1 1 0 0]), (4, vI 0), (7, vI a1), (8, vI a2)], (qc0 r i), 2, none⟩ K) (K (.exit 0) ⟨[(4, vI 0)], (qc0 r i), 2, none⟩) := by kernel_rfl
noncomputable def idxHfF_l1 {R : Type} (fuel d z : Nat) (r : List (Int × List Int)) (i : Int) (k0 : Int → Option R) (k1 : Option R) : Nat → Int → Int → Option R
  | 0, _, _ => none
  | k + 1, w5, w4 =>
    (idxHfF_s2 w4 w5 z r d i (fun a0 => k0 a0) (fun a1 a2 => ( idxHfF_l1 fuel d z r i k0 k1 k a1 a2 )) (k1))
theorem idxHfF_l1_eq (fuel d z : Nat) (r : List (Int × List Int)) (i : Int) (K : Ex → St → Option Out) : ∀ (k : Nat) (w5 w4 : Int), lpN (sub qc2 [1, 0, 1, 0, 0]) (qc1 fuel) 16 [0, 1, 4, 7, 8] k ⟨[(0, .sl 0 2 d z), (1, .fn (.func 159) [] [.ptr 1 1 0 0]), (4, vI 0), (7, vI w5), (8, vI w4)], (qc0 r i), 2, none⟩ K = idxHfF_l1 fuel d z r i (fun y8 => K .ret ⟨[(4, vI y8)], (qc0 r i), 2, none⟩) (K (.exit 0) ⟨[(4, vI 0)], (qc0 r i), 2, none⟩) k w5 w4
  | 0, _, _ => rfl
  | k + 1, w5, w4 => by
    unfold idxHfF_l1
    exact (idxHfF_s2_eq fuel k K w4 w5 z r d i).trans (congr (congr (congr (Eq.refl (idxHfF_s2 (R := Out) w4 w5 z r d i)) (rfl)) (funext fun a0 => funext fun a1 => idxHfF_l1_eq fuel d z r i K k a0 a1)) (rfl))
noncomputable def idxHfF_s3 {R : Type} (x0 : Int) (r : List (Int × List Int)) (i : Int) (c0 : Int → (List (Int × List Int)) → Int → Option R) : Option R :=
  c0 x0 r i
theorem idxHfF_s3_eq (fuel : Nat)  (x0 : Int) (r : List (Int × List Int)) (i : Int) : (kont (qc1 fuel) qc2 [1, 0, 1, 0] 16 (endK Tryd.prog 2 2 155)) .ret ⟨[(4, vI x0)], (qc0 r i), 2, none⟩ = idxHfF_s3 x0 r i (fun a0 a1 a2 => some (vI a0, [some ⟨44, vR a1, true⟩, some ⟨3, .agg [vI a2], true⟩])) := by kernel_rfl
noncomputable def idxHfF_s4 {R : Type} (r : List (Int × List Int)) (i : Int) (c0 : Int → (List (Int × List Int)) → Int → Option R) : Option R :=
  c0 (-1) r i
theorem idxHfF_s4_eq (fuel : Nat)  (r : List (Int × List Int)) (i : Int) : (kont (qc1 fuel) qc2 [1, 0, 1, 0] 16 (endK Tryd.prog 2 2 155)) (.exit 0) ⟨[(4, vI 0)], (qc0 r i), 2, none⟩ = idxHfF_s4 r i (fun a0 a1 a2 => some (vI a0, [some ⟨44, vR a1, true⟩, some ⟨3, .agg [vI a2], true⟩])) := by kernel_rfl
noncomputable def idxHfF_s1 {R : Type} (z d : Nat) (r : List (Int × List Int)) (i : Int) (c0 : Int → Int → Option R) : Option R :=
  c0 ((z : Nat) : Int) 0
theorem idxHfF_s1_eq (fuel : Nat)  (z d : Nat) (r : List (Int × List Int)) (i : Int) : callN Tryd.prog mode15 T_col1 fuel 155 [.sl 0 2 d z, .fn (.func 159) [] [.ptr 1 1 0 0]] [⟨44, vR r, true⟩, ⟨3, .agg [vI i], true⟩] = idxHfF_s1 z d r i (fun a0 a1 => lpN (sub qc2 [1, 0, 1, 0, 0]) (qc1 fuel) 16 [0, 1, 4, 7, 8] fuel ⟨[(0, .sl 0 2 d z), (1, .fn (.func 159) [] [.ptr 1 1 0 0]), (4, vI 0), (7, vI a0), (8, vI a1)], (qc0 r i), 2, none⟩ (kont (qc1 fuel) qc2 [1, 0, 1, 0] 16 (endK Tryd.prog 2 2 155))) := by kernel_rfl
noncomputable def idxHfF {R : Type} (fuel d z : Nat) (r : List (Int × List Int)) (i : Int) (r0 : Int → (List (Int × List Int)) → Int → Option R) : Option R :=
  (idxHfF_s1 z d r i (fun a0 a1 => (idxHfF_l1 fuel d z r i (fun x0 => (idxHfF_s3 x0 r i (fun a2 a3 a4 => r0 a2 a3 a4))) ((idxHfF_s4 r i (fun a5 a6 a7 => r0 a5 a6 a7))) fuel a0 a1)))
theorem idxHfF_eq (fuel d z : Nat) (r : List (Int × List Int)) (i : Int) : callN Tryd.prog mode15 T_col1 fuel 155 [.sl 0 2 d z, .fn (.func 159) [] [.ptr 1 1 0 0]] [⟨44, .lt (.pair (.int .i64) (.sl (.int .u64))) r, true⟩, ⟨3, .agg [.s (.int .i64 i)], true⟩] = idxHfF fuel d z r i (fun z0 z1 z2 => some (.s (.int .i64 z0), [some ⟨44, .lt (.pair (.int .i64) (.sl (.int .u64))) z1, true⟩, some ⟨3, .agg [.s (.int .i64 z2)], true⟩])) := by
  unfold idxHfF
  exact (idxHfF_s1_eq fuel  z d r i).trans (congr (Eq.refl (idxHfF_s1 (R := Out) z d r i)) (funext fun a0 => funext fun a1 => (idxHfF_l1_eq fuel d z r i (kont (qc1 fuel) qc2 [1, 0, 1, 0] 16 (endK Tryd.prog 2 2 155)) fuel a0 a1).trans (congrFun (congrFun (congrFun (congr (congr (Eq.refl (idxHfF_l1 (R := Out) fuel d z r i)) (funext fun x0 => (idxHfF_s3_eq fuel  x0 r i))) ((idxHfF_s4_eq fuel  r i))) fuel) a0) a1)))
theorem idxHf_loop {R : Type} (fuel d z : Nat) (r : List Rw) (i : Int) (hok : okM r = true) (hz : d + z = r.length) (hx : r.length ≤ 1000) (k0 : Int → Option R) (k1 : Option R) : ∀ (k j : Nat), j ≤ z → z < j + k → idxHfF_l1 fuel d z r i k0 k1 k (z : Int) (j : Int) = if hasAt i ((r.drop d).drop j) (j : Int) < 0 then k1 else k0 (hasAt i ((r.drop d).drop j) (j : Int))
  | 0, j, h1, h2 => by omega
  | k + 1, j, h1, h2 => by
    unfold idxHfF_l1 idxHfF_s2
    rw [br_if]
    have hl : (r.drop d).length = z := by rw [List.length_drop]; omega
    by_cases hc : j < z
    · have hdj : d + j < r.length := by omega
      have hw := okM_iff.1 hok _ (List.getElem_mem hdj)
      have e1 : below (j : Int) z = some j := by rw [below_of (by omega) (by omega)]; rfl
      have e2 : (r.drop d).drop j = r[d + j] :: (r.drop d).drop (j + 1) := by
        rw [List.drop_eq_getElem_cons (by omega), List.getElem_drop]
      rw [if_pos (by simpa using hc), bnd_of e1, bnd_of (List.getElem?_eq_getElem hdj), grd_of hw, br_if, e2, hasAt, wrap_i64 (by omega) (by omega), show (j : Int) + 1 = ((j + 1 : Nat) : Int) by omega]
      dsimp only
      rw [idxHf_loop fuel d z r i hok hz hx k0 k1 k (j + 1) (by omega) (by omega)]
      by_cases h : hasS (r[d + j]).1 (r[d + j]).2 i = true
      · rw [if_pos h, if_pos h, if_neg (by omega)]
      · rw [if_neg h, if_neg h]
    · rw [if_neg (by simpa using hc), List.drop_eq_nil_of_le (by omega)]
      rfl
theorem idxHf_fact (d : Nat) (z : Nat) (r : List (Int × List Int)) (i : Int) (hg : (okM r && decide (d + z = r.length) && decide (r.length ≤ 1000)) = true) : Fact Tryd.prog noG 155 [.sl 0 2 d z, .fn (.func 159) [] [.ptr 1 1 0 0]] [⟨44, .lt (.pair (.int .i64) (.sl (.int .u64))) r, true⟩, ⟨3, .agg [.s (.int .i64 i)], true⟩] (.s (.int .i64 (idxH i (r.drop d))), [some ⟨44, .lt (.pair (.int .i64) (.sl (.int .u64))) r, true⟩, some ⟨3, .agg [.s (.int .i64 i)], true⟩]) := by
  simp only [Bool.and_eq_true, decide_eq_true_eq] at hg
  obtain ⟨⟨hok, hz⟩, hx⟩ := hg
  refine callN_fact hN hM T_col1_ok (n := z + 1) (mode := mode15) ?_
  rw [idxHfF_eq]
  unfold idxHfF idxHfF_s1
  dsimp only
  have := idxHf_loop (R := Out) (z + 1) d z r i hok hz hx
  refine (this _ _ (z + 1) 0 (by omega) (by omega)).trans ?_
  rw [List.drop_zero, idxH_eq]
  unfold idxHI idxHfF_s3 idxHfF_s4
  rw [show ((0 : Nat) : Int) = 0 from rfl]
  by_cases h : hasAt i (r.drop d) 0 < 0
  · rw [if_pos h, hasAt_neg h]
  · rw [if_neg h]
noncomputable def idxHf_ent : List V → List Blk → Option (Bool × Out)
  | [.sl 0 2 d z, .fn (.func 159) [] [.ptr 1 1 0 0]], [⟨44, .lt (.pair (.int .i64) (.sl (.int .u64))) r, true⟩, ⟨3, .agg [.s (.int .i64 i)], true⟩] => some ((okM r && decide (d + z = r.length) && decide (r.length ≤ 1000)), (.s (.int .i64 (idxH i (r.drop d))), [some ⟨44, .lt (.pair (.int .i64) (.sl (.int .u64))) r, true⟩, some ⟨3, .agg [.s (.int .i64 i)], true⟩]))
  | _, _ => none
theorem idxHf_ok : ∀ args bs out, idxHf_ent args bs = some (true, out) → Fact Tryd.prog noG 155 args bs out := by
  intro args bs out h
  unfold idxHf_ent at h
  split at h
  · rename_i d z r i
    simp only [Option.some.injEq, Prod.mk.injEq] at h
    obtain ⟨hg, rfl⟩ := h
    exact idxHf_fact d z r i hg
  · cases h
noncomputable def T_idxHf : Tbl := Tbl.cons 155 idxHf_ent T_col1
theorem T_idxHf_ok : CallOk Tryd.prog noG T_idxHf := cons_ok T_col1_ok idxHf_ok
/-! slices.Clone[[]downpour/api.Row,downpour/api.Row] -/
noncomputable def cloneRF_s1 {R : Type} (r : List (Int × List Int)) (c0 : Nat → Nat → (List (Int × List Int)) → Option R) : Option R :=
  grd (Nat.blt 0 r.length) <|
  grd (okN (0 + r.length) 32) <|
  c0 0 r.length r
theorem cloneRF_s1_eq (fuel : Nat)  (r : List (Int × List Int)) : callN Tryd.prog mode15 T_idxHf fuel 122 [vR r] [] = cloneRF_s1 r (fun a1 a2 a3 => some (.sl 0 2 a1 a2, [some ⟨44, vR a3, true⟩])) := by kernel_rfl
noncomputable def cloneRF {R : Type} (fuel : Nat) (r : List (Int × List Int)) (r0 : Nat → Nat → (List (Int × List Int)) → Option R) : Option R :=
  (cloneRF_s1 r (fun a1 a2 a3 => r0 a1 a2 a3))
theorem cloneRF_eq (fuel : Nat) (r : List (Int × List Int)) : callN Tryd.prog mode15 T_idxHf fuel 122 [.lt (.pair (.int .i64) (.sl (.int .u64))) r] [] = cloneRF fuel r (fun z0 z1 z2 => some (.sl 0 2 z0 z1, [some ⟨44, .lt (.pair (.int .i64) (.sl (.int .u64))) z2, true⟩])) := by
  unfold cloneRF
  exact (cloneRF_s1_eq fuel  r)
theorem cloneR_fact (r : List (Int × List Int)) (hg : (decide (1 ≤ r.length) && decide (r.length ≤ 1000)) = true) : Fact Tryd.prog noG 122 [.lt (.pair (.int .i64) (.sl (.int .u64))) r] [] (.sl 0 2 0 r.length, [some ⟨44, .lt (.pair (.int .i64) (.sl (.int .u64))) r, true⟩]) := by
  simp only [Bool.and_eq_true, decide_eq_true_eq] at hg
  refine callN_fact hN hM T_idxHf_ok (n := 0) (mode := mode15) ?_
  rw [cloneRF_eq]
  unfold cloneRF cloneRF_s1
  rw [grd_of (by simp; omega), grd_of (okN_of (by omega) (by omega))]
noncomputable def cloneR_ent : List V → List Blk → Option (Bool × Out)
  | [w0], [] => (asSl (.pair (.int .i64) (.sl (.int .u64))) w0).bind fun r => some ((decide (1 ≤ r.length) && decide (r.length ≤ 1000)), (.sl 0 2 0 r.length, [some ⟨44, .lt (.pair (.int .i64) (.sl (.int .u64))) r, true⟩]))
  | _, _ => none
theorem cloneR_ok : ∀ args bs out, cloneR_ent args bs = some (true, out) → Fact Tryd.prog noG 122 args bs out := by
  intro args bs out h
  unfold cloneR_ent at h
  split at h
  · rename_i w0
    obtain ⟨r, h_r, h⟩ := Option.bind_eq_some_iff.1 h
    simp only [Option.some.injEq, Prod.mk.injEq] at h
    obtain ⟨hg, rfl⟩ := h
    exact (cloneR_fact r hg).args (fun _ _ _ => fun _ h => RVs_two (fun _ h => RV_sl (s := (.pair (.int .i64) (.sl (.int .u64)))) h_r h) (fun _ h => h) h)
  · cases h
noncomputable def T_cloneR : Tbl := Tbl.cons 122 cloneR_ent T_idxHf
theorem T_cloneR_ok : CallOk Tryd.prog noG T_cloneR := cons_ok T_idxHf_ok cloneR_ok
def mode16 : FuncId → Nat := fun f => bif Nat.beq f 155 then 2 else bif Nat.beq f 122 then 2 else bif Nat.beq f 159 then 2 else 0
/-! downpour/reduce.Echelon -/
noncomputable abbrev qc3 : List (Nat × V) := [(1, .ptr 0 2 0 0), (2, .ptr 1 2 0 0), (3, vN), (4, vI 0), (5, .ptr 2 3 0 0), (6, .ptr 4 1 0 0), (20, .fn (.func 123) [.ptr 2 3 0 0] [])]
noncomputable abbrev qc4 : List Nat := [0, 1, 4, 5, 6, 12, 13, 14, 15, 16, 17, 18, 19, 20, 21, 22, 23, 24, 25, 26, 27, 28, 29, 30, 31, 32, 33, 34, 35, 36, 37, 38, 39, 40, 41, 42, 43, 44, 45, 46, 47, 48, 49, 50, 51, 52, 53, 54, 55, 56, 57, 58, 59, 60, 61, 62, 63, 64, 65, 66, 67, 68, 69, 70, 71, 72, 73, 74, 75, 76, 77, 78, 79, 80, 81, 82, 83, 84, 85, 86]
noncomputable abbrev qc5 : Code := (sub (bodyOf Tryd.prog 74) [1, 1, 1, 1, 0, 1, 0, 0])
noncomputable abbrev qc6 : Code := (sub (bodyOf Tryd.prog 74) [1, 1, 1, 1, 0, 1, 0, 1])
noncomputable abbrev qc7 : Nat × Option Blk := (1, some ⟨24, .agg [vI 0, vN], true⟩)
noncomputable abbrev qc8 (fuel : Nat) : Ctx Out := (fnX Tryd.prog mode16 T_cloneR fuel 39 0)
noncomputable abbrev qc9 (n : Int) (m : List (Int × List Int)) : Nat × Option Blk := (0, some ⟨24, .agg [vI n, vR m], true⟩)
noncomputable abbrev qc10 : Code := (sub (bodyOf Tryd.prog 123) [1, 0, 0])
noncomputable abbrev qc11 : Nat := 170135991163610696904058773219554882035
noncomputable abbrev qc12 : Nat × Option Blk := (4, some ⟨26, .agg [vN], true⟩)
noncomputable abbrev qc13 : Code := (sub qc10 [1, 1, 0, 0, 1, 1, 1, 1, 1, 0, 1, 0, 0])
noncomputable abbrev qc14 : Nat × V := (0, .ptr 2 3 0 0)
noncomputable abbrev qc15 : Nat × V := (25, .fn (.func 159) [] [.ptr 6 1 0 0])
noncomputable abbrev qc16 : Nat × V := (25, .fn (.func 159) [] [.ptr 7 1 0 0])
noncomputable abbrev qc17 : Nat × V := (16, .ptr 2 3 0 0)
noncomputable abbrev qc18 : Nat × V := (17, .ptr 2 3 0 0)
noncomputable abbrev qc19 : Nat × V := (18, .ptr 2 3 0 1)
noncomputable abbrev qc20 : Nat × V := (20, .ptr 2 3 0 0)
noncomputable abbrev qc21 : Nat × V := (21, .ptr 2 3 0 0)
noncomputable abbrev qc22 : Nat × V := (22, .ptr 2 3 0 2)
noncomputable abbrev qc23 : Nat × V := (29, .ptr 2 3 0 0)
noncomputable abbrev qc24 : Nat × V := (30, .ptr 2 3 0 0)
noncomputable abbrev qc25 : Nat × V := (31, .ptr 2 3 0 1)
noncomputable abbrev qc26 : Nat × V := (33, .ptr 2 3 0 0)
noncomputable abbrev qc27 : Nat × V := (34, .ptr 2 3 0 0)
noncomputable abbrev qc28 : Nat × V := (35, .ptr 2 3 0 2)
noncomputable abbrev qc29 : Nat × V := (37, .ptr 2 3 0 0)
noncomputable abbrev qc30 : Nat × V := (38, .ptr 2 3 0 0)
noncomputable abbrev qc31 : Nat × V := (39, .ptr 2 3 0 1)
noncomputable abbrev qc32 : Nat × V := (41, .ptr 2 3 0 0)
noncomputable abbrev qc33 : Nat × V := (42, .ptr 2 3 0 0)
noncomputable abbrev qc34 : Nat × V := (43, .ptr 2 3 0 2)
noncomputable abbrev qc35 : Nat × V := (47, .ptr 2 3 0 0)
noncomputable abbrev qc36 : Nat × V := (48, .ptr 2 3 0 0)
noncomputable abbrev qc37 : Nat × V := (49, .ptr 2 3 0 1)
noncomputable abbrev qc38 : Nat × V := (51, .ptr 2 3 0 0)
noncomputable abbrev qc39 : Nat × V := (52, .ptr 2 3 0 0)
noncomputable abbrev qc40 : Nat × V := (53, .ptr 2 3 0 2)
noncomputable abbrev qc41 : Nat × V := (59, .ptr 2 3 0 0)
noncomputable abbrev qc42 : Nat × V := (60, .ptr 2 3 0 0)
noncomputable abbrev qc43 : Nat × V := (61, .ptr 2 3 0 1)
noncomputable abbrev qc44 : Nat × V := (63, .ptr 2 3 0 0)
noncomputable abbrev qc45 : Nat × V := (64, .ptr 2 3 0 0)
noncomputable abbrev qc46 : Nat × V := (65, .ptr 2 3 0 2)
noncomputable abbrev qc47 : Nat × V := (71, .ptr 2 3 0 0)
noncomputable abbrev qc48 : Nat × V := (72, .ptr 2 3 0 0)
noncomputable abbrev qc49 : Nat × V := (73, .ptr 2 3 0 1)
noncomputable abbrev qc50 : Nat × V := (75, .ptr 2 3 0 0)
noncomputable abbrev qc51 : Nat × V := (76, .ptr 2 3 0 0)
noncomputable abbrev qc52 : Nat × V := (77, .ptr 2 3 0 2)
noncomputable abbrev qc53 : Nat × V := (81, .ptr 2 3 0 0)
noncomputable abbrev qc54 : Nat × V := (82, .ptr 2 3 0 0)
noncomputable abbrev qc55 : Nat × V := (83, .ptr 2 3 0 1)
noncomputable abbrev qc56 (m : List (Int × List Int)) : Nat × Option Blk := (3, some ⟨44, vR m, true⟩)
noncomputable abbrev qc57 : List Nat := [1, 1, 0, 0, 1, 1, 1, 1, 1, 0, 1, 0]
noncomputable abbrev qc58 : List Nat := [0, 1, 12, 13]
noncomputable def EchF_s3 {R : Type} (w0 w1 : Int) (w2 : Nat) (w3 : List (Int × List Int)) (w4 : Int) (w5 : List Int) (w6 : Int) (w7 : Bool) (w8 w9 : Nat) (w10 : Bool) (w11 : Int) (w12 : Nat) (w13 : Int) (w14 : List Int) (w15 : Nat) (w16 : Int) (w17 : List Int) (w18 w19 w20 : Nat) (w21 n : Int) (m : List (Int × List Int)) (c0 c1 c2 : Int → Bool → Nat → Nat → Bool → Int → Nat → Int → List Int → Nat → Int → List Int → Nat → Nat → Nat → Int → List Int → Int → Int → (List (Int × List Int)) → Option R) (c3 : Int → Bool → Nat → Nat → Bool → Int → Nat → Int → List Int → Nat → Int → List Int → Nat → Nat → Nat → Int → List Int → Int → Int → Bool → (List (Int × List Int)) → Option R) : Option R :=
  br (decide (w0 < w1))
    (bnd (below w0 w2) fun j0 =>
    bnd (w3[(0 + j0)]?) fun e0 =>
    br (w0 != 0)
      (grd (okW e0.2) <|
      br (hasS e0.1 e0.2 w4)
        (grd (okW e0.2 && okW w5) <|
        bnd (below w0 w2) fun j1 =>
        bnd (w3[(0 + j1)]?) fun e1 =>
        c0 w6 w7 w8 w9 w10 w11 w12 w13 w14 w15 w16 w17 w18 w19 w20 w21 w5 w1 (IntKind.i64.wrap (w0 + 1)) (w3.set (0 + j1) ((xorN e0.1 e0.2 w21 w5), (xorW e0.1 e0.2 w21 w5))))
        (c1 w6 w7 w8 w9 w10 w11 w12 w13 w14 w15 w16 w17 w18 w19 w20 w21 w5 w1 (IntKind.i64.wrap (w0 + 1)) w3))
      (c2 w6 w7 w8 w9 w10 w11 w12 w13 w14 w15 w16 w17 w18 w19 w20 w21 w5 w1 (IntKind.i64.wrap (w0 + 1)) w3))
    (c3 w6 w7 w8 w9 w10 w11 w12 w13 w14 w15 w16 w17 w18 w19 w20 w21 w5 w1 w0 (decide (w0 < w1)) w3)
theorem EchF_s3_eq (fuel k : Nat) (K : Ex → St → Option Out) (w0 w1 : Int) (w2 : Nat) (w3 : List (Int × List Int)) (w4 : Int) (w5 : List Int) (w6 : Int) (w7 : Bool) (w8 w9 : Nat) (w10 : Bool) (w11 : Int) (w12 : Nat) (w13 : Int) (w14 : List Int) (w15 : Nat) (w16 : Int) (w17 : List Int) (w18 w19 w20 : Nat) (w21 n : Int) (m : List (Int × List Int)) : lpN qc13 (itX Tryd.prog mode16 T_cloneR fuel 3 127 6 5 (roundK (evC qc5) (evC qc6) (qc8 fuel) #[21] 62914752 qc3)) qc11 qc4 (k + 1) ⟨[qc14, (1, .yl 5), (4, .ptr 6 1 0 0), (5, vI w6), (6, .ptr 7 2 0 0), (12, vI n), (13, vI w4), (14, vB w7), (15, vI w4), qc17, qc18, qc19, (19, .sl 3 2 0 w2), qc20, qc21, qc22, (23, vI 0), (24, .sl 3 2 w8 w9), qc15, (26, vI w6), (27, vI w6), (28, vB w10), qc23, qc24, qc25, (32, .sl 3 2 0 w2), qc26, qc27, qc28, (36, vI 0), qc29, qc30, qc31, (40, .sl 3 2 0 w2), qc32, qc33, qc34, (44, vI 0), (45, vI w6), (46, vI w11), qc35, qc36, qc37, (50, .sl 3 2 0 w2), qc38, qc39, qc40, (54, vI 0), (55, vI w6), (56, vI w11), (57, .ptr 3 2 w12 0), (58, .agg [vI w13, vW w14]), qc41, qc42, qc43, (62, .sl 3 2 0 w2), qc44, qc45, qc46, (66, vI 0), (67, .ptr 3 2 w15 0), (68, .agg [vI w16, vW w17]), (69, .ptr 3 2 w18 0), (70, .ptr 3 2 w19 0), qc47, qc48, qc49, (74, .sl 3 2 0 w2), qc50, qc51, qc52, (78, vI 0), (79, .ptr 3 2 w20 0), (80, .agg [vI w21, vW w5]), qc53, qc54, qc55, (84, .sl 3 2 0 w2), (85, vI w1), (86, vI w0)], [(qc9 n m), qc7, (2, some ⟨169, .agg [vI n, .sl 3 2 0 w2, vI 0], true⟩), (3, some ⟨44, vR w3, true⟩), qc12, (5, none), (6, some ⟨3, .agg [vI w4], true⟩), (7, some ⟨44, .agg [vI w21, vW w5], true⟩)], 8, none⟩ K = EchF_s3 w0 w1 w2 w3 w4 w5 w6 w7 w8 w9 w10 w11 w12 w13 w14 w15 w16 w17 w18 w19 w20 w21 n m (fun a0 a1 a2 a3 a4 a5 a6 a7 a8 a9 a10 a11 a12 a13 a14 a15 a16 a17 a18 a19 => lpN qc13 (itX Tryd.prog mode16 T_cloneR fuel 3 127 6 5 (roundK (evC qc5) (evC qc6) (qc8 fuel) #[21] 62914752 qc3)) qc11 qc4 k ⟨[qc14, (1, .yl 5), (4, .ptr 6 1 0 0), (5, vI a0), (6, .ptr 7 2 0 0), (12, vI n), (13, vI w4), (14, vB a1), (15, vI w4), qc17, qc18, qc19, (19, .sl 3 2 0 w2), qc20, qc21, qc22, (23, vI 0), (24, .sl 3 2 a2 a3), qc15, (26, vI a0), (27, vI a0), (28, vB a4), qc23, qc24, qc25, (32, .sl 3 2 0 w2), qc26, qc27, qc28, (36, vI 0), qc29, qc30, qc31, (40, .sl 3 2 0 w2), qc32, qc33, qc34, (44, vI 0), (45, vI a0), (46, vI a5), qc35, qc36, qc37, (50, .sl 3 2 0 w2), qc38, qc39, qc40, (54, vI 0), (55, vI a0), (56, vI a5), (57, .ptr 3 2 a6 0), (58, .agg [vI a7, vW a8]), qc41, qc42, qc43, (62, .sl 3 2 0 w2), qc44, qc45, qc46, (66, vI 0), (67, .ptr 3 2 a9 0), (68, .agg [vI a10, vW a11]), (69, .ptr 3 2 a12 0), (70, .ptr 3 2 a13 0), qc47, qc48, qc49, (74, .sl 3 2 0 w2), qc50, qc51, qc52, (78, vI 0), (79, .ptr 3 2 a14 0), (80, .agg [vI a15, vW a16]), qc53, qc54, qc55, (84, .sl 3 2 0 w2), (85, vI a17), (86, vI a18)], [(qc9 n m), qc7, (2, some ⟨169, .agg [vI n, .sl 3 2 0 w2, vI 0], true⟩), (3, some ⟨44, vR a19, true⟩), qc12, (5, none), (6, some ⟨3, .agg [vI w4], true⟩), (7, some ⟨44, .agg [vI a15, vW a16], true⟩)], 8, none⟩ K) (fun a20 a21 a22 a23 a24 a25 a26 a27 a28 a29 a30 a31 a32 a33 a34 a35 a36 a37 a38 a39 => lpN qc13 (itX Tryd.prog mode16 T_cloneR fuel 3 127 6 5 (roundK (evC qc5) (evC qc6) (qc8 fuel) #[21] 62914752 qc3)) qc11 qc4 k ⟨[qc14, (1, .yl 5), (4, .ptr 6 1 0 0), (5, vI a20), (6, .ptr 7 2 0 0), (12, vI n), (13, vI w4), (14, vB a21), (15, vI w4), qc17, qc18, qc19, (19, .sl 3 2 0 w2), qc20, qc21, qc22, (23, vI 0), (24, .sl 3 2 a22 a23), qc15, (26, vI a20), (27, vI a20), (28, vB a24), qc23, qc24, qc25, (32, .sl 3 2 0 w2), qc26, qc27, qc28, (36, vI 0), qc29, qc30, qc31, (40, .sl 3 2 0 w2), qc32, qc33, qc34, (44, vI 0), (45, vI a20), (46, vI a25), qc35, qc36, qc37, (50, .sl 3 2 0 w2), qc38, qc39, qc40, (54, vI 0), (55, vI a20), (56, vI a25), (57, .ptr 3 2 a26 0), (58, .agg [vI a27, vW a28]), qc41, qc42, qc43, (62, .sl 3 2 0 w2), qc44, qc45, qc46, (66, vI 0), (67, .ptr 3 2 a29 0), (68, .agg [vI a30, vW a31]), (69, .ptr 3 2 a32 0), (70, .ptr 3 2 a33 0), qc47, qc48, qc49, (74, .sl 3 2 0 w2), qc50, qc51, qc52, (78, vI 0), (79, .ptr 3 2 a34 0), (80, .agg [vI a35, vW a36]), qc53, qc54, qc55, (84, .sl 3 2 0 w2), (85, vI a37), (86, vI a38)], [(qc9 n m), qc7, (2, some ⟨169, .agg [vI n, .sl 3 2 0 w2, vI 0], true⟩), (3, some ⟨44, vR a39, true⟩), qc12, (5, none), (6, some ⟨3, .agg [vI w4], true⟩), (7, some ⟨44, .agg [vI a35, vW a36], true⟩)], 8, none⟩ K) (fun a40 a41 a42 a43 a44 a45 a46 a47 a48 a49 a50 a51 a52 a53 a54 a55 a56 a57 a58 a59 => lpN qc13 (itX Tryd.prog mode16 T_cloneR fuel 3 127 6 5 (roundK (evC qc5) (evC qc6) (qc8 fuel) #[21] 62914752 qc3)) qc11 qc4 k ⟨[qc14, (1, .yl 5), (4, .ptr 6 1 0 0), (5, vI a40), (6, .ptr 7 2 0 0), (12, vI n), (13, vI w4), (14, vB a41), (15, vI w4), qc17, qc18, qc19, (19, .sl 3 2 0 w2), qc20, qc21, qc22, (23, vI 0), (24, .sl 3 2 a42 a43), qc15, (26, vI a40), (27, vI a40), (28, vB a44), qc23, qc24, qc25, (32, .sl 3 2 0 w2), qc26, qc27, qc28, (36, vI 0), qc29, qc30, qc31, (40, .sl 3 2 0 w2), qc32, qc33, qc34, (44, vI 0), (45, vI a40), (46, vI a45), qc35, qc36, qc37, (50, .sl 3 2 0 w2), qc38, qc39, qc40, (54, vI 0), (55, vI a40), (56, vI a45), (57, .ptr 3 2 a46 0), (58, .agg [vI a47, vW a48]), qc41, qc42, qc43, (62, .sl 3 2 0 w2), qc44, qc45, qc46, (66, vI 0), (67, .ptr 3 2 a49 0), (68, .agg [vI a50, vW a51]), (69, .ptr 3 2 a52 0), (70, .ptr 3 2 a53 0), qc47, qc48, qc49, (74, .sl 3 2 0 w2), qc50, qc51, qc52, (78, vI 0), (79, .ptr 3 2 a54 0), (80, .agg [vI a55, vW a56]), qc53, qc54, qc55, (84, .sl 3 2 0 w2), (85, vI a57), (86, vI a58)], [(qc9 n m), qc7, (2, some ⟨169, .agg [vI n, .sl 3 2 0 w2, vI 0], true⟩), (3, some ⟨44, vR a59, true⟩), qc12, (5, none), (6, some ⟨3, .agg [vI w4], true⟩), (7, some ⟨44, .agg [vI a55, vW a56], true⟩)], 8, none⟩ K) (fun a60 a61 a62 a63 a64 a65 a66 a67 a68 a69 a70 a71 a72 a73 a74 a75 a76 a77 a78 a79 a80 => K (.exit 2) ⟨[qc14, (1, .yl 5), (4, .ptr 6 1 0 0), (5, vI a60), (6, .ptr 7 2 0 0), (12, vI n), (13, vI w4), (14, vB a61), (15, vI w4), qc17, qc18, qc19, (19, .sl 3 2 0 w2), qc20, qc21, qc22, (23, vI 0), (24, .sl 3 2 a62 a63), qc15, (26, vI a60), (27, vI a60), (28, vB a64), qc23, qc24, qc25, (32, .sl 3 2 0 w2), qc26, qc27, qc28, (36, vI 0), qc29, qc30, qc31, (40, .sl 3 2 0 w2), qc32, qc33, qc34, (44, vI 0), (45, vI a60), (46, vI a65), qc35, qc36, qc37, (50, .sl 3 2 0 w2), qc38, qc39, qc40, (54, vI 0), (55, vI a60), (56, vI a65), (57, .ptr 3 2 a66 0), (58, .agg [vI a67, vW a68]), qc41, qc42, qc43, (62, .sl 3 2 0 w2), qc44, qc45, qc46, (66, vI 0), (67, .ptr 3 2 a69 0), (68, .agg [vI a70, vW a71]), (69, .ptr 3 2 a72 0), (70, .ptr 3 2 a73 0), qc47, qc48, qc49, (74, .sl 3 2 0 w2), qc50, qc51, qc52, (78, vI 0), (79, .ptr 3 2 a74 0), (80, .agg [vI a75, vW a76]), qc53, qc54, qc55, (84, .sl 3 2 0 w2), (85, vI a77), (86, vI a78), (87, vB a79)], [(qc9 n m), qc7, (2, some ⟨169, .agg [vI n, .sl 3 2 0 w2, vI 0], true⟩), (3, some ⟨44, vR a80, true⟩), qc12, (5, none), (6, some ⟨3, .agg [vI w4], true⟩), (7, some ⟨44, .agg [vI a75, vW a76], true⟩)], 8, none⟩) := by kernel_rfl
noncomputable def EchF_l2 {R : Type} (fuel : Nat) (n w0 : Int) (w1 : Nat) (m : List (Int × List Int)) (k0 : Int → Bool → Nat → Nat → Bool → Int → Nat → Int → List Int → Nat → Int → List Int → Nat → Nat → Nat → Int → List Int → Int → Int → Bool → (List (Int × List Int)) → Option R) : Nat → Int → Bool → Nat → Nat → Bool → Int → Nat → Int → List Int → Nat → Int → List Int → Nat → Nat → Nat → Int → List Int → Int → Int → (List (Int × List Int)) → Option R
  | 0, _, _, _, _, _, _, _, _, _, _, _, _, _, _, _, _, _, _, _, _ => none
  | k + 1, w2, w3, w4, w5, w6, w7, w8, w9, w10, w11, w12, w13, w14, w15, w16, w17, w18, w19, w20, w21 =>
    (EchF_s3 w20 w19 w1 w21 w0 w18 w2 w3 w4 w5 w6 w7 w8 w9 w10 w11 w12 w13 w14 w15 w16 w17 n m (fun a0 a1 a2 a3 a4 a5 a6 a7 a8 a9 a10 a11 a12 a13 a14 a15 a16 a17 a18 a19 => ( EchF_l2 fuel n w0 w1 m k0 k a0 a1 a2 a3 a4 a5 a6 a7 a8 a9 a10 a11 a12 a13 a14 a15 a16 a17 a18 a19 )) (fun a20 a21 a22 a23 a24 a25 a26 a27 a28 a29 a30 a31 a32 a33 a34 a35 a36 a37 a38 a39 => ( EchF_l2 fuel n w0 w1 m k0 k a20 a21 a22 a23 a24 a25 a26 a27 a28 a29 a30 a31 a32 a33 a34 a35 a36 a37 a38 a39 )) (fun a40 a41 a42 a43 a44 a45 a46 a47 a48 a49 a50 a51 a52 a53 a54 a55 a56 a57 a58 a59 => ( EchF_l2 fuel n w0 w1 m k0 k a40 a41 a42 a43 a44 a45 a46 a47 a48 a49 a50 a51 a52 a53 a54 a55 a56 a57 a58 a59 )) (fun a60 a61 a62 a63 a64 a65 a66 a67 a68 a69 a70 a71 a72 a73 a74 a75 a76 a77 a78 a79 a80 => k0 a60 a61 a62 a63 a64 a65 a66 a67 a68 a69 a70 a71 a72 a73 a74 a75 a76 a77 a78 a79 a80))
theorem EchF_l2_eq (fuel : Nat) (n w0 : Int) (w1 : Nat) (m : List (Int × List Int)) (K : Ex → St → Option Out) : ∀ (k : Nat) (w2 : Int) (w3 : Bool) (w4 w5 : Nat) (w6 : Bool) (w7 : Int) (w8 : Nat) (w9 : Int) (w10 : List Int) (w11 : Nat) (w12 : Int) (w13 : List Int) (w14 w15 w16 : Nat) (w17 : Int) (w18 : List Int) (w19 w20 : Int) (w21 : List (Int × List Int)), lpN qc13 (itX Tryd.prog mode16 T_cloneR fuel 3 127 6 5 (roundK (evC qc5) (evC qc6) (qc8 fuel) #[21] 62914752 qc3)) qc11 qc4 k ⟨[qc14, (1, .yl 5), (4, .ptr 6 1 0 0), (5, vI w2), (6, .ptr 7 2 0 0), (12, vI n), (13, vI w0), (14, vB w3), (15, vI w0), qc17, qc18, qc19, (19, .sl 3 2 0 w1), qc20, qc21, qc22, (23, vI 0), (24, .sl 3 2 w4 w5), qc15, (26, vI w2), (27, vI w2), (28, vB w6), qc23, qc24, qc25, (32, .sl 3 2 0 w1), qc26, qc27, qc28, (36, vI 0), qc29, qc30, qc31, (40, .sl 3 2 0 w1), qc32, qc33, qc34, (44, vI 0), (45, vI w2), (46, vI w7), qc35, qc36, qc37, (50, .sl 3 2 0 w1), qc38, qc39, qc40, (54, vI 0), (55, vI w2), (56, vI w7), (57, .ptr 3 2 w8 0), (58, .agg [vI w9, vW w10]), qc41, qc42, qc43, (62, .sl 3 2 0 w1), qc44, qc45, qc46, (66, vI 0), (67, .ptr 3 2 w11 0), (68, .agg [vI w12, vW w13]), (69, .ptr 3 2 w14 0), (70, .ptr 3 2 w15 0), qc47, qc48, qc49, (74, .sl 3 2 0 w1), qc50, qc51, qc52, (78, vI 0), (79, .ptr 3 2 w16 0), (80, .agg [vI w17, vW w18]), qc53, qc54, qc55, (84, .sl 3 2 0 w1), (85, vI w19), (86, vI w20)], [(qc9 n m), qc7, (2, some ⟨169, .agg [vI n, .sl 3 2 0 w1, vI 0], true⟩), (3, some ⟨44, vR w21, true⟩), qc12, (5, none), (6, some ⟨3, .agg [vI w0], true⟩), (7, some ⟨44, .agg [vI w17, vW w18], true⟩)], 8, none⟩ K = EchF_l2 fuel n w0 w1 m (fun y0 y1 y2 y3 y4 y5 y6 y7 y8 y9 y10 y11 y12 y13 y14 y15 y16 y17 y18 y19 y20 => K (.exit 2) ⟨[qc14, (1, .yl 5), (4, .ptr 6 1 0 0), (5, vI y0), (6, .ptr 7 2 0 0), (12, vI n), (13, vI w0), (14, vB y1), (15, vI w0), qc17, qc18, qc19, (19, .sl 3 2 0 w1), qc20, qc21, qc22, (23, vI 0), (24, .sl 3 2 y2 y3), qc15, (26, vI y0), (27, vI y0), (28, vB y4), qc23, qc24, qc25, (32, .sl 3 2 0 w1), qc26, qc27, qc28, (36, vI 0), qc29, qc30, qc31, (40, .sl 3 2 0 w1), qc32, qc33, qc34, (44, vI 0), (45, vI y0), (46, vI y5), qc35, qc36, qc37, (50, .sl 3 2 0 w1), qc38, qc39, qc40, (54, vI 0), (55, vI y0), (56, vI y5), (57, .ptr 3 2 y6 0), (58, .agg [vI y7, vW y8]), qc41, qc42, qc43, (62, .sl 3 2 0 w1), qc44, qc45, qc46, (66, vI 0), (67, .ptr 3 2 y9 0), (68, .agg [vI y10, vW y11]), (69, .ptr 3 2 y12 0), (70, .ptr 3 2 y13 0), qc47, qc48, qc49, (74, .sl 3 2 0 w1), qc50, qc51, qc52, (78, vI 0), (79, .ptr 3 2 y14 0), (80, .agg [vI y15, vW y16]), qc53, qc54, qc55, (84, .sl 3 2 0 w1), (85, vI y17), (86, vI y18), (87, vB y19)], [(qc9 n m), qc7, (2, some ⟨169, .agg [vI n, .sl 3 2 0 w1, vI 0], true⟩), (3, some ⟨44, vR y20, true⟩), qc12, (5, none), (6, some ⟨3, .agg [vI w0], true⟩), (7, some ⟨44, .agg [vI y15, vW y16], true⟩)], 8, none⟩) k w2 w3 w4 w5 w6 w7 w8 w9 w10 w11 w12 w13 w14 w15 w16 w17 w18 w19 w20 w21
  | 0, _, _, _, _, _, _, _, _, _, _, _, _, _, _, _, _, _, _, _, _ => rfl
  | k + 1, w2, w3, w4, w5, w6, w7, w8, w9, w10, w11, w12, w13, w14, w15, w16, w17, w18, w19, w20, w21 => by
    unfold EchF_l2
    exact (EchF_s3_eq fuel k K w20 w19 w1 w21 w0 w18 w2 w3 w4 w5 w6 w7 w8 w9 w10 w11 w12 w13 w14 w15 w16 w17 n m).trans (congr (congr (congr (congr (Eq.refl (EchF_s3 (R := Out) w20 w19 w1 w21 w0 w18 w2 w3 w4 w5 w6 w7 w8 w9 w10 w11 w12 w13 w14 w15 w16 w17 n m)) (funext fun a0 => funext fun a1 => funext fun a2 => funext fun a3 => funext fun a4 => funext fun a5 => funext fun a6 => funext fun a7 => funext fun a8 => funext fun a9 => funext fun a10 => funext fun a11 => funext fun a12 => funext fun a13 => funext fun a14 => funext fun a15 => funext fun a16 => funext fun a17 => funext fun a18 => funext fun a19 => EchF_l2_eq fuel n w0 w1 m K k a0 a1 a2 a3 a4 a5 a6 a7 a8 a9 a10 a11 a12 a13 a14 a15 a16 a17 a18 a19)) (funext fun a20 => funext fun a21 => funext fun a22 => funext fun a23 => funext fun a24 => funext fun a25 => funext fun a26 => funext fun a27 => funext fun a28 => funext fun a29 => funext fun a30 => funext fun a31 => funext fun a32 => funext fun a33 => funext fun a34 => funext fun a35 => funext fun a36 => funext fun a37 => funext fun a38 => funext fun a39 => EchF_l2_eq fuel n w0 w1 m K k a20 a21 a22 a23 a24 a25 a26 a27 a28 a29 a30 a31 a32 a33 a34 a35 a36 a37 a38 a39)) (funext fun a40 => funext fun a41 => funext fun a42 => funext fun a43 => funext fun a44 => funext fun a45 => funext fun a46 => funext fun a47 => funext fun a48 => funext fun a49 => funext fun a50 => funext fun a51 => funext fun a52 => funext fun a53 => funext fun a54 => funext fun a55 => funext fun a56 => funext fun a57 => funext fun a58 => funext fun a59 => EchF_l2_eq fuel n w0 w1 m K k a40 a41 a42 a43 a44 a45 a46 a47 a48 a49 a50 a51 a52 a53 a54 a55 a56 a57 a58 a59)) (rfl))
noncomputable def EchF_s6 {R : Type} (w0 w1 : Int) (w2 : Nat) (w3 : List (Int × List Int)) (w4 w5 : Int) (w6 : List Int) (w7 : Int) (w8 : Bool) (w9 w10 : Nat) (w11 : Bool) (w12 : Int) (w13 : Nat) (w14 : Int) (w15 : List Int) (w16 : Nat) (w17 : Int) (w18 : List Int) (w19 w20 w21 : Nat) (w22 n : Int) (m : List (Int × List Int)) (w23 : Nat) (w24 : List Int) (c0 c1 c2 : Int → Bool → Nat → Nat → Bool → Int → Nat → Int → List Int → Nat → Int → List Int → Nat → Nat → Nat → Int → List Int → Int → Int → (List (Int × List Int)) → Option R) (c3 : Int → Bool → Nat → Nat → Bool → Int → Nat → Int → List Int → Nat → Int → List Int → Nat → Nat → Nat → Int → List Int → Int → Int → Bool → (List (Int × List Int)) → Option R) : Option R :=
  br (decide (w0 < w1))
    (bnd (below w0 w2) fun j0 =>
    bnd (w3[(0 + j0)]?) fun e0 =>
    br (w0 != w4)
      (grd (okW e0.2) <|
      br (hasS e0.1 e0.2 w5)
        (grd (okW e0.2 && okW w6) <|
        bnd (below w0 w2) fun j1 =>
        bnd (w3[(0 + j1)]?) fun e1 =>
        c0 w7 w8 w9 w10 w11 w12 w13 w14 w15 w16 w17 w18 w19 w20 w21 w22 w6 w1 (IntKind.i64.wrap (w0 + 1)) (w3.set (0 + j1) ((xorN e0.1 e0.2 w22 w6), (xorW e0.1 e0.2 w22 w6))))
        (c1 w7 w8 w9 w10 w11 w12 w13 w14 w15 w16 w17 w18 w19 w20 w21 w22 w6 w1 (IntKind.i64.wrap (w0 + 1)) w3))
      (c2 w7 w8 w9 w10 w11 w12 w13 w14 w15 w16 w17 w18 w19 w20 w21 w22 w6 w1 (IntKind.i64.wrap (w0 + 1)) w3))
    (c3 w7 w8 w9 w10 w11 w12 w13 w14 w15 w16 w17 w18 w19 w20 w21 w22 w6 w1 w0 (decide (w0 < w1)) w3)
theorem EchF_s6_eq (fuel k : Nat) (K : Ex → St → Option Out) (w0 w1 : Int) (w2 : Nat) (w3 : List (Int × List Int)) (w4 w5 : Int) (w6 : List Int) (w7 : Int) (w8 : Bool) (w9 w10 : Nat) (w11 : Bool) (w12 : Int) (w13 : Nat) (w14 : Int) (w15 : List Int) (w16 : Nat) (w17 : Int) (w18 : List Int) (w19 w20 w21 : Nat) (w22 n : Int) (m : List (Int × List Int)) (w23 : Nat) (w24 : List Int) : lpN qc13 (itX Tryd.prog mode16 T_cloneR fuel 3 127 6 5 (roundK (evC qc5) (evC qc6) (qc8 fuel) #[21] 62914752 qc3)) qc11 qc4 (k + 1) ⟨[qc14, (1, .yl 5), (4, .ptr 7 1 0 0), (5, vI w7), (6, .ptr 8 2 0 0), (12, vI n), (13, vI w5), (14, vB w8), (15, vI w5), qc17, qc18, qc19, (19, .sl 3 2 0 w2), qc20, qc21, qc22, (23, vI w4), (24, .sl 3 2 w9 w10), qc16, (26, vI w7), (27, vI w7), (28, vB w11), qc23, qc24, qc25, (32, .sl 3 2 0 w2), qc26, qc27, qc28, (36, vI w4), qc29, qc30, qc31, (40, .sl 3 2 0 w2), qc32, qc33, qc34, (44, vI w4), (45, vI w7), (46, vI w12), qc35, qc36, qc37, (50, .sl 3 2 0 w2), qc38, qc39, qc40, (54, vI w4), (55, vI w7), (56, vI w12), (57, .ptr 3 2 w13 0), (58, .agg [vI w14, vW w15]), qc41, qc42, qc43, (62, .sl 3 2 0 w2), qc44, qc45, qc46, (66, vI w4), (67, .ptr 3 2 w16 0), (68, .agg [vI w17, vW w18]), (69, .ptr 3 2 w19 0), (70, .ptr 3 2 w20 0), qc47, qc48, qc49, (74, .sl 3 2 0 w2), qc50, qc51, qc52, (78, vI w4), (79, .ptr 3 2 w21 0), (80, .agg [vI w22, vW w6]), qc53, qc54, qc55, (84, .sl 3 2 0 w2), (85, vI w1), (86, vI w0)], [(qc9 n m), qc7, (2, some ⟨169, .agg [vI n, .sl 3 2 0 w2, vI w4], true⟩), (3, some ⟨44, vR w3, true⟩), (4, some ⟨26, .agg [.sl 6 1 0 w23], true⟩), (5, none), (6, bL 3 w24), (7, some ⟨3, .agg [vI w5], true⟩), (8, some ⟨44, .agg [vI w22, vW w6], true⟩)], 9, none⟩ K = EchF_s6 w0 w1 w2 w3 w4 w5 w6 w7 w8 w9 w10 w11 w12 w13 w14 w15 w16 w17 w18 w19 w20 w21 w22 n m w23 w24 (fun a0 a1 a2 a3 a4 a5 a6 a7 a8 a9 a10 a11 a12 a13 a14 a15 a16 a17 a18 a19 => lpN qc13 (itX Tryd.prog mode16 T_cloneR fuel 3 127 6 5 (roundK (evC qc5) (evC qc6) (qc8 fuel) #[21] 62914752 qc3)) qc11 qc4 k ⟨[qc14, (1, .yl 5), (4, .ptr 7 1 0 0), (5, vI a0), (6, .ptr 8 2 0 0), (12, vI n), (13, vI w5), (14, vB a1), (15, vI w5), qc17, qc18, qc19, (19, .sl 3 2 0 w2), qc20, qc21, qc22, (23, vI w4), (24, .sl 3 2 a2 a3), qc16, (26, vI a0), (27, vI a0), (28, vB a4), qc23, qc24, qc25, (32, .sl 3 2 0 w2), qc26, qc27, qc28, (36, vI w4), qc29, qc30, qc31, (40, .sl 3 2 0 w2), qc32, qc33, qc34, (44, vI w4), (45, vI a0), (46, vI a5), qc35, qc36, qc37, (50, .sl 3 2 0 w2), qc38, qc39, qc40, (54, vI w4), (55, vI a0), (56, vI a5), (57, .ptr 3 2 a6 0), (58, .agg [vI a7, vW a8]), qc41, qc42, qc43, (62, .sl 3 2 0 w2), qc44, qc45, qc46, (66, vI w4), (67, .ptr 3 2 a9 0), (68, .agg [vI a10, vW a11]), (69, .ptr 3 2 a12 0), (70, .ptr 3 2 a13 0), qc47, qc48, qc49, (74, .sl 3 2 0 w2), qc50, qc51, qc52, (78, vI w4), (79, .ptr 3 2 a14 0), (80, .agg [vI a15, vW a16]), qc53, qc54, qc55, (84, .sl 3 2 0 w2), (85, vI a17), (86, vI a18)], [(qc9 n m), qc7, (2, some ⟨169, .agg [vI n, .sl 3 2 0 w2, vI w4], true⟩), (3, some ⟨44, vR a19, true⟩), (4, some ⟨26, .agg [.sl 6 1 0 w23], true⟩), (5, none), (6, bL 3 w24), (7, some ⟨3, .agg [vI w5], true⟩), (8, some ⟨44, .agg [vI a15, vW a16], true⟩)], 9, none⟩ K) (fun a20 a21 a22 a23 a24 a25 a26 a27 a28 a29 a30 a31 a32 a33 a34 a35 a36 a37 a38 a39 => lpN qc13 (itX Tryd.prog mode16 T_cloneR fuel 3 127 6 5 (roundK (evC qc5) (evC qc6) (qc8 fuel) #[21] 62914752 qc3)) qc11 qc4 k ⟨[qc14, (1, .yl 5), (4, .ptr 7 1 0 0), (5, vI a20), (6, .ptr 8 2 0 0), (12, vI n), (13, vI w5), (14, vB a21), (15, vI w5), qc17, qc18, qc19, (19, .sl 3 2 0 w2), qc20, qc21, qc22, (23, vI w4), (24, .sl 3 2 a22 a23), qc16, (26, vI a20), (27, vI a20), (28, vB a24), qc23, qc24, qc25, (32, .sl 3 2 0 w2), qc26, qc27, qc28, (36, vI w4), qc29, qc30, qc31, (40, .sl 3 2 0 w2), qc32, qc33, qc34, (44, vI w4), (45, vI a20), (46, vI a25), qc35, qc36, qc37, (50, .sl 3 2 0 w2), qc38, qc39, qc40, (54, vI w4), (55, vI a20), (56, vI a25), (57, .ptr 3 2 a26 0), (58, .agg [vI a27, vW a28]), qc41, qc42, qc43, (62, .sl 3 2 0 w2), qc44, qc45, qc46, (66, vI w4), (67, .ptr 3 2 a29 0), (68, .agg [vI a30, vW a31]), (69, .ptr 3 2 a32 0), (70, .ptr 3 2 a33 0), qc47, qc48, qc49, (74, .sl 3 2 0 w2), qc50, qc51, qc52, (78, vI w4), (79, .ptr 3 2 a34 0), (80, .agg [vI a35, vW a36]), qc53, qc54, qc55, (84, .sl 3 2 0 w2), (85, vI a37), (86, vI a38)], [(qc9 n m), qc7, (2, some ⟨169, .agg [vI n, .sl 3 2 0 w2, vI w4], true⟩), (3, some ⟨44, vR a39, true⟩), (4, some ⟨26, .agg [.sl 6 1 0 w23], true⟩), (5, none), (6, bL 3 w24), (7, some ⟨3, .agg [vI w5], true⟩), (8, some ⟨44, .agg [vI a35, vW a36], true⟩)], 9, none⟩ K) (fun a40 a41 a42 a43 a44 a45 a46 a47 a48 a49 a50 a51 a52 a53 a54 a55 a56 a57 a58 a59 => lpN qc13 (itX Tryd.prog mode16 T_cloneR fuel 3 127 6 5 (roundK (evC qc5) (evC qc6) (qc8 fuel) #[21] 62914752 qc3)) qc11 qc4 k ⟨[qc14, (1, .yl 5), (4, .ptr 7 1 0 0), (5, vI a40), (6, .ptr 8 2 0 0), (12, vI n), (13, vI w5), (14, vB a41), (15, vI w5), qc17, qc18, qc19, (19, .sl 3 2 0 w2), qc20, qc21, qc22, (23, vI w4), (24, .sl 3 2 a42 a43), qc16, (26, vI a40), (27, vI a40), (28, vB a44), qc23, qc24, qc25, (32, .sl 3 2 0 w2), qc26, qc27, qc28, (36, vI w4), qc29, qc30, qc31, (40, .sl 3 2 0 w2), qc32, qc33, qc34, (44, vI w4), (45, vI a40), (46, vI a45), qc35, qc36, qc37, (50, .sl 3 2 0 w2), qc38, qc39, qc40, (54, vI w4), (55, vI a40), (56, vI a45), (57, .ptr 3 2 a46 0), (58, .agg [vI a47, vW a48]), qc41, qc42, qc43, (62, .sl 3 2 0 w2), qc44, qc45, qc46, (66, vI w4), (67, .ptr 3 2 a49 0), (68, .agg [vI a50, vW a51]), (69, .ptr 3 2 a52 0), (70, .ptr 3 2 a53 0), qc47, qc48, qc49, (74, .sl 3 2 0 w2), qc50, qc51, qc52, (78, vI w4), (79, .ptr 3 2 a54 0), (80, .agg [vI a55, vW a56]), qc53, qc54, qc55, (84, .sl 3 2 0 w2), (85, vI a57), (86, vI a58)], [(qc9 n m), qc7, (2, some ⟨169, .agg [vI n, .sl 3 2 0 w2, vI w4], true⟩), (3, some ⟨44, vR a59, true⟩), (4, some ⟨26, .agg [.sl 6 1 0 w23], true⟩), (5, none), (6, bL 3 w24), (7, some ⟨3, .agg [vI w5], true⟩), (8, some ⟨44, .agg [vI a55, vW a56], true⟩)], 9, none⟩ K) (fun a60 a61 a62 a63 a64 a65 a66 a67 a68 a69 a70 a71 a72 a73 a74 a75 a76 a77 a78 a79 a80 => K (.exit 2) ⟨[qc14, (1, .yl 5), (4, .ptr 7 1 0 0), (5, vI a60), (6, .ptr 8 2 0 0), (12, vI n), (13, vI w5), (14, vB a61), (15, vI w5), qc17, qc18, qc19, (19, .sl 3 2 0 w2), qc20, qc21, qc22, (23, vI w4), (24, .sl 3 2 a62 a63), qc16, (26, vI a60), (27, vI a60), (28, vB a64), qc23, qc24, qc25, (32, .sl 3 2 0 w2), qc26, qc27, qc28, (36, vI w4), qc29, qc30, qc31, (40, .sl 3 2 0 w2), qc32, qc33, qc34, (44, vI w4), (45, vI a60), (46, vI a65), qc35, qc36, qc37, (50, .sl 3 2 0 w2), qc38, qc39, qc40, (54, vI w4), (55, vI a60), (56, vI a65), (57, .ptr 3 2 a66 0), (58, .agg [vI a67, vW a68]), qc41, qc42, qc43, (62, .sl 3 2 0 w2), qc44, qc45, qc46, (66, vI w4), (67, .ptr 3 2 a69 0), (68, .agg [vI a70, vW a71]), (69, .ptr 3 2 a72 0), (70, .ptr 3 2 a73 0), qc47, qc48, qc49, (74, .sl 3 2 0 w2), qc50, qc51, qc52, (78, vI w4), (79, .ptr 3 2 a74 0), (80, .agg [vI a75, vW a76]), qc53, qc54, qc55, (84, .sl 3 2 0 w2), (85, vI a77), (86, vI a78), (87, vB a79)], [(qc9 n m), qc7, (2, some ⟨169, .agg [vI n, .sl 3 2 0 w2, vI w4], true⟩), (3, some ⟨44, vR a80, true⟩), (4, some ⟨26, .agg [.sl 6 1 0 w23], true⟩), (5, none), (6, bL 3 w24), (7, some ⟨3, .agg [vI w5], true⟩), (8, some ⟨44, .agg [vI a75, vW a76], true⟩)], 9, none⟩) := by kernel_rfl
noncomputable def EchF_l4 {R : Type} (fuel : Nat) (n w0 : Int) (w1 : Nat) (w2 : Int) (m : List (Int × List Int)) (w3 : Nat) (w4 : List Int) (k0 : Int → Bool → Nat → Nat → Bool → Int → Nat → Int → List Int → Nat → Int → List Int → Nat → Nat → Nat → Int → List Int → Int → Int → Bool → (List (Int × List Int)) → Option R) : Nat → Int → Bool → Nat → Nat → Bool → Int → Nat → Int → List Int → Nat → Int → List Int → Nat → Nat → Nat → Int → List Int → Int → Int → (List (Int × List Int)) → Option R
  | 0, _, _, _, _, _, _, _, _, _, _, _, _, _, _, _, _, _, _, _, _ => none
  | k + 1, w5, w6, w7, w8, w9, w10, w11, w12, w13, w14, w15, w16, w17, w18, w19, w20, w21, w22, w23, w24 =>
    (EchF_s6 w23 w22 w1 w24 w2 w0 w21 w5 w6 w7 w8 w9 w10 w11 w12 w13 w14 w15 w16 w17 w18 w19 w20 n m w3 w4 (fun a0 a1 a2 a3 a4 a5 a6 a7 a8 a9 a10 a11 a12 a13 a14 a15 a16 a17 a18 a19 => ( EchF_l4 fuel n w0 w1 w2 m w3 w4 k0 k a0 a1 a2 a3 a4 a5 a6 a7 a8 a9 a10 a11 a12 a13 a14 a15 a16 a17 a18 a19 )) (fun a20 a21 a22 a23 a24 a25 a26 a27 a28 a29 a30 a31 a32 a33 a34 a35 a36 a37 a38 a39 => ( EchF_l4 fuel n w0 w1 w2 m w3 w4 k0 k a20 a21 a22 a23 a24 a25 a26 a27 a28 a29 a30 a31 a32 a33 a34 a35 a36 a37 a38 a39 )) (fun a40 a41 a42 a43 a44 a45 a46 a47 a48 a49 a50 a51 a52 a53 a54 a55 a56 a57 a58 a59 => ( EchF_l4 fuel n w0 w1 w2 m w3 w4 k0 k a40 a41 a42 a43 a44 a45 a46 a47 a48 a49 a50 a51 a52 a53 a54 a55 a56 a57 a58 a59 )) (fun a60 a61 a62 a63 a64 a65 a66 a67 a68 a69 a70 a71 a72 a73 a74 a75 a76 a77 a78 a79 a80 => k0 a60 a61 a62 a63 a64 a65 a66 a67 a68 a69 a70 a71 a72 a73 a74 a75 a76 a77 a78 a79 a80))
theorem EchF_l4_eq (fuel : Nat) (n w0 : Int) (w1 : Nat) (w2 : Int) (m : List (Int × List Int)) (w3 : Nat) (w4 : List Int) (K : Ex → St → Option Out) : ∀ (k : Nat) (w5 : Int) (w6 : Bool) (w7 w8 : Nat) (w9 : Bool) (w10 : Int) (w11 : Nat) (w12 : Int) (w13 : List Int) (w14 : Nat) (w15 : Int) (w16 : List Int) (w17 w18 w19 : Nat) (w20 : Int) (w21 : List Int) (w22 w23 : Int) (w24 : List (Int × List Int)), lpN qc13 (itX Tryd.prog mode16 T_cloneR fuel 3 127 6 5 (roundK (evC qc5) (evC qc6) (qc8 fuel) #[21] 62914752 qc3)) qc11 qc4 k ⟨[qc14, (1, .yl 5), (4, .ptr 7 1 0 0), (5, vI w5), (6, .ptr 8 2 0 0), (12, vI n), (13, vI w0), (14, vB w6), (15, vI w0), qc17, qc18, qc19, (19, .sl 3 2 0 w1), qc20, qc21, qc22, (23, vI w2), (24, .sl 3 2 w7 w8), qc16, (26, vI w5), (27, vI w5), (28, vB w9), qc23, qc24, qc25, (32, .sl 3 2 0 w1), qc26, qc27, qc28, (36, vI w2), qc29, qc30, qc31, (40, .sl 3 2 0 w1), qc32, qc33, qc34, (44, vI w2), (45, vI w5), (46, vI w10), qc35, qc36, qc37, (50, .sl 3 2 0 w1), qc38, qc39, qc40, (54, vI w2), (55, vI w5), (56, vI w10), (57, .ptr 3 2 w11 0), (58, .agg [vI w12, vW w13]), qc41, qc42, qc43, (62, .sl 3 2 0 w1), qc44, qc45, qc46, (66, vI w2), (67, .ptr 3 2 w14 0), (68, .agg [vI w15, vW w16]), (69, .ptr 3 2 w17 0), (70, .ptr 3 2 w18 0), qc47, qc48, qc49, (74, .sl 3 2 0 w1), qc50, qc51, qc52, (78, vI w2), (79, .ptr 3 2 w19 0), (80, .agg [vI w20, vW w21]), qc53, qc54, qc55, (84, .sl 3 2 0 w1), (85, vI w22), (86, vI w23)], [(qc9 n m), qc7, (2, some ⟨169, .agg [vI n, .sl 3 2 0 w1, vI w2], true⟩), (3, some ⟨44, vR w24, true⟩), (4, some ⟨26, .agg [.sl 6 1 0 w3], true⟩), (5, none), (6, bL 3 w4), (7, some ⟨3, .agg [vI w0], true⟩), (8, some ⟨44, .agg [vI w20, vW w21], true⟩)], 9, none⟩ K = EchF_l4 fuel n w0 w1 w2 m w3 w4 (fun y0 y1 y2 y3 y4 y5 y6 y7 y8 y9 y10 y11 y12 y13 y14 y15 y16 y17 y18 y19 y20 => K (.exit 2) ⟨[qc14, (1, .yl 5), (4, .ptr 7 1 0 0), (5, vI y0), (6, .ptr 8 2 0 0), (12, vI n), (13, vI w0), (14, vB y1), (15, vI w0), qc17, qc18, qc19, (19, .sl 3 2 0 w1), qc20, qc21, qc22, (23, vI w2), (24, .sl 3 2 y2 y3), qc16, (26, vI y0), (27, vI y0), (28, vB y4), qc23, qc24, qc25, (32, .sl 3 2 0 w1), qc26, qc27, qc28, (36, vI w2), qc29, qc30, qc31, (40, .sl 3 2 0 w1), qc32, qc33, qc34, (44, vI w2), (45, vI y0), (46, vI y5), qc35, qc36, qc37, (50, .sl 3 2 0 w1), qc38, qc39, qc40, (54, vI w2), (55, vI y0), (56, vI y5), (57, .ptr 3 2 y6 0), (58, .agg [vI y7, vW y8]), qc41, qc42, qc43, (62, .sl 3 2 0 w1), qc44, qc45, qc46, (66, vI w2), (67, .ptr 3 2 y9 0), (68, .agg [vI y10, vW y11]), (69, .ptr 3 2 y12 0), (70, .ptr 3 2 y13 0), qc47, qc48, qc49, (74, .sl 3 2 0 w1), qc50, qc51, qc52, (78, vI w2), (79, .ptr 3 2 y14 0), (80, .agg [vI y15, vW y16]), qc53, qc54, qc55, (84, .sl 3 2 0 w1), (85, vI y17), (86, vI y18), (87, vB y19)], [(qc9 n m), qc7, (2, some ⟨169, .agg [vI n, .sl 3 2 0 w1, vI w2], true⟩), (3, some ⟨44, vR y20, true⟩), (4, some ⟨26, .agg [.sl 6 1 0 w3], true⟩), (5, none), (6, bL 3 w4), (7, some ⟨3, .agg [vI w0], true⟩), (8, some ⟨44, .agg [vI y15, vW y16], true⟩)], 9, none⟩) k w5 w6 w7 w8 w9 w10 w11 w12 w13 w14 w15 w16 w17 w18 w19 w20 w21 w22 w23 w24
  | 0, _, _, _, _, _, _, _, _, _, _, _, _, _, _, _, _, _, _, _, _ => rfl
  | k + 1, w5, w6, w7, w8, w9, w10, w11, w12, w13, w14, w15, w16, w17, w18, w19, w20, w21, w22, w23, w24 => by
    unfold EchF_l4
    exact (EchF_s6_eq fuel k K w23 w22 w1 w24 w2 w0 w21 w5 w6 w7 w8 w9 w10 w11 w12 w13 w14 w15 w16 w17 w18 w19 w20 n m w3 w4).trans (congr (congr (congr (congr (Eq.refl (EchF_s6 (R := Out) w23 w22 w1 w24 w2 w0 w21 w5 w6 w7 w8 w9 w10 w11 w12 w13 w14 w15 w16 w17 w18 w19 w20 n m w3 w4)) (funext fun a0 => funext fun a1 => funext fun a2 => funext fun a3 => funext fun a4 => funext fun a5 => funext fun a6 => funext fun a7 => funext fun a8 => funext fun a9 => funext fun a10 => funext fun a11 => funext fun a12 => funext fun a13 => funext fun a14 => funext fun a15 => funext fun a16 => funext fun a17 => funext fun a18 => funext fun a19 => EchF_l4_eq fuel n w0 w1 w2 m w3 w4 K k a0 a1 a2 a3 a4 a5 a6 a7 a8 a9 a10 a11 a12 a13 a14 a15 a16 a17 a18 a19)) (funext fun a20 => funext fun a21 => funext fun a22 => funext fun a23 => funext fun a24 => funext fun a25 => funext fun a26 => funext fun a27 => funext fun a28 => funext fun a29 => funext fun a30 => funext fun a31 => funext fun a32 => funext fun a33 => funext fun a34 => funext fun a35 => funext fun a36 => funext fun a37 => funext fun a38 => funext fun a39 => EchF_l4_eq fuel n w0 w1 w2 m w3 w4 K k a20 a21 a22 a23 a24 a25 a26 a27 a28 a29 a30 a31 a32 a33 a34 a35 a36 a37 a38 a39)) (funext fun a40 => funext fun a41 => funext fun a42 => funext fun a43 => funext fun a44 => funext fun a45 => funext fun a46 => funext fun a47 => funext fun a48 => funext fun a49 => funext fun a50 => funext fun a51 => funext fun a52 => funext fun a53 => funext fun a54 => funext fun a55 => funext fun a56 => funext fun a57 => funext fun a58 => funext fun a59 => EchF_l4_eq fuel n w0 w1 w2 m w3 w4 K k a40 a41 a42 a43 a44 a45 a46 a47 a48 a49 a50 a51 a52 a53 a54 a55 a56 a57 a58 a59)) (rfl))
noncomputable def EchF_s7 {R : Type} (w0 : List Int) (w1 : Nat) (w2 w3 : Int) (x0 : List (Int × List Int)) (x1 n : Int) (x2 : Bool) (w4 x3 x4 : Nat) (x5 : Bool) (x6 : Int) (x7 : Nat) (x8 : Int) (x9 : List Int) (x10 : Nat) (x11 : Int) (x12 : List Int) (x13 x14 x15 : Nat) (x16 : Int) (x17 : List Int) (x18 x19 : Int) (x20 : Bool) (m : List (Int × List Int)) (c0 : Int → Int → (List (Int × List Int)) → Nat → List Int → Option R) : Option R :=
  grd (Nat.beq w0.length w1) <|
  grd (okN (w1 + 1) 8) <|
  c0 (IntKind.i64.wrap (w2 + 1)) (IntKind.i64.wrap (w3 + 1)) x0 ((w0 ++ [w2]).length) (w0 ++ [w2])
theorem EchF_s7_eq (fuel k : Nat) (K : Ex → St → Option Out) (w0 : List Int) (w1 : Nat) (w2 w3 : Int) (x0 : List (Int × List Int)) (x1 n : Int) (x2 : Bool) (w4 x3 x4 : Nat) (x5 : Bool) (x6 : Int) (x7 : Nat) (x8 : Int) (x9 : List Int) (x10 : Nat) (x11 : Int) (x12 : List Int) (x13 x14 x15 : Nat) (x16 : Int) (x17 : List Int) (x18 x19 : Int) (x20 : Bool) (m : List (Int × List Int)) : (kont (itX Tryd.prog mode16 T_cloneR fuel 3 127 6 5 (roundK (evC qc5) (evC qc6) (qc8 fuel) #[21] 62914752 qc3)) qc10 qc57 qc11 (rdK qc10 (itX Tryd.prog mode16 T_cloneR fuel 3 127 6 5 (roundK (evC qc5) (evC qc6) (qc8 fuel) #[21] 62914752 qc3)) 0 qc58 k K)) (.exit 2) ⟨[qc14, (1, .yl 5), (4, .ptr 7 1 0 0), (5, vI x1), (6, .ptr 8 2 0 0), (12, vI n), (13, vI w2), (14, vB x2), (15, vI w2), qc17, qc18, qc19, (19, .sl 3 2 0 w4), qc20, qc21, qc22, (23, vI w3), (24, .sl 3 2 x3 x4), qc16, (26, vI x1), (27, vI x1), (28, vB x5), qc23, qc24, qc25, (32, .sl 3 2 0 w4), qc26, qc27, qc28, (36, vI w3), qc29, qc30, qc31, (40, .sl 3 2 0 w4), qc32, qc33, qc34, (44, vI w3), (45, vI x1), (46, vI x6), qc35, qc36, qc37, (50, .sl 3 2 0 w4), qc38, qc39, qc40, (54, vI w3), (55, vI x1), (56, vI x6), (57, .ptr 3 2 x7 0), (58, .agg [vI x8, vW x9]), qc41, qc42, qc43, (62, .sl 3 2 0 w4), qc44, qc45, qc46, (66, vI w3), (67, .ptr 3 2 x10 0), (68, .agg [vI x11, vW x12]), (69, .ptr 3 2 x13 0), (70, .ptr 3 2 x14 0), qc47, qc48, qc49, (74, .sl 3 2 0 w4), qc50, qc51, qc52, (78, vI w3), (79, .ptr 3 2 x15 0), (80, .agg [vI x16, vW x17]), qc53, qc54, qc55, (84, .sl 3 2 0 w4), (85, vI x18), (86, vI x19), (87, vB x20)], [(qc9 n m), qc7, (2, some ⟨169, .agg [vI n, .sl 3 2 0 w4, vI w3], true⟩), (3, some ⟨44, vR x0, true⟩), (4, some ⟨26, .agg [.sl 6 1 0 w1], true⟩), (5, none), (6, bL 3 w0), (7, some ⟨3, .agg [vI w2], true⟩), (8, some ⟨44, .agg [vI x16, vW x17], true⟩)], 9, none⟩ = EchF_s7 w0 w1 w2 w3 x0 x1 n x2 w4 x3 x4 x5 x6 x7 x8 x9 x10 x11 x12 x13 x14 x15 x16 x17 x18 x19 x20 m (fun a0 a1 a2 a3 a4 => lpN qc10 (itX Tryd.prog mode16 T_cloneR fuel 3 127 6 5 (roundK (evC qc5) (evC qc6) (qc8 fuel) #[21] 62914752 qc3)) 0 qc58 k ⟨[qc14, (1, .yl 5), (12, vI n), (13, vI a0)], [(qc9 n m), qc7, (2, some ⟨169, .agg [vI n, .sl 3 2 0 w4, vI a1], true⟩), (3, some ⟨44, vR a2, true⟩), (4, some ⟨26, .agg [.sl 6 1 0 a3], true⟩), (5, none), (6, bL 3 a4)], 7, none⟩ K) := by kernel_rfl
noncomputable def EchF_s5 {R : Type} (w0 n w1 : Int) (w2 : Nat) (w3 : List (Int × List Int)) (w4 : Nat) (w5 : List Int) (m : List (Int × List Int)) (c0 : Int → Int → (List (Int × List Int)) → Nat → List Int → Option R) (c1 : Int → Bool → Nat → Nat → Bool → Int → Nat → Int → List Int → Nat → Int → List Int → Nat → Nat → Nat → Int → List Int → Int → Int → (List (Int × List Int)) → Option R) (c2 : Int → (List (Int × List Int)) → Nat → List Int → Option R) : Option R :=
  br (decide (w0 < n))
    (bnd (upTo w1 w2) fun j0 =>
    grd (okM w3 && decide ((0 + j0) + (w2 - j0) = w3.length) && decide (w3.length ≤ 1000)) <|
    br (decide (((idxH w0 (w3.drop (0 + j0))) : Int) < 0))
      (c0 (IntKind.i64.wrap (w0 + 1)) w1 w3 w4 w5)
      (bnd (below (IntKind.i64.wrap (w1 + (idxH w0 (w3.drop (0 + j0))))) w2) fun j1 =>
      bnd (w3[(0 + j1)]?) fun e0 =>
      bnd (below w1 w2) fun j2 =>
      bnd (w3[(0 + j2)]?) fun e1 =>
      bnd (below w1 w2) fun j3 =>
      bnd (w3[(0 + j3)]?) fun e2 =>
      bnd (below (IntKind.i64.wrap (w1 + (idxH w0 (w3.drop (0 + j0))))) w2) fun j4 =>
      bnd ((w3.set (0 + j3) e0)[(0 + j4)]?) fun e3 =>
      bnd (below w1 w2) fun j5 =>
      bnd (((w3.set (0 + j3) e0).set (0 + j4) e1)[(0 + j5)]?) fun e4 =>
      c1 (idxH w0 (w3.drop (0 + j0))) (decide (w0 < n)) (0 + j0) (w2 - j0) (decide (((idxH w0 (w3.drop (0 + j0))) : Int) < 0)) (IntKind.i64.wrap (w1 + (idxH w0 (w3.drop (0 + j0))))) (0 + j1) e0.1 e0.2 (0 + j2) e1.1 e1.2 (0 + j3) (0 + j4) (0 + j5) e4.1 e4.2 ((w2 : Nat) : Int) 0 ((w3.set (0 + j3) e0).set (0 + j4) e1)))
    (c2 w1 w3 w4 w5)
theorem EchF_s5_eq (fuel k : Nat) (K : Ex → St → Option Out) (w0 n w1 : Int) (w2 : Nat) (w3 : List (Int × List Int)) (w4 : Nat) (w5 : List Int) (m : List (Int × List Int)) : lpN qc10 (itX Tryd.prog mode16 T_cloneR fuel 3 127 6 5 (roundK (evC qc5) (evC qc6) (qc8 fuel) #[21] 62914752 qc3)) 0 qc58 (k + 1) ⟨[qc14, (1, .yl 5), (12, vI n), (13, vI w0)], [(qc9 n m), qc7, (2, some ⟨169, .agg [vI n, .sl 3 2 0 w2, vI w1], true⟩), (3, some ⟨44, vR w3, true⟩), (4, some ⟨26, .agg [.sl 6 1 0 w4], true⟩), (5, none), (6, bL 3 w5)], 7, none⟩ K = EchF_s5 w0 n w1 w2 w3 w4 w5 m (fun a0 a1 a2 a3 a4 => lpN qc10 (itX Tryd.prog mode16 T_cloneR fuel 3 127 6 5 (roundK (evC qc5) (evC qc6) (qc8 fuel) #[21] 62914752 qc3)) 0 qc58 k ⟨[qc14, (1, .yl 5), (12, vI n), (13, vI a0)], [(qc9 n m), qc7, (2, some ⟨169, .agg [vI n, .sl 3 2 0 w2, vI a1], true⟩), (3, some ⟨44, vR a2, true⟩), (4, some ⟨26, .agg [.sl 6 1 0 a3], true⟩), (5, none), (6, bL 3 a4)], 7, none⟩ K) (fun a5 a6 a7 a8 a9 a10 a11 a12 a13 a14 a15 a16 a17 a18 a19 a20 a21 a22 a23 a24 => lpN qc13 (itX Tryd.prog mode16 T_cloneR fuel 3 127 6 5 (roundK (evC qc5) (evC qc6) (qc8 fuel) #[21] 62914752 qc3)) qc11 qc4 fuel ⟨[qc14, (1, .yl 5), (4, .ptr 7 1 0 0), (5, vI a5), (6, .ptr 8 2 0 0), (12, vI n), (13, vI w0), (14, vB a6), (15, vI w0), qc17, qc18, qc19, (19, .sl 3 2 0 w2), qc20, qc21, qc22, (23, vI w1), (24, .sl 3 2 a7 a8), qc16, (26, vI a5), (27, vI a5), (28, vB a9), qc23, qc24, qc25, (32, .sl 3 2 0 w2), qc26, qc27, qc28, (36, vI w1), qc29, qc30, qc31, (40, .sl 3 2 0 w2), qc32, qc33, qc34, (44, vI w1), (45, vI a5), (46, vI a10), qc35, qc36, qc37, (50, .sl 3 2 0 w2), qc38, qc39, qc40, (54, vI w1), (55, vI a5), (56, vI a10), (57, .ptr 3 2 a11 0), (58, .agg [vI a12, vW a13]), qc41, qc42, qc43, (62, .sl 3 2 0 w2), qc44, qc45, qc46, (66, vI w1), (67, .ptr 3 2 a14 0), (68, .agg [vI a15, vW a16]), (69, .ptr 3 2 a17 0), (70, .ptr 3 2 a18 0), qc47, qc48, qc49, (74, .sl 3 2 0 w2), qc50, qc51, qc52, (78, vI w1), (79, .ptr 3 2 a19 0), (80, .agg [vI a20, vW a21]), qc53, qc54, qc55, (84, .sl 3 2 0 w2), (85, vI a22), (86, vI a23)], [(qc9 n m), qc7, (2, some ⟨169, .agg [vI n, .sl 3 2 0 w2, vI w1], true⟩), (3, some ⟨44, vR a24, true⟩), (4, some ⟨26, .agg [.sl 6 1 0 w4], true⟩), (5, none), (6, bL 3 w5), (7, some ⟨3, .agg [vI w0], true⟩), (8, some ⟨44, .agg [vI a20, vW a21], true⟩)], 9, none⟩ (kont (itX Tryd.prog mode16 T_cloneR fuel 3 127 6 5 (roundK (evC qc5) (evC qc6) (qc8 fuel) #[21] 62914752 qc3)) qc10 qc57 qc11 (rdK qc10 (itX Tryd.prog mode16 T_cloneR fuel 3 127 6 5 (roundK (evC qc5) (evC qc6) (qc8 fuel) #[21] 62914752 qc3)) 0 qc58 k K))) (fun a25 a26 a27 a28 => K (.exit 0) ⟨[], [(qc9 n m), qc7, (2, some ⟨169, .agg [vI n, .sl 3 2 0 w2, vI a25], true⟩), (3, some ⟨44, vR a26, true⟩), (4, some ⟨26, .agg [.sl 6 1 0 a27], true⟩), (5, none), (6, bL 3 a28)], 7, none⟩) := by kernel_rfl
noncomputable def EchF_l3 {R : Type} (fuel : Nat) (n : Int) (m : List (Int × List Int)) (w0 : Nat) (k0 : Int → (List (Int × List Int)) → Nat → List Int → Option R) : Nat → Int → Int → (List (Int × List Int)) → Nat → List Int → Option R
  | 0, _, _, _, _, _ => none
  | k + 1, w1, w2, w3, w4, w5 =>
    (EchF_s5 w1 n w2 w0 w3 w4 w5 m (fun a0 a1 a2 a3 a4 => ( EchF_l3 fuel n m w0 k0 k a0 a1 a2 a3 a4 )) (fun a5 a6 a7 a8 a9 a10 a11 a12 a13 a14 a15 a16 a17 a18 a19 a20 a21 a22 a23 a24 => (EchF_l4 fuel n w1 w0 w2 m w4 w5 (fun x0 x1 x2 x3 x4 x5 x6 x7 x8 x9 x10 x11 x12 x13 x14 x15 x16 x17 x18 x19 x20 => (EchF_s7 w5 w4 w1 w2 x20 x0 n x1 w0 x2 x3 x4 x5 x6 x7 x8 x9 x10 x11 x12 x13 x14 x15 x16 x17 x18 x19 m (fun a25 a26 a27 a28 a29 => ( EchF_l3 fuel n m w0 k0 k a25 a26 a27 a28 a29 )))) fuel a5 a6 a7 a8 a9 a10 a11 a12 a13 a14 a15 a16 a17 a18 a19 a20 a21 a22 a23 a24)) (fun a30 a31 a32 a33 => k0 a30 a31 a32 a33))
theorem EchF_l3_eq (fuel : Nat) (n : Int) (m : List (Int × List Int)) (w0 : Nat) (K : Ex → St → Option Out) : ∀ (k : Nat) (w1 w2 : Int) (w3 : List (Int × List Int)) (w4 : Nat) (w5 : List Int), lpN qc10 (itX Tryd.prog mode16 T_cloneR fuel 3 127 6 5 (roundK (evC qc5) (evC qc6) (qc8 fuel) #[21] 62914752 qc3)) 0 qc58 k ⟨[qc14, (1, .yl 5), (12, vI n), (13, vI w1)], [(qc9 n m), qc7, (2, some ⟨169, .agg [vI n, .sl 3 2 0 w0, vI w2], true⟩), (3, some ⟨44, vR w3, true⟩), (4, some ⟨26, .agg [.sl 6 1 0 w4], true⟩), (5, none), (6, bL 3 w5)], 7, none⟩ K = EchF_l3 fuel n m w0 (fun y0 y1 y2 y3 => K (.exit 0) ⟨[], [(qc9 n m), qc7, (2, some ⟨169, .agg [vI n, .sl 3 2 0 w0, vI y0], true⟩), (3, some ⟨44, vR y1, true⟩), (4, some ⟨26, .agg [.sl 6 1 0 y2], true⟩), (5, none), (6, bL 3 y3)], 7, none⟩) k w1 w2 w3 w4 w5
  | 0, _, _, _, _, _ => rfl
  | k + 1, w1, w2, w3, w4, w5 => by
    unfold EchF_l3
    exact (EchF_s5_eq fuel k K w1 n w2 w0 w3 w4 w5 m).trans (congr (congr (congr (Eq.refl (EchF_s5 (R := Out) w1 n w2 w0 w3 w4 w5 m)) (funext fun a0 => funext fun a1 => funext fun a2 => funext fun a3 => funext fun a4 => EchF_l3_eq fuel n m w0 K k a0 a1 a2 a3 a4)) (funext fun a5 => funext fun a6 => funext fun a7 => funext fun a8 => funext fun a9 => funext fun a10 => funext fun a11 => funext fun a12 => funext fun a13 => funext fun a14 => funext fun a15 => funext fun a16 => funext fun a17 => funext fun a18 => funext fun a19 => funext fun a20 => funext fun a21 => funext fun a22 => funext fun a23 => funext fun a24 => (EchF_l4_eq fuel n w1 w0 w2 m w4 w5 (kont (itX Tryd.prog mode16 T_cloneR fuel 3 127 6 5 (roundK (evC qc5) (evC qc6) (qc8 fuel) #[21] 62914752 qc3)) qc10 qc57 qc11 (rdK qc10 (itX Tryd.prog mode16 T_cloneR fuel 3 127 6 5 (roundK (evC qc5) (evC qc6) (qc8 fuel) #[21] 62914752 qc3)) 0 qc58 k K)) fuel a5 a6 a7 a8 a9 a10 a11 a12 a13 a14 a15 a16 a17 a18 a19 a20 a21 a22 a23 a24).trans (congrFun (congrFun (congrFun (congrFun (congrFun (congrFun (congrFun (congrFun (congrFun (congrFun (congrFun (congrFun (congrFun (congrFun (congrFun (congrFun (congrFun (congrFun (congrFun (congrFun (congrFun (congr (Eq.refl (EchF_l4 (R := Out) fuel n w1 w0 w2 m w4 w5)) (funext fun x0 => funext fun x1 => funext fun x2 => funext fun x3 => funext fun x4 => funext fun x5 => funext fun x6 => funext fun x7 => funext fun x8 => funext fun x9 => funext fun x10 => funext fun x11 => funext fun x12 => funext fun x13 => funext fun x14 => funext fun x15 => funext fun x16 => funext fun x17 => funext fun x18 => funext fun x19 => funext fun x20 => (EchF_s7_eq fuel k K w5 w4 w1 w2 x20 x0 n x1 w0 x2 x3 x4 x5 x6 x7 x8 x9 x10 x11 x12 x13 x14 x15 x16 x17 x18 x19 m).trans (congr (Eq.refl (EchF_s7 (R := Out) w5 w4 w1 w2 x20 x0 n x1 w0 x2 x3 x4 x5 x6 x7 x8 x9 x10 x11 x12 x13 x14 x15 x16 x17 x18 x19 m)) (funext fun a25 => funext fun a26 => funext fun a27 => funext fun a28 => funext fun a29 => EchF_l3_eq fuel n m w0 K k a25 a26 a27 a28 a29)))) fuel) a5) a6) a7) a8) a9) a10) a11) a12) a13) a14) a15) a16) a17) a18) a19) a20) a21) a22) a23) a24))) (rfl))
noncomputable def EchF_s4 {R : Type} (w0 : Int) (x0 : List (Int × List Int)) (x1 n : Int) (x2 : Bool) (w1 x3 x4 : Nat) (x5 : Bool) (x6 : Int) (x7 : Nat) (x8 : Int) (x9 : List Int) (x10 : Nat) (x11 : Int) (x12 : List Int) (x13 x14 x15 : Nat) (x16 : Int) (x17 : List Int) (x18 x19 : Int) (x20 : Bool) (m : List (Int × List Int)) (c0 : Int → Int → (List (Int × List Int)) → Nat → List Int → Option R) : Option R :=
  c0 (IntKind.i64.wrap (w0 + 1)) 1 x0 1 ([w0])
theorem EchF_s4_eq (fuel k : Nat) (K : Ex → St → Option Out) (w0 : Int) (x0 : List (Int × List Int)) (x1 n : Int) (x2 : Bool) (w1 x3 x4 : Nat) (x5 : Bool) (x6 : Int) (x7 : Nat) (x8 : Int) (x9 : List Int) (x10 : Nat) (x11 : Int) (x12 : List Int) (x13 x14 x15 : Nat) (x16 : Int) (x17 : List Int) (x18 x19 : Int) (x20 : Bool) (m : List (Int × List Int)) : (kont (itX Tryd.prog mode16 T_cloneR fuel 3 127 6 5 (roundK (evC qc5) (evC qc6) (qc8 fuel) #[21] 62914752 qc3)) qc10 qc57 qc11 (rdK qc10 (itX Tryd.prog mode16 T_cloneR fuel 3 127 6 5 (roundK (evC qc5) (evC qc6) (qc8 fuel) #[21] 62914752 qc3)) 0 qc58 k K)) (.exit 2) ⟨[qc14, (1, .yl 5), (4, .ptr 6 1 0 0), (5, vI x1), (6, .ptr 7 2 0 0), (12, vI n), (13, vI w0), (14, vB x2), (15, vI w0), qc17, qc18, qc19, (19, .sl 3 2 0 w1), qc20, qc21, qc22, (23, vI 0), (24, .sl 3 2 x3 x4), qc15, (26, vI x1), (27, vI x1), (28, vB x5), qc23, qc24, qc25, (32, .sl 3 2 0 w1), qc26, qc27, qc28, (36, vI 0), qc29, qc30, qc31, (40, .sl 3 2 0 w1), qc32, qc33, qc34, (44, vI 0), (45, vI x1), (46, vI x6), qc35, qc36, qc37, (50, .sl 3 2 0 w1), qc38, qc39, qc40, (54, vI 0), (55, vI x1), (56, vI x6), (57, .ptr 3 2 x7 0), (58, .agg [vI x8, vW x9]), qc41, qc42, qc43, (62, .sl 3 2 0 w1), qc44, qc45, qc46, (66, vI 0), (67, .ptr 3 2 x10 0), (68, .agg [vI x11, vW x12]), (69, .ptr 3 2 x13 0), (70, .ptr 3 2 x14 0), qc47, qc48, qc49, (74, .sl 3 2 0 w1), qc50, qc51, qc52, (78, vI 0), (79, .ptr 3 2 x15 0), (80, .agg [vI x16, vW x17]), qc53, qc54, qc55, (84, .sl 3 2 0 w1), (85, vI x18), (86, vI x19), (87, vB x20)], [(qc9 n m), qc7, (2, some ⟨169, .agg [vI n, .sl 3 2 0 w1, vI 0], true⟩), (3, some ⟨44, vR x0, true⟩), qc12, (5, none), (6, some ⟨3, .agg [vI w0], true⟩), (7, some ⟨44, .agg [vI x16, vW x17], true⟩)], 8, none⟩ = EchF_s4 w0 x0 x1 n x2 w1 x3 x4 x5 x6 x7 x8 x9 x10 x11 x12 x13 x14 x15 x16 x17 x18 x19 x20 m (fun a0 a1 a2 a3 a4 => lpN qc10 (itX Tryd.prog mode16 T_cloneR fuel 3 127 6 5 (roundK (evC qc5) (evC qc6) (qc8 fuel) #[21] 62914752 qc3)) 0 qc58 k ⟨[qc14, (1, .yl 5), (12, vI n), (13, vI a0)], [(qc9 n m), qc7, (2, some ⟨169, .agg [vI n, .sl 3 2 0 w1, vI a1], true⟩), (3, some ⟨44, vR a2, true⟩), (4, some ⟨26, .agg [.sl 6 1 0 a3], true⟩), (5, none), (6, bL 3 a4)], 7, none⟩ K) := by kernel_rfl
noncomputable def EchF_s2 {R : Type} (w0 n : Int) (w1 : Nat) (m : List (Int × List Int)) (c0 : Int → Nat → Option R) (c1 : Int → Bool → Nat → Nat → Bool → Int → Nat → Int → List Int → Nat → Int → List Int → Nat → Nat → Nat → Int → List Int → Int → Int → (List (Int × List Int)) → Option R) (c2 : Nat → Option R) : Option R :=
  br (decide (w0 < n))
    (bnd (upTo 0 w1) fun j0 =>
    grd (okM m && decide ((0 + j0) + (w1 - j0) = m.length) && decide (m.length ≤ 1000)) <|
    br (decide (((idxH w0 (m.drop (0 + j0))) : Int) < 0))
      (c0 (IntKind.i64.wrap (w0 + 1)) w1)
      (bnd (below (IntKind.i64.wrap (0 + (idxH w0 (m.drop (0 + j0))))) w1) fun j1 =>
      bnd (m[(0 + j1)]?) fun e0 =>
      bnd (below 0 w1) fun j2 =>
      bnd (m[(0 + j2)]?) fun e1 =>
      bnd (below 0 w1) fun j3 =>
      bnd (m[(0 + j3)]?) fun e2 =>
      bnd (below (IntKind.i64.wrap (0 + (idxH w0 (m.drop (0 + j0))))) w1) fun j4 =>
      bnd ((m.set (0 + j3) e0)[(0 + j4)]?) fun e3 =>
      bnd (below 0 w1) fun j5 =>
      bnd (((m.set (0 + j3) e0).set (0 + j4) e1)[(0 + j5)]?) fun e4 =>
      c1 (idxH w0 (m.drop (0 + j0))) (decide (w0 < n)) (0 + j0) (w1 - j0) (decide (((idxH w0 (m.drop (0 + j0))) : Int) < 0)) (IntKind.i64.wrap (0 + (idxH w0 (m.drop (0 + j0))))) (0 + j1) e0.1 e0.2 (0 + j2) e1.1 e1.2 (0 + j3) (0 + j4) (0 + j5) e4.1 e4.2 ((w1 : Nat) : Int) 0 ((m.set (0 + j3) e0).set (0 + j4) e1)))
    (c2 w1)
theorem EchF_s2_eq (fuel k : Nat) (K : Ex → St → Option Out) (w0 n : Int) (w1 : Nat) (m : List (Int × List Int)) : lpN qc10 (itX Tryd.prog mode16 T_cloneR fuel 3 127 6 5 (roundK (evC qc5) (evC qc6) (qc8 fuel) #[21] 62914752 qc3)) 0 qc58 (k + 1) ⟨[qc14, (1, .yl 5), (12, vI n), (13, vI w0)], [(qc9 n m), qc7, (2, some ⟨169, .agg [vI n, .sl 3 2 0 w1, vI 0], true⟩), (qc56 m), qc12, (5, none)], 6, none⟩ K = EchF_s2 w0 n w1 m (fun a0 a1 => lpN qc10 (itX Tryd.prog mode16 T_cloneR fuel 3 127 6 5 (roundK (evC qc5) (evC qc6) (qc8 fuel) #[21] 62914752 qc3)) 0 qc58 k ⟨[qc14, (1, .yl 5), (12, vI n), (13, vI a0)], [(qc9 n m), qc7, (2, some ⟨169, .agg [vI n, .sl 3 2 0 a1, vI 0], true⟩), (qc56 m), qc12, (5, none)], 6, none⟩ K) (fun a2 a3 a4 a5 a6 a7 a8 a9 a10 a11 a12 a13 a14 a15 a16 a17 a18 a19 a20 a21 => lpN qc13 (itX Tryd.prog mode16 T_cloneR fuel 3 127 6 5 (roundK (evC qc5) (evC qc6) (qc8 fuel) #[21] 62914752 qc3)) qc11 qc4 fuel ⟨[qc14, (1, .yl 5), (4, .ptr 6 1 0 0), (5, vI a2), (6, .ptr 7 2 0 0), (12, vI n), (13, vI w0), (14, vB a3), (15, vI w0), qc17, qc18, qc19, (19, .sl 3 2 0 w1), qc20, qc21, qc22, (23, vI 0), (24, .sl 3 2 a4 a5), qc15, (26, vI a2), (27, vI a2), (28, vB a6), qc23, qc24, qc25, (32, .sl 3 2 0 w1), qc26, qc27, qc28, (36, vI 0), qc29, qc30, qc31, (40, .sl 3 2 0 w1), qc32, qc33, qc34, (44, vI 0), (45, vI a2), (46, vI a7), qc35, qc36, qc37, (50, .sl 3 2 0 w1), qc38, qc39, qc40, (54, vI 0), (55, vI a2), (56, vI a7), (57, .ptr 3 2 a8 0), (58, .agg [vI a9, vW a10]), qc41, qc42, qc43, (62, .sl 3 2 0 w1), qc44, qc45, qc46, (66, vI 0), (67, .ptr 3 2 a11 0), (68, .agg [vI a12, vW a13]), (69, .ptr 3 2 a14 0), (70, .ptr 3 2 a15 0), qc47, qc48, qc49, (74, .sl 3 2 0 w1), qc50, qc51, qc52, (78, vI 0), (79, .ptr 3 2 a16 0), (80, .agg [vI a17, vW a18]), qc53, qc54, qc55, (84, .sl 3 2 0 w1), (85, vI a19), (86, vI a20)], [(qc9 n m), qc7, (2, some ⟨169, .agg [vI n, .sl 3 2 0 w1, vI 0], true⟩), (3, some ⟨44, vR a21, true⟩), qc12, (5, none), (6, some ⟨3, .agg [vI w0], true⟩), (7, some ⟨44, .agg [vI a17, vW a18], true⟩)], 8, none⟩ (kont (itX Tryd.prog mode16 T_cloneR fuel 3 127 6 5 (roundK (evC qc5) (evC qc6) (qc8 fuel) #[21] 62914752 qc3)) qc10 qc57 qc11 (rdK qc10 (itX Tryd.prog mode16 T_cloneR fuel 3 127 6 5 (roundK (evC qc5) (evC qc6) (qc8 fuel) #[21] 62914752 qc3)) 0 qc58 k K))) (fun a22 => K (.exit 0) ⟨[], [(qc9 n m), qc7, (2, some ⟨169, .agg [vI n, .sl 3 2 0 a22, vI 0], true⟩), (qc56 m), qc12, (5, none)], 6, none⟩) := by kernel_rfl
noncomputable def EchF_l1 {R : Type} (fuel : Nat) (n : Int) (m : List (Int × List Int)) (k0 : Nat → Int → (List (Int × List Int)) → Nat → List Int → Option R) (k1 : Nat → Option R) : Nat → Int → Nat → Option R
  | 0, _, _ => none
  | k + 1, w0, w1 =>
    (EchF_s2 w0 n w1 m (fun a0 a1 => ( EchF_l1 fuel n m k0 k1 k a0 a1 )) (fun a2 a3 a4 a5 a6 a7 a8 a9 a10 a11 a12 a13 a14 a15 a16 a17 a18 a19 a20 a21 => (EchF_l2 fuel n w0 w1 m (fun x0 x1 x2 x3 x4 x5 x6 x7 x8 x9 x10 x11 x12 x13 x14 x15 x16 x17 x18 x19 x20 => (EchF_s4 w0 x20 x0 n x1 w1 x2 x3 x4 x5 x6 x7 x8 x9 x10 x11 x12 x13 x14 x15 x16 x17 x18 x19 m (fun a22 a23 a24 a25 a26 => (EchF_l3 fuel n m w1 (fun x21 x22 x23 x24 => k0 w1 x21 x22 x23 x24) k a22 a23 a24 a25 a26)))) fuel a2 a3 a4 a5 a6 a7 a8 a9 a10 a11 a12 a13 a14 a15 a16 a17 a18 a19 a20 a21)) (fun a27 => k1 a27))
theorem EchF_l1_eq (fuel : Nat) (n : Int) (m : List (Int × List Int)) (K : Ex → St → Option Out) : ∀ (k : Nat) (w0 : Int) (w1 : Nat), lpN qc10 (itX Tryd.prog mode16 T_cloneR fuel 3 127 6 5 (roundK (evC qc5) (evC qc6) (qc8 fuel) #[21] 62914752 qc3)) 0 qc58 k ⟨[qc14, (1, .yl 5), (12, vI n), (13, vI w0)], [(qc9 n m), qc7, (2, some ⟨169, .agg [vI n, .sl 3 2 0 w1, vI 0], true⟩), (qc56 m), qc12, (5, none)], 6, none⟩ K = EchF_l1 fuel n m (fun y0 y1 y2 y3 y4 => K (.exit 0) ⟨[], [(qc9 n m), qc7, (2, some ⟨169, .agg [vI n, .sl 3 2 0 y0, vI y1], true⟩), (3, some ⟨44, vR y2, true⟩), (4, some ⟨26, .agg [.sl 6 1 0 y3], true⟩), (5, none), (6, bL 3 y4)], 7, none⟩) (fun y5 => K (.exit 0) ⟨[], [(qc9 n m), qc7, (2, some ⟨169, .agg [vI n, .sl 3 2 0 y5, vI 0], true⟩), (qc56 m), qc12, (5, none)], 6, none⟩) k w0 w1
  | 0, _, _ => rfl
  | k + 1, w0, w1 => by
    unfold EchF_l1
    exact (EchF_s2_eq fuel k K w0 n w1 m).trans (congr (congr (congr (Eq.refl (EchF_s2 (R := Out) w0 n w1 m)) (funext fun a0 => funext fun a1 => EchF_l1_eq fuel n m K k a0 a1)) (funext fun a2 => funext fun a3 => funext fun a4 => funext fun a5 => funext fun a6 => funext fun a7 => funext fun a8 => funext fun a9 => funext fun a10 => funext fun a11 => funext fun a12 => funext fun a13 => funext fun a14 => funext fun a15 => funext fun a16 => funext fun a17 => funext fun a18 => funext fun a19 => funext fun a20 => funext fun a21 => (EchF_l2_eq fuel n w0 w1 m (kont (itX Tryd.prog mode16 T_cloneR fuel 3 127 6 5 (roundK (evC qc5) (evC qc6) (qc8 fuel) #[21] 62914752 qc3)) qc10 qc57 qc11 (rdK qc10 (itX Tryd.prog mode16 T_cloneR fuel 3 127 6 5 (roundK (evC qc5) (evC qc6) (qc8 fuel) #[21] 62914752 qc3)) 0 qc58 k K)) fuel a2 a3 a4 a5 a6 a7 a8 a9 a10 a11 a12 a13 a14 a15 a16 a17 a18 a19 a20 a21).trans (congrFun (congrFun (congrFun (congrFun (congrFun (congrFun (congrFun (congrFun (congrFun (congrFun (congrFun (congrFun (congrFun (congrFun (congrFun (congrFun (congrFun (congrFun (congrFun (congrFun (congrFun (congr (Eq.refl (EchF_l2 (R := Out) fuel n w0 w1 m)) (funext fun x0 => funext fun x1 => funext fun x2 => funext fun x3 => funext fun x4 => funext fun x5 => funext fun x6 => funext fun x7 => funext fun x8 => funext fun x9 => funext fun x10 => funext fun x11 => funext fun x12 => funext fun x13 => funext fun x14 => funext fun x15 => funext fun x16 => funext fun x17 => funext fun x18 => funext fun x19 => funext fun x20 => (EchF_s4_eq fuel k K w0 x20 x0 n x1 w1 x2 x3 x4 x5 x6 x7 x8 x9 x10 x11 x12 x13 x14 x15 x16 x17 x18 x19 m).trans (congr (Eq.refl (EchF_s4 (R := Out) w0 x20 x0 n x1 w1 x2 x3 x4 x5 x6 x7 x8 x9 x10 x11 x12 x13 x14 x15 x16 x17 x18 x19 m)) (funext fun a22 => funext fun a23 => funext fun a24 => funext fun a25 => funext fun a26 => EchF_l3_eq fuel n m w1 K k a22 a23 a24 a25 a26)))) fuel) a2) a3) a4) a5) a6) a7) a8) a9) a10) a11) a12) a13) a14) a15) a16) a17) a18) a19) a20) a21))) (rfl))
noncomputable def EchF_s8 {R : Type} (x0 : Int) (x1 : Nat) (n : Int) (x2 : List (Int × List Int)) (x3 : List Int) (x4 : Nat) (m : List (Int × List Int)) (c0 : Int → (List (Int × List Int)) → List Int → Int → Option R) : Option R :=
  bnd (upTo x0 x1) fun j0 =>
  c0 n ((x2.drop 0).take (j0 - 0)) ((x3.drop 0).take x4) 0
theorem EchF_s8_eq (fuel : Nat)  (x0 : Int) (x1 : Nat) (n : Int) (x2 : List (Int × List Int)) (x3 : List Int) (x4 : Nat) (m : List (Int × List Int)) : (kont (itX Tryd.prog mode16 T_cloneR fuel 3 127 6 5 (roundK (evC qc5) (evC qc6) (qc8 fuel) #[21] 62914752 qc3)) (bodyOf Tryd.prog 123) [1, 0] 0 (itE (behind ⟨qc3, [(qc9 n m), qc7, (2, some ⟨169, .agg [vI n, .sl 3 2 0 m.length, vI 0], true⟩), (qc56 m), qc12], 5, none⟩ (kont (qc8 fuel) (bodyOf Tryd.prog 74) [1, 1, 1, 1, 0, 1, 0] 28 (endK Tryd.prog 0 0 74))))) (.exit 0) ⟨[], [(qc9 n m), qc7, (2, some ⟨169, .agg [vI n, .sl 3 2 0 x1, vI x0], true⟩), (3, some ⟨44, vR x2, true⟩), (4, some ⟨26, .agg [.sl 6 1 0 x4], true⟩), (5, none), (6, bL 3 x3)], 7, none⟩ = EchF_s8 x0 x1 n x2 x3 x4 m (fun a0 a1 a2 a3 => some (.tup [.agg [vI a0, vR a1], vL a2, vI a3], [])) := by kernel_rfl
noncomputable def EchF_s9 {R : Type} (x0 : Nat) (n : Int) (m : List (Int × List Int)) (c0 : Int → (List (Int × List Int)) → Int → Option R) : Option R :=
  bnd (upTo 0 x0) fun j0 =>
  c0 n ((m.drop 0).take (j0 - 0)) 0
theorem EchF_s9_eq (fuel : Nat)  (x0 : Nat) (n : Int) (m : List (Int × List Int)) : (kont (itX Tryd.prog mode16 T_cloneR fuel 3 127 6 5 (roundK (evC qc5) (evC qc6) (qc8 fuel) #[21] 62914752 qc3)) (bodyOf Tryd.prog 123) [1, 0] 0 (itE (behind ⟨qc3, [(qc9 n m), qc7, (2, some ⟨169, .agg [vI n, .sl 3 2 0 m.length, vI 0], true⟩), (qc56 m), qc12], 5, none⟩ (kont (qc8 fuel) (bodyOf Tryd.prog 74) [1, 1, 1, 1, 0, 1, 0] 28 (endK Tryd.prog 0 0 74))))) (.exit 0) ⟨[], [(qc9 n m), qc7, (2, some ⟨169, .agg [vI n, .sl 3 2 0 x0, vI 0], true⟩), (qc56 m), qc12, (5, none)], 6, none⟩ = EchF_s9 x0 n m (fun a0 a1 a2 => some (.tup [.agg [vI a0, vR a1], vN, vI a2], [])) := by kernel_rfl
noncomputable def EchF_s1 {R : Type} (m : List (Int × List Int)) (n : Int) (c0 : Int → Int → Option R) (c1 : Int → Nat → Option R) : Option R :=
  grd (okM m) <|
  br (!(mrt n m))
    (c0 0 1)
    (grd (decide (1 ≤ m.length) && decide (m.length ≤ 1000)) <|
    c1 0 m.length)
theorem EchF_s1_eq (fuel : Nat)  (m : List (Int × List Int)) (n : Int) : callN Tryd.prog mode16 T_cloneR fuel 74 [.agg [vI n, vR m]] [] = EchF_s1 m n (fun a1 a2 => some (.tup [.agg [vI a1, vN], vN, vI a2], [])) (fun a0 a3 => lpN qc10 (itX Tryd.prog mode16 T_cloneR fuel 3 127 6 5 (roundK (evC qc5) (evC qc6) (qc8 fuel) #[21] 62914752 qc3)) 0 qc58 fuel ⟨[qc14, (1, .yl 5), (12, vI n), (13, vI a0)], [(qc9 n m), qc7, (2, some ⟨169, .agg [vI n, .sl 3 2 0 a3, vI 0], true⟩), (qc56 m), qc12, (5, none)], 6, none⟩ (kont (itX Tryd.prog mode16 T_cloneR fuel 3 127 6 5 (roundK (evC qc5) (evC qc6) (qc8 fuel) #[21] 62914752 qc3)) (bodyOf Tryd.prog 123) [1, 0] 0 (itE (behind ⟨qc3, [(qc9 n m), qc7, (2, some ⟨169, .agg [vI n, .sl 3 2 0 m.length, vI 0], true⟩), (qc56 m), qc12], 5, none⟩ (kont (qc8 fuel) (bodyOf Tryd.prog 74) [1, 1, 1, 1, 0, 1, 0] 28 (endK Tryd.prog 0 0 74)))))) := by kernel_rfl
noncomputable def EchF {R : Type} (fuel : Nat) (n : Int) (m : List (Int × List Int)) (r0 : Int → Int → Option R) (r1 : Int → (List (Int × List Int)) → List Int → Int → Option R) (r2 : Int → (List (Int × List Int)) → Int → Option R) : Option R :=
  (EchF_s1 m n (fun a1 a2 => r0 a1 a2) (fun a0 a3 => (EchF_l1 fuel n m (fun x0 x1 x2 x3 x4 => (EchF_s8 x1 x0 n x2 x4 x3 m (fun a4 a5 a6 a7 => r1 a4 a5 a6 a7))) (fun x5 => (EchF_s9 x5 n m (fun a8 a9 a10 => r2 a8 a9 a10))) fuel a0 a3)))
theorem EchF_eq (fuel : Nat) (n : Int) (m : List (Int × List Int)) : callN Tryd.prog mode16 T_cloneR fuel 74 [.agg [.s (.int .i64 n), .lt (.pair (.int .i64) (.sl (.int .u64))) m]] [] = EchF fuel n m (fun z0 z1 => some (.tup [.agg [.s (.int .i64 z0), .s (.slice none 0 0)], .s (.slice none 0 0), .s (.int .i64 z1)], [])) (fun z0 z1 z2 z3 => some (.tup [.agg [.s (.int .i64 z0), .lt (.pair (.int .i64) (.sl (.int .u64))) z1], .li .i64 z2, .s (.int .i64 z3)], [])) (fun z0 z1 z2 => some (.tup [.agg [.s (.int .i64 z0), .lt (.pair (.int .i64) (.sl (.int .u64))) z1], .s (.slice none 0 0), .s (.int .i64 z2)], [])) := by
  unfold EchF
  exact (EchF_s1_eq fuel  m n).trans (congr (congr (Eq.refl (EchF_s1 (R := Out) m n)) (rfl)) (funext fun a0 => funext fun a1 => (EchF_l1_eq fuel n m (kont (itX Tryd.prog mode16 T_cloneR fuel 3 127 6 5 (roundK (evC qc5) (evC qc6) (qc8 fuel) #[21] 62914752 qc3)) (bodyOf Tryd.prog 123) [1, 0] 0 (itE (behind ⟨qc3, [(qc9 n m), qc7, (2, some ⟨169, .agg [vI n, .sl 3 2 0 m.length, vI 0], true⟩), (qc56 m), qc12], 5, none⟩ (kont (qc8 fuel) (bodyOf Tryd.prog 74) [1, 1, 1, 1, 0, 1, 0] 28 (endK Tryd.prog 0 0 74))))) fuel a0 a1).trans (congrFun (congrFun (congrFun (congr (congr (Eq.refl (EchF_l1 (R := Out) fuel n m)) (funext fun x0 => funext fun x1 => funext fun x2 => funext fun x3 => funext fun x4 => (EchF_s8_eq fuel  x1 x0 n x2 x4 x3 m))) (funext fun x5 => (EchF_s9_eq fuel  x5 n m))) fuel) a0) a1)))
theorem Ech_in2 {R : Type} (fuel : Nat) (n : Int) (h0 : 0 ≤ n) (h1 : n ≤ 64) (m : List Rw) (i : Nat) (hi : (i : Int) < n) (L : Nat) (hL : L ≤ 64) (k0 : Int → Bool → Nat → Nat → Bool → Int → Nat → Int → List Int → Nat → Int → List Int → Nat → Nat → Nat → Int → List Int → Int → Int → Bool → List Rw → Option R) (o : Nat) (ho : o < 2 ^ n.toNat) : ∀ (c k j : Nat) (vs : List Nat), j + c = L → vs.length = L → c < k → Lt n vs → ∃ ws, Elim vs i 0 o j c ws ∧ ∀ (y1 : Int) (y2 : Bool) (y3 : Nat) (y4 : Nat) (y5 : Bool) (y6 : Int) (y7 : Nat) (y8 : Int) (y9 : List Int) (y10 : Nat) (y11 : Int) (y12 : List Int) (y13 : Nat) (y14 : Nat) (y15 : Nat), EchF_l2 fuel n (i : Int) L m k0 k y1 y2 y3 y4 y5 y6 y7 y8 y9 y10 y11 y12 y13 y14 y15 n (words (nw n) o) (L : Int) (j : Int) (mrs n vs) = k0 y1 y2 y3 y4 y5 y6 y7 y8 y9 y10 y11 y12 y13 y14 y15 n (words (nw n) o) (L : Int) (L : Int) (decide ((L : Int) < (L : Int))) (mrs n ws)
  | 0, 0, j, vs, hj, hl, hk, hv => by omega
  | 0, k + 1, j, vs, hj, hl, hk, hv => by
    obtain rfl : j = L := by omega
    refine ⟨vs, ⟨rfl, fun t ht => by rw [if_neg (by omega)]⟩, fun y1 y2 y3 y4 y5 y6 y7 y8 y9 y10 y11 y12 y13 y14 y15 => ?_⟩
    unfold EchF_l2 EchF_s3
    rw [br_if, if_neg (by simp)]
  | c + 1, 0, j, vs, hj, hl, hk, hv => by omega
  | c + 1, k + 1, j, vs, hj, hl, hk, hv => by
    have hjl : j < vs.length := by omega
    have eb : below (j : Int) L = some j := by rw [below_of (by omega) (by omega)]; rfl
    have eg : (mrs n vs)[0 + j]? = some (mr n (vs.getD j 0)) := by rw [Nat.zero_add]; exact mrs_get hjl
    have hvj := hv j hjl
    have okw : ∀ v, okW (words (nw n) v) = true := fun v => okW_iff.2 (words_ok _ _)
    by_cases hjd : j = 0
    · obtain ⟨ws, ⟨hl2, hw⟩, he⟩ := Ech_in2 fuel n h0 h1 m i hi  L hL k0 o ho c k (j + 1) vs (by omega) hl (by omega) hv
      refine ⟨ws, ⟨hl2, fun t ht => ?_⟩, fun y1 y2 y3 y4 y5 y6 y7 y8 y9 y10 y11 y12 y13 y14 y15 => ?_⟩
      · rw [hw t ht]
        by_cases htj : t = j
        · rw [if_neg (by omega), if_neg (fun h => h.2.2.1 (by omega))]
        · by_cases hc : j ≤ t ∧ t < j + (c + 1) ∧ t ≠ 0 ∧ (vs.getD t 0).testBit i = true
          · rw [if_pos hc, if_pos ⟨by omega, by omega, hc.2.2⟩]
          · rw [if_neg hc, if_neg (fun h => hc ⟨by omega, by omega, h.2.2⟩)]
      · unfold EchF_l2 EchF_s3
        rw [br_if, if_pos (by simp; omega), bnd_of eb, bnd_of eg, br_if, if_neg (by simp [hjd]), wrap_i64 (by omega) (by omega), show (j : Int) + 1 = ((j + 1 : Nat) : Int) by omega]
        exact he y1 y2 y3 y4 y5 y6 y7 y8 y9 y10 y11 y12 y13 y14 y15
    · cases hx : (vs.getD j 0).testBit i with
      | false =>
        obtain ⟨ws, ⟨hl2, hw⟩, he⟩ := Ech_in2 fuel n h0 h1 m i hi  L hL k0 o ho c k (j + 1) vs (by omega) hl (by omega) hv
        refine ⟨ws, ⟨hl2, fun t ht => ?_⟩, fun y1 y2 y3 y4 y5 y6 y7 y8 y9 y10 y11 y12 y13 y14 y15 => ?_⟩
        · rw [hw t ht]
          by_cases htj : t = j
          · rw [if_neg (by omega), if_neg (fun h => by rw [htj, hx] at h; exact absurd h.2.2.2 (by decide))]
          · by_cases hc : j ≤ t ∧ t < j + (c + 1) ∧ t ≠ 0 ∧ (vs.getD t 0).testBit i = true
            · rw [if_pos hc, if_pos ⟨by omega, by omega, hc.2.2⟩]
            · rw [if_neg hc, if_neg (fun h => hc ⟨by omega, by omega, h.2.2⟩)]
        · unfold EchF_l2 EchF_s3
          rw [br_if, if_pos (by simp; omega), bnd_of eb, bnd_of eg, br_if, if_pos (by simp; omega), grd_of (show okW (mr n (vs.getD j 0)).2 = true from okw _), br_if, if_neg (by rw [show hasS (mr n (vs.getD j 0)).1 (mr n (vs.getD j 0)).2 (i : Int) = _ from has_mr h0 h1 hvj hi, hx]; decide), wrap_i64 (by omega) (by omega), show (j : Int) + 1 = ((j + 1 : Nat) : Int) by omega]
          exact he y1 y2 y3 y4 y5 y6 y7 y8 y9 y10 y11 y12 y13 y14 y15
      | true =>
        have hxl : vs.getD j 0 ^^^ o < 2 ^ n.toNat := Nat.xor_lt_two_pow hvj ho
        obtain ⟨ws, ⟨hl2, hw⟩, he⟩ := Ech_in2 fuel n h0 h1 m i hi  L hL k0 o ho c k (j + 1) (vs.set j (vs.getD j 0 ^^^ o)) (by omega) (by rw [List.length_set]; exact hl) (by omega) (fun t ht => by
          rw [List.length_set] at ht
          rw [set_getD _ _ ht]
          by_cases e : j = t
          · rw [if_pos e]; exact hxl
          · rw [if_neg e]; exact hv t ht)
        rw [List.length_set] at hl2 hw
        refine ⟨ws, ⟨hl2, fun t ht => ?_⟩, fun y1 y2 y3 y4 y5 y6 y7 y8 y9 y10 y11 y12 y13 y14 y15 => ?_⟩
        · rw [hw t ht, set_getD _ _ ht]
          by_cases htj : j = t
          · subst htj
            rw [if_pos rfl, if_neg (by omega), if_pos ⟨Nat.le_refl _, by omega, hjd, hx⟩]
          · rw [if_neg htj]
            by_cases hc : j ≤ t ∧ t < j + (c + 1) ∧ t ≠ 0 ∧ (vs.getD t 0).testBit i = true
            · rw [if_pos hc, if_pos ⟨by omega, by omega, hc.2.2⟩]
            · rw [if_neg hc, if_neg (fun h => hc ⟨by omega, by omega, h.2.2⟩)]
        · unfold EchF_l2 EchF_s3
          obtain ⟨x1, x2⟩ := xor_mr h0 h1 hvj ho
          have es : (mrs n vs).set (0 + j) (xorN (mr n (vs.getD j 0)).1 (mr n (vs.getD j 0)).2 n (words (nw n) o), xorW (mr n (vs.getD j 0)).1 (mr n (vs.getD j 0)).2 n (words (nw n) o)) = mrs n (vs.set j (vs.getD j 0 ^^^ o)) := by
            rw [Nat.zero_add, ← mrs_set]
            congr 1
            show (xorN n (words (nw n) (vs.getD j 0)) n (words (nw n) o), xorW n (words (nw n) (vs.getD j 0)) n (words (nw n) o)) = _
            rw [x1, x2]; rfl
          rw [br_if, if_pos (by simp; omega), bnd_of eb, bnd_of eg, br_if, if_pos (by simp; omega), grd_of (show okW (mr n (vs.getD j 0)).2 = true from okw _), br_if, if_pos ((show hasS (mr n (vs.getD j 0)).1 (mr n (vs.getD j 0)).2 (i : Int) = _ from has_mr h0 h1 hvj hi).trans hx), grd_of (by rw [okw o, show okW (mr n (vs.getD j 0)).2 = true from okw _]; rfl), bnd_of eb, bnd_of eg, wrap_i64 (by omega) (by omega), show (j : Int) + 1 = ((j + 1 : Nat) : Int) by omega, es]
          exact he y1 y2 y3 y4 y5 y6 y7 y8 y9 y10 y11 y12 y13 y14 y15
theorem Ech_in4 {R : Type} (fuel : Nat) (n : Int) (h0 : 0 ≤ n) (h1 : n ≤ 64) (m : List Rw) (i : Nat) (hi : (i : Int) < n) (d : Nat) (w1078 : Nat) (w1079 : List Int) (L : Nat) (hL : L ≤ 64) (k0 : Int → Bool → Nat → Nat → Bool → Int → Nat → Int → List Int → Nat → Int → List Int → Nat → Nat → Nat → Int → List Int → Int → Int → Bool → List Rw → Option R) (o : Nat) (ho : o < 2 ^ n.toNat) : ∀ (c k j : Nat) (vs : List Nat), j + c = L → vs.length = L → c < k → Lt n vs → ∃ ws, Elim vs i d o j c ws ∧ ∀ (y1 : Int) (y2 : Bool) (y3 : Nat) (y4 : Nat) (y5 : Bool) (y6 : Int) (y7 : Nat) (y8 : Int) (y9 : List Int) (y10 : Nat) (y11 : Int) (y12 : List Int) (y13 : Nat) (y14 : Nat) (y15 : Nat), EchF_l4 fuel n (i : Int) L (d : Int) m w1078 w1079 k0 k y1 y2 y3 y4 y5 y6 y7 y8 y9 y10 y11 y12 y13 y14 y15 n (words (nw n) o) (L : Int) (j : Int) (mrs n vs) = k0 y1 y2 y3 y4 y5 y6 y7 y8 y9 y10 y11 y12 y13 y14 y15 n (words (nw n) o) (L : Int) (L : Int) (decide ((L : Int) < (L : Int))) (mrs n ws)
  | 0, 0, j, vs, hj, hl, hk, hv => by omega
  | 0, k + 1, j, vs, hj, hl, hk, hv => by
    obtain rfl : j = L := by omega
    refine ⟨vs, ⟨rfl, fun t ht => by rw [if_neg (by omega)]⟩, fun y1 y2 y3 y4 y5 y6 y7 y8 y9 y10 y11 y12 y13 y14 y15 => ?_⟩
    unfold EchF_l4 EchF_s6
    rw [br_if, if_neg (by simp)]
  | c + 1, 0, j, vs, hj, hl, hk, hv => by omega
  | c + 1, k + 1, j, vs, hj, hl, hk, hv => by
    have hjl : j < vs.length := by omega
    have eb : below (j : Int) L = some j := by rw [below_of (by omega) (by omega)]; rfl
    have eg : (mrs n vs)[0 + j]? = some (mr n (vs.getD j 0)) := by rw [Nat.zero_add]; exact mrs_get hjl
    have hvj := hv j hjl
    have okw : ∀ v, okW (words (nw n) v) = true := fun v => okW_iff.2 (words_ok _ _)
    by_cases hjd : j = d
    · obtain ⟨ws, ⟨hl2, hw⟩, he⟩ := Ech_in4 fuel n h0 h1 m i hi d w1078 w1079 L hL k0 o ho c k (j + 1) vs (by omega) hl (by omega) hv
      refine ⟨ws, ⟨hl2, fun t ht => ?_⟩, fun y1 y2 y3 y4 y5 y6 y7 y8 y9 y10 y11 y12 y13 y14 y15 => ?_⟩
      · rw [hw t ht]
        by_cases htj : t = j
        · rw [if_neg (by omega), if_neg (fun h => h.2.2.1 (by omega))]
        · by_cases hc : j ≤ t ∧ t < j + (c + 1) ∧ t ≠ d ∧ (vs.getD t 0).testBit i = true
          · rw [if_pos hc, if_pos ⟨by omega, by omega, hc.2.2⟩]
          · rw [if_neg hc, if_neg (fun h => hc ⟨by omega, by omega, h.2.2⟩)]
      · unfold EchF_l4 EchF_s6
        rw [br_if, if_pos (by simp; omega), bnd_of eb, bnd_of eg, br_if, if_neg (by simp [hjd]), wrap_i64 (by omega) (by omega), show (j : Int) + 1 = ((j + 1 : Nat) : Int) by omega]
        exact he y1 y2 y3 y4 y5 y6 y7 y8 y9 y10 y11 y12 y13 y14 y15
    · cases hx : (vs.getD j 0).testBit i with
      | false =>
        obtain ⟨ws, ⟨hl2, hw⟩, he⟩ := Ech_in4 fuel n h0 h1 m i hi d w1078 w1079 L hL k0 o ho c k (j + 1) vs (by omega) hl (by omega) hv
        refine ⟨ws, ⟨hl2, fun t ht => ?_⟩, fun y1 y2 y3 y4 y5 y6 y7 y8 y9 y10 y11 y12 y13 y14 y15 => ?_⟩
        · rw [hw t ht]
          by_cases htj : t = j
          · rw [if_neg (by omega), if_neg (fun h => by rw [htj, hx] at h; exact absurd h.2.2.2 (by decide))]
          · by_cases hc : j ≤ t ∧ t < j + (c + 1) ∧ t ≠ d ∧ (vs.getD t 0).testBit i = true
            · rw [if_pos hc, if_pos ⟨by omega, by omega, hc.2.2⟩]
            · rw [if_neg hc, if_neg (fun h => hc ⟨by omega, by omega, h.2.2⟩)]
        · unfold EchF_l4 EchF_s6
          rw [br_if, if_pos (by simp; omega), bnd_of eb, bnd_of eg, br_if, if_pos (by simp; omega), grd_of (show okW (mr n (vs.getD j 0)).2 = true from okw _), br_if, if_neg (by rw [show hasS (mr n (vs.getD j 0)).1 (mr n (vs.getD j 0)).2 (i : Int) = _ from has_mr h0 h1 hvj hi, hx]; decide), wrap_i64 (by omega) (by omega), show (j : Int) + 1 = ((j + 1 : Nat) : Int) by omega]
          exact he y1 y2 y3 y4 y5 y6 y7 y8 y9 y10 y11 y12 y13 y14 y15
      | true =>
        have hxl : vs.getD j 0 ^^^ o < 2 ^ n.toNat := Nat.xor_lt_two_pow hvj ho
        obtain ⟨ws, ⟨hl2, hw⟩, he⟩ := Ech_in4 fuel n h0 h1 m i hi d w1078 w1079 L hL k0 o ho c k (j + 1) (vs.set j (vs.getD j 0 ^^^ o)) (by omega) (by rw [List.length_set]; exact hl) (by omega) (fun t ht => by
          rw [List.length_set] at ht
          rw [set_getD _ _ ht]
          by_cases e : j = t
          · rw [if_pos e]; exact hxl
          · rw [if_neg e]; exact hv t ht)
        rw [List.length_set] at hl2 hw
        refine ⟨ws, ⟨hl2, fun t ht => ?_⟩, fun y1 y2 y3 y4 y5 y6 y7 y8 y9 y10 y11 y12 y13 y14 y15 => ?_⟩
        · rw [hw t ht, set_getD _ _ ht]
          by_cases htj : j = t
          · subst htj
            rw [if_pos rfl, if_neg (by omega), if_pos ⟨Nat.le_refl _, by omega, hjd, hx⟩]
          · rw [if_neg htj]
            by_cases hc : j ≤ t ∧ t < j + (c + 1) ∧ t ≠ d ∧ (vs.getD t 0).testBit i = true
            · rw [if_pos hc, if_pos ⟨by omega, by omega, hc.2.2⟩]
            · rw [if_neg hc, if_neg (fun h => hc ⟨by omega, by omega, h.2.2⟩)]
        · unfold EchF_l4 EchF_s6
          obtain ⟨x1, x2⟩ := xor_mr h0 h1 hvj ho
          have es : (mrs n vs).set (0 + j) (xorN (mr n (vs.getD j 0)).1 (mr n (vs.getD j 0)).2 n (words (nw n) o), xorW (mr n (vs.getD j 0)).1 (mr n (vs.getD j 0)).2 n (words (nw n) o)) = mrs n (vs.set j (vs.getD j 0 ^^^ o)) := by
            rw [Nat.zero_add, ← mrs_set]
            congr 1
            show (xorN n (words (nw n) (vs.getD j 0)) n (words (nw n) o), xorW n (words (nw n) (vs.getD j 0)) n (words (nw n) o)) = _
            rw [x1, x2]; rfl
          rw [br_if, if_pos (by simp; omega), bnd_of eb, bnd_of eg, br_if, if_pos (by simp; omega), grd_of (show okW (mr n (vs.getD j 0)).2 = true from okw _), br_if, if_pos ((show hasS (mr n (vs.getD j 0)).1 (mr n (vs.getD j 0)).2 (i : Int) = _ from has_mr h0 h1 hvj hi).trans hx), grd_of (by rw [okw o, show okW (mr n (vs.getD j 0)).2 = true from okw _]; rfl), bnd_of eb, bnd_of eg, wrap_i64 (by omega) (by omega), show (j : Int) + 1 = ((j + 1 : Nat) : Int) by omega, es]
          exact he y1 y2 y3 y4 y5 y6 y7 y8 y9 y10 y11 y12 y13 y14 y15

theorem Ech_out {R : Type} (fuel : Nat) (hf : 64 < fuel) (n : Int) (h0 : 0 ≤ n) (h1 : n ≤ 64) (m : List Rw) (vs0 : List Nat) (hL : vs0.length ≤ 64) (k0 : Int → List Rw → Nat → List Int → Option R) : ∀ (c k i d : Nat) (vs qs : List Nat), i + c = n.toNat → c < k → Inv n.toNat vs0 i vs d qs →
    ∃ d' vs' qs', d ≤ d' ∧ Inv n.toNat vs0 n.toNat vs' d' qs' ∧ EchF_l3 fuel n m vs0.length k0 k (i : Int) (d : Int) (mrs n vs) (qs.map fun (q : Nat) => (q : Int)).length (qs.map fun (q : Nat) => (q : Int)) = k0 (d' : Int) (mrs n vs') (qs'.map fun (q : Nat) => (q : Int)).length (qs'.map fun (q : Nat) => (q : Int))
  | 0, 0, i, d, vs, qs, hi, hk, h => by omega
  | 0, k + 1, i, d, vs, qs, hi, hk, h => by
    obtain rfl : i = n.toNat := by omega
    refine ⟨d, vs, qs, Nat.le_refl _, h, ?_⟩
    unfold EchF_l3 EchF_s5
    rw [br_if, if_neg (by simp; omega)]
  | c + 1, 0, i, d, vs, qs, hi, hk, h => by omega
  | c + 1, k + 1, i, d, vs, qs, hi, hk, h => by
    have hin : (i : Int) < n := by omega
    have hall := h.all
    have hle := h.le
    have hv : Lt n vs := h.lt
    have hlen := h.len
    unfold EchF_l3 EchF_s5
    rw [br_if, if_pos (by simpa using hin), bnd_of (upTo_of (by omega) (by omega)), Int.toNat_natCast, Nat.zero_add, grd_of (by rw [mrs_ok, mrs_len]; simp; omega), br_if]
    rcases idx_mrs h0 h1 hv hin hle with ⟨e, hno⟩ | ⟨b, hb, e, hbit⟩
    · obtain ⟨d', vs', qs', g1, g2, g3⟩ := Ech_out fuel hf n h0 h1 m vs0 hL k0 c k (i + 1) d vs qs (by omega) (by omega) (h.skip hno)
      refine ⟨d', vs', qs', g1, g2, ?_⟩
      rw [e, if_pos (by decide), wrap_i64 (by omega) (by omega), show (i : Int) + 1 = ((i + 1 : Nat) : Int) by omega]
      exact g3
    · have hd : d < vs.length := by omega
      have e1 : below (IntKind.i64.wrap ((d : Int) + (b : Int))) vs0.length = some (d + b) := by rw [wrap_i64 (by omega) (by omega), below_of (by omega) (by omega)]; congr 1
      have e2 : below (d : Int) vs0.length = some d := by rw [below_of (by omega) (by omega)]; rfl
      have hso : (sw vs d (d + b)).getD d 0 = vs.getD (d + b) 0 := by
        rw [sw_get hd]
        by_cases e : d + b = d
        · rw [if_pos e, e]
        · rw [if_neg e, if_pos rfl]
      have hswl : Lt n (sw vs d (d + b)) := fun t ht => by
        rw [sw_len] at ht
        obtain ⟨c, hc, e, _⟩ := sw_from hd hb ht
        rw [e]; exact h.lt c hc
      have g1 : (mrs n vs)[0 + (d + b)]? = some (mr n (vs.getD (d + b) 0)) := by rw [Nat.zero_add]; exact mrs_get hb
      have g2 : (mrs n vs)[0 + d]? = some (mr n (vs.getD d 0)) := by rw [Nat.zero_add]; exact mrs_get hd
      have g3 : ((mrs n vs).set (0 + d) (mr n (vs.getD (d + b) 0)))[0 + (d + b)]? = some (mr n ((vs.set d (vs.getD (d + b) 0)).getD (d + b) 0)) := by
        rw [Nat.zero_add, Nat.zero_add, mrs_set]; exact mrs_get (by rw [List.length_set]; exact hb)
      have g4 : (((mrs n vs).set (0 + d) (mr n (vs.getD (d + b) 0))).set (0 + (d + b)) (mr n (vs.getD d 0)))[0 + d]? = some (mr n (vs.getD (d + b) 0)) := by
        rw [Nat.zero_add, Nat.zero_add, sw_mrs, mrs_get (by rw [sw_len]; exact hd), hso]
      obtain ⟨ws, hE, hin4⟩ := Ech_in4 (R := R) fuel n h0 h1 m i hin d (qs.map fun (q : Nat) => (q : Int)).length (qs.map fun (q : Nat) => (q : Int)) vs0.length hL
        (fun (x1393 : Int) (x1394 : Bool) (x1395 : Nat) (x1396 : Nat) (x1397 : Bool) (x1398 : Int) (x1399 : Nat) (x1400 : Int) (x1401 : List Int) (x1402 : Nat) (x1403 : Int) (x1404 : List Int) (x1405 : Nat) (x1406 : Nat) (x1407 : Nat) (x1408 : Int) (x1409 : List Int) (x1410 : Int) (x1411 : Int) (x1412 : Bool) (x1413 : List Rw) => (EchF_s7 (qs.map fun (q : Nat) => (q : Int)) (qs.map fun (q : Nat) => (q : Int)).length (i : Int) (d : Int) x1413 x1393 n x1394 vs0.length x1395 x1396 x1397 x1398 x1399 x1400 x1401 x1402 x1403 x1404 x1405 x1406 x1407 x1408 x1409 x1410 x1411 x1412 m (fun (a1414 : Int) (a1415 : Int) (a1416 : List Rw) (a1417 : Nat) (a1418 : List Int) => ( EchF_l3 fuel n m vs0.length k0 k a1414 a1415 a1416 a1417 a1418 ))))
        (vs.getD (d + b) 0) (h.lt _ hb) vs0.length fuel 0 (sw vs d (d + b)) (by omega) (by rw [sw_len]; omega) (by omega) hswl
      have hE' : Elim (sw vs d (d + b)) i d (vs.getD (d + b) 0) 0 vs.length ws := by rw [hall]; exact hE
      obtain ⟨d', vs', qs', f1, f2, f3⟩ := Ech_out fuel hf n h0 h1 m vs0 hL k0 c k (i + 1) (d + 1) ws (qs ++ [i]) (by omega) (by omega) (h.take (by omega) hb hbit hE')
      refine ⟨d', vs', qs', by omega, f2, ?_⟩
      rw [e, if_neg (by simp), bnd_of e1, bnd_of g1, bnd_of e2, bnd_of g2, bnd_of e2, bnd_of g2, bnd_of e1, bnd_of g3, bnd_of e2, bnd_of g4, Nat.zero_add, Nat.zero_add, sw_mrs]
      refine (hin4 _ _ _ _ _ _ _ _ _ _ _ _ _ _ _).trans ?_
      unfold EchF_s7
      rw [grd_of (beq_self _), grd_of (okN_of (by rw [List.length_map]; omega) (by rw [List.length_map]; omega)), wrap_i64 (x := (i : Int) + 1) (by omega) (by omega), wrap_i64 (x := (d : Int) + 1) (by omega) (by omega), show (i : Int) + 1 = ((i + 1 : Nat) : Int) by omega, show (d : Int) + 1 = ((d + 1 : Nat) : Int) by omega]
      rw [List.map_append] at f3
      exact f3
theorem Ech_fst {R : Type} (fuel : Nat) (hf : 64 < fuel) (n : Int) (h0 : 0 ≤ n) (h1 : n ≤ 64) (vs0 : List Nat) (hL : vs0.length ≤ 64) (k0 : Nat → Int → List Rw → Nat → List Int → Option R) (k1 : Nat → Option R) : ∀ (c k i : Nat), i + c = n.toNat → c + 1 < k → Inv n.toNat vs0 i vs0 0 [] →
    ∃ d' vs' qs', Inv n.toNat vs0 n.toNat vs' d' qs' ∧ EchF_l1 fuel n (mrs n vs0) k0 k1 k (i : Int) vs0.length = if d' = 0 then k1 vs0.length else k0 vs0.length (d' : Int) (mrs n vs') (qs'.map fun (q : Nat) => (q : Int)).length (qs'.map fun (q : Nat) => (q : Int))
  | 0, 0, i, hi, hk, h => by omega
  | 0, k + 1, i, hi, hk, h => by
    obtain rfl : i = n.toNat := by omega
    refine ⟨0, vs0, [], h, ?_⟩
    unfold EchF_l1 EchF_s2
    rw [br_if, if_neg (by simp; omega), if_pos rfl]
  | c + 1, 0, i, hi, hk, h => by omega
  | c + 1, k + 1, i, hi, hk, h => by
    have hin : (i : Int) < n := by omega
    have hv : Lt n vs0 := h.lt
    unfold EchF_l1 EchF_s2
    have hidx := idx_mrs h0 h1 hv hin (Nat.zero_le _)
    rw [List.drop_zero] at hidx
    rw [br_if, if_pos (by simpa using hin), bnd_of (upTo_of (by omega) (by omega)), Int.toNat_zero, Nat.add_zero, grd_of (by rw [mrs_ok, mrs_len]; simp; omega), br_if, List.drop_zero]
    rcases hidx with ⟨e, hno⟩ | ⟨b, hb, e, hbit⟩
    · obtain ⟨d', vs', qs', g2, g3⟩ := Ech_fst fuel hf n h0 h1 vs0 hL k0 k1 c k (i + 1) (by omega) (by omega) (h.skip hno)
      refine ⟨d', vs', qs', g2, ?_⟩
      rw [e, if_pos (by decide), wrap_i64 (by omega) (by omega), show (i : Int) + 1 = ((i + 1 : Nat) : Int) by omega]
      exact g3
    · rw [Nat.zero_add] at hb hbit
      have hd : 0 < vs0.length := by omega
      have e1 : below (IntKind.i64.wrap (0 + (b : Int))) vs0.length = some b := by rw [wrap_i64 (by omega) (by omega), below_of (by omega) (by omega)]; congr 1; omega
      have e2 : below 0 vs0.length = some 0 := by rw [below_of (by omega) (by omega)]; rfl
      have hso : (sw vs0 0 b).getD 0 0 = vs0.getD b 0 := by
        rw [sw_get hd]
        by_cases e : b = 0
        · rw [if_pos e, e]
        · rw [if_neg e, if_pos rfl]
      have hswl : Lt n (sw vs0 0 b) := fun t ht => by
        rw [sw_len] at ht
        obtain ⟨c, hc, e, _⟩ := sw_from hd hb ht
        rw [e]; exact h.lt c hc
      have g1 : (mrs n vs0)[0 + b]? = some (mr n (vs0.getD b 0)) := by rw [Nat.zero_add]; exact mrs_get hb
      have g2 : (mrs n vs0)[0 + 0]? = some (mr n (vs0.getD 0 0)) := mrs_get hd
      have g3 : ((mrs n vs0).set (0 + 0) (mr n (vs0.getD b 0)))[0 + b]? = some (mr n ((vs0.set 0 (vs0.getD b 0)).getD b 0)) := by
        rw [Nat.zero_add, Nat.zero_add, mrs_set]; exact mrs_get (by rw [List.length_set]; exact hb)
      have g4 : (((mrs n vs0).set (0 + 0) (mr n (vs0.getD b 0))).set (0 + b) (mr n (vs0.getD 0 0)))[0 + 0]? = some (mr n (vs0.getD b 0)) := by
        rw [Nat.zero_add, Nat.zero_add, sw_mrs, mrs_get (by rw [sw_len]; exact hd), hso]
      obtain ⟨ws, hE, hin2⟩ := Ech_in2 (R := R) fuel n h0 h1 (mrs n vs0) i hin vs0.length hL
        (fun (x932 : Int) (x933 : Bool) (x934 : Nat) (x935 : Nat) (x936 : Bool) (x937 : Int) (x938 : Nat) (x939 : Int) (x940 : List Int) (x941 : Nat) (x942 : Int) (x943 : List Int) (x944 : Nat) (x945 : Nat) (x946 : Nat) (x947 : Int) (x948 : List Int) (x949 : Int) (x950 : Int) (x951 : Bool) (x952 : List Rw) => (EchF_s4 (i : Int) x952 x932 n x933 vs0.length x934 x935 x936 x937 x938 x939 x940 x941 x942 x943 x944 x945 x946 x947 x948 x949 x950 x951 (mrs n vs0) (fun (a1423 : Int) (a1424 : Int) (a1425 : List Rw) (a1426 : Nat) (a1427 : List Int) => (EchF_l3 fuel n (mrs n vs0) vs0.length (fun (x1428 : Int) (x1429 : List Rw) (x1430 : Nat) (x1431 : List Int) => k0 vs0.length x1428 x1429 x1430 x1431) k a1423 a1424 a1425 a1426 a1427))))
        (vs0.getD b 0) (h.lt _ hb) vs0.length fuel 0 (sw vs0 0 b) (by omega) (sw_len _ _ _) (by omega) hswl
      obtain ⟨d', vs', qs', f1, f2, f3⟩ := Ech_out fuel hf n h0 h1 (mrs n vs0) vs0 hL (fun (x1428 : Int) (x1429 : List Rw) (x1430 : Nat) (x1431 : List Int) => k0 vs0.length x1428 x1429 x1430 x1431) c k (i + 1) 1 ws ([] ++ [i]) (by omega) (by omega) (h.take (Nat.zero_le _) hb hbit hE)
      refine ⟨d', vs', qs', f2, ?_⟩
      rw [e, if_neg (by simp), bnd_of e1, bnd_of g1, bnd_of e2, bnd_of g2, bnd_of e2, bnd_of g2, bnd_of e1, bnd_of g3, bnd_of e2, bnd_of g4, Nat.zero_add, Nat.zero_add, sw_mrs, if_neg (by omega)]
      refine (hin2 _ _ _ _ _ _ _ _ _ _ _ _ _ _ _).trans ?_
      unfold EchF_s4
      rw [wrap_i64 (x := (i : Int) + 1) (by omega) (by omega), show (i : Int) + 1 = ((i + 1 : Nat) : Int) by omega]
      exact f3
theorem Ech_fact (n : Int) (m : List (Int × List Int)) (hg : (okM m && decide (1 ≤ m.length) && decide (m.length ≤ 1000)) = true) : Fact Tryd.prog noG 74 [.agg [.s (.int .i64 n), .lt (.pair (.int .i64) (.sl (.int .u64))) m]] [] (.tup [.agg [.s (.int .i64 (echN n m)), .lt (.pair (.int .i64) (.sl (.int .u64))) ((echM n m) : List (Int × List Int))], .li .i64 (echP n m), .s (.int .i64 (if mrt n m = true then 0 else 1))], []) := by
  simp only [Bool.and_eq_true, decide_eq_true_eq] at hg
  obtain ⟨⟨hok, hl1⟩, hl2⟩ := hg
  by_cases hm : mrt n m = true
  · obtain ⟨⟨n0, n1⟩, hx, _⟩ := mrt_iff.1 hm
    obtain ⟨hv1, hv2, hv3⟩ := mrt_vals hok hm
    have eN : echN n m = n := by rw [echN_eq]; unfold echNI; rw [if_pos hm]
    have eM : echM n m = mrs n (Lin.rows (red (vals m))) := by rw [echM_eq]; unfold echMI; rw [if_pos hm]
    have eP : echP n m = pcast (red (vals m)) := by rw [echP_eq]; unfold echPI; rw [if_pos hm]
    rw [eN, eM, eP, if_pos hm]
    clear eN eM eP
    generalize vals m = vs0 at *
    obtain ⟨d, us, qs, hI, hw⟩ := Ech_fst (R := Out) 70 (by decide) n n0 n1 vs0 (by omega) (fun (x1435 : Nat) (x1436 : Int) (x1437 : List Rw) (x1438 : Nat) (x1439 : List Int) => (EchF_s8 x1436 x1435 n x1437 x1439 x1438 (mrs n vs0) (fun (a1441 : Int) (a1442 : List Rw) (a1443 : List Int) (a1444 : Int) => some (.tup [.agg [.s (.int .i64 a1441), .lt (.pair (.int .i64) (.sl (.int .u64))) a1442], .li .i64 a1443, .s (.int .i64 a1444)], [])))) (fun (x1445 : Nat) => (EchF_s9 x1445 n (mrs n vs0) (fun (a1447 : Int) (a1448 : List Rw) (a1449 : Int) => some (.tup [.agg [.s (.int .i64 a1447), .lt (.pair (.int .i64) (.sl (.int .u64))) a1448], .s (.slice none 0 0), .s (.int .i64 a1449)], [])))) n.toNat 70 0 (by omega) (by omega) (Inv.start hv2)
    obtain ⟨hr, hs, hp, hrow⟩ := hI.done
    have hle := hI.le
    have hall := hI.all
    have hlen := hI.len
    rw [red_eq ⟨hr, hs⟩]
    unfold pcast
    rw [hp, hrow]
    have hwalk : callN Tryd.prog mode16 T_cloneR 70 74 [.agg [.s (.int .i64 n), .lt (.pair (.int .i64) (.sl (.int .u64))) m]] [] = if d = 0 then some (.tup [.agg [.s (.int .i64 n), .lt (.pair (.int .i64) (.sl (.int .u64))) (mrs n (us.take d))], .s (.slice none 0 0), .s (.int .i64 0)], []) else some (.tup [.agg [.s (.int .i64 n), .lt (.pair (.int .i64) (.sl (.int .u64))) (mrs n (us.take d))], .li .i64 (qs.map fun (q : Nat) => (q : Int)), .s (.int .i64 0)], []) := by
      rw [EchF_eq]
      unfold EchF EchF_s1
      rw [grd_of hok, br_if, if_neg (by simp [hm]), grd_of (by simp; omega), ← hv3, hv1]
      refine hw.trans ?_
      by_cases hd : d = 0
      · subst hd
        rw [if_pos rfl, if_pos rfl]
        unfold EchF_s9
        rw [bnd_of (upTo_of (by omega) (by omega))]
        rfl
      · rw [if_neg hd, if_neg hd]
        unfold EchF_s8
        rw [bnd_of (upTo_of (by omega) (by omega)), Int.toNat_natCast, Nat.sub_zero, List.drop_zero, List.drop_zero, List.take_length]
        have : (mrs n us).take d = mrs n (us.take d) := by unfold mrs; rw [List.map_take]
        rw [this]
    by_cases hd : d = 0
    · rw [if_pos hd] at hwalk
      have hq : qs = [] := List.eq_nil_of_length_eq_zero (by omega)
      rw [hq]
      exact (callN_fact hN hM T_cloneR_ok hwalk).out fun _ _ _ x h => RV_tup_two (fun _ h => RVs_two (fun _ h => h) (fun _ h => RVs_two (fun _ h => RV_nil_li h) (fun _ h => h) h) h) h
    · rw [if_neg hd] at hwalk
      exact callN_fact hN hM T_cloneR_ok hwalk
  · have eN : echN n m = 0 := by rw [echN_eq]; unfold echNI; rw [if_neg hm]
    have eM : echM n m = [] := by rw [echM_eq]; unfold echMI; rw [if_neg hm]
    have eP : echP n m = [] := by rw [echP_eq]; unfold echPI; rw [if_neg hm]
    rw [eN, eM, eP, if_neg hm]
    refine Fact.out (v := .tup [.agg [.s (.int .i64 0), .s (.slice none 0 0)], .s (.slice none 0 0), .s (.int .i64 1)]) (bs' := []) ?_ (fun _ _ _ x h => RV_tup_two (fun _ h => RVs_two (fun _ h => RV_agg_two (fun _ h => RVs_two (fun _ h => h) (fun _ h => RVs_two (fun _ h => RV_nil_sl (s := .pair (.int .i64) (.sl (.int .u64))) h) (fun _ h => h) h) h) h) (fun _ h => RVs_two (fun _ h => RV_nil_li h) (fun _ h => h) h) h) h)
    refine callN_fact hN hM T_cloneR_ok (n := 0) (mode := mode16) ?_
    rw [EchF_eq]
    unfold EchF EchF_s1
    rw [grd_of hok, br_if, if_pos (by simp [hm])]
noncomputable def Ech_ent : List V → List Blk → Option (Bool × Out)
  | [.agg [.s (.int .i64 n), w0]], [] => (asSl (.pair (.int .i64) (.sl (.int .u64))) w0).bind fun m => some ((okM m && decide (1 ≤ m.length) && decide (m.length ≤ 1000)), (.tup [.agg [.s (.int .i64 (echN n m)), .lt (.pair (.int .i64) (.sl (.int .u64))) ((echM n m) : List (Int × List Int))], .li .i64 (echP n m), .s (.int .i64 (if mrt n m = true then 0 else 1))], []))
  | _, _ => none
theorem Ech_ok : ∀ args bs out, Ech_ent args bs = some (true, out) → Fact Tryd.prog noG 74 args bs out := by
  intro args bs out h
  unfold Ech_ent at h
  split at h
  · rename_i n w0
    obtain ⟨m, h_m, h⟩ := Option.bind_eq_some_iff.1 h
    simp only [Option.some.injEq, Prod.mk.injEq] at h
    obtain ⟨hg, rfl⟩ := h
    exact (Ech_fact n m hg).args (fun _ _ _ => fun _ h => RVs_two (fun _ h => RV_agg_two (fun _ h => RVs_two (fun _ h => h) (fun _ h => RVs_two (fun _ h => RV_sl (s := (.pair (.int .i64) (.sl (.int .u64)))) h_m h) (fun _ h => h) h) h) h) (fun _ h => h) h)
  · cases h
noncomputable def T_Ech : Tbl := Tbl.cons 74 Ech_ent T_cloneR
theorem T_Ech_ok : CallOk Tryd.prog noG T_Ech := cons_ok T_cloneR_ok Ech_ok
/-! slices.Clone[[]downpour/api.Row,downpour/api.Row] -/
theorem cloneZ_walk (a : Option Addr) (c : Nat) (w : World) : Calls Tryd.prog 122 #[.slice a 0 c] w fun e w' => ∃ v, e = .returned v ∧ Go.RowKit.Below w.heap.size w w' ∧ ∃ a c, v = .slice a 0 c := by
  go_enter Tryd.func122, Tryd.ntmps122
  cases a with
  | none =>
    have he : ∀ w : World, (binOp .eql 22 (.slice none 0 c) (.slice none 0 0)).run Tryd.prog w = .ok (.bool true) w := fun _ => rfl
    go_wp2
    go_ret
    exact ⟨_, rfl, Go.RowKit.Below.refl _ _, _, _, rfl⟩
  | some ad =>
    have he : ∀ w : World, (binOp .eql 22 (.slice (some ad) 0 c) (.slice none 0 0)).run Tryd.prog w = .ok (.bool false) w := fun _ => rfl
    go_wp2
    go_ret
    exact ⟨_, rfl, (Go.RowKit.Below.refl _ w).alloc (Nat.le_refl _) _, _, _, rfl⟩
theorem cloneZ_fact (r : List (Int × List Int)) (hg : (decide (r.length = 0)) = true) : Fact Tryd.prog noG 122 [.lt (.pair (.int .i64) (.sl (.int .u64))) r] [] (.lt (.pair (.int .i64) (.sl (.int .u64))) r, []) := by
  have hg := of_decide_eq_true hg
  have hr := List.eq_nil_of_length_eq_zero hg
  subst hr
  refine fact_below (Go.PM.enters_of (by kernel_rfl)) fun w ρ I xs hG hr => ?_
  simp only [RVs, RV] at hr
  obtain ⟨y, r, rfl, ⟨a, cap, ys, rfl, _, _, _⟩, rfl⟩ := hr
  refine (cloneZ_walk a cap w).mono fun e w' ⟨v, he, hb, a', c', hv⟩ => ⟨_, he, hb, ?_⟩
  subst hv
  simp only [RV]
  exact ⟨a', c', [], rfl, Nat.zero_le _, by simp only [PM.Rows], .inl rfl⟩
noncomputable def cloneZ_ent : List V → List Blk → Option (Bool × Out)
  | [w0], [] => (asSl (.pair (.int .i64) (.sl (.int .u64))) w0).bind fun r => some ((decide (r.length = 0)), (.lt (.pair (.int .i64) (.sl (.int .u64))) r, []))
  | _, _ => none
theorem cloneZ_ok : ∀ args bs out, cloneZ_ent args bs = some (true, out) → Fact Tryd.prog noG 122 args bs out := by
  intro args bs out h
  unfold cloneZ_ent at h
  split at h
  · rename_i w0
    obtain ⟨r, h_r, h⟩ := Option.bind_eq_some_iff.1 h
    simp only [Option.some.injEq, Prod.mk.injEq] at h
    obtain ⟨hg, rfl⟩ := h
    exact (cloneZ_fact r hg).args (fun _ _ _ => fun _ h => RVs_two (fun _ h => RV_sl (s := (.pair (.int .i64) (.sl (.int .u64)))) h_r h) (fun _ h => h) h)
  · cases h
noncomputable def T_cloneZ : Tbl := Tbl.cons 122 cloneZ_ent T_Ech
theorem T_cloneZ_ok : CallOk Tryd.prog noG T_cloneZ := cons_ok T_Ech_ok cloneZ_ok
/-! slices.IndexFunc[[]downpour/api.Row,downpour/api.Row] -/
noncomputable abbrev qc59 (i : Int) : List (Nat × Option Blk) := [(0, some ⟨3, .agg [vI i], true⟩)]
noncomputable abbrev qc60 (fuel : Nat) : Ctx Out := (fnX Tryd.prog mode16 T_cloneZ fuel 19 1)
noncomputable abbrev qc61 : Code := (bodyOf Tryd.prog 155)
noncomputable def idxZF_s2 {R : Type} (w3 w4 : Int) (r : List (Int × List Int)) (i : Int) (c0 : Int → Option R) (c1 : Int → Int → Option R) (c2 : Option R) : Option R :=
  br (decide (w3 < w4))
    (bnd (ix r w3) fun e7 =>
    grd (okW e7.2) <|
    br (hasS e7.1 e7.2 i)
      (c0 w3)
      (c1 w4 (IntKind.i64.wrap (w3 + 1))))
    (c2)
theorem idxZF_s2_eq (fuel k : Nat) (K : Ex → St → Option Out) (w3 w4 : Int) (r : List (Int × List Int)) (i : Int) : lpN (sub qc61 [1, 0, 1, 0, 0]) (qc60 fuel) 16 [0, 1, 4, 7, 8] (k + 1) ⟨[(0, vR r), (1, .fn (.func 159) [] [.ptr 0 1 0 0]), (4, vI 0), (7, vI w4), (8, vI w3)], (qc59 i), 1, none⟩ K = idxZF_s2 w3 w4 r i (fun a8 => K .ret ⟨[(4, vI a8)], (qc59 i), 1, none⟩) (fun a9 a0 => lpN (sub qc61 [1, 0, 1, 0, 0]) (qc60 fuel) 16 [0, 1, 4, 7, 8] k ⟨[(0, vR r), (1, .fn (.func 159) [] [.ptr 0 1 0 0]), (4, vI 0), (7, vI a9), (8, vI a0)], (qc59 i), 1, none⟩ K) (K (.exit 0) ⟨[(4, vI 0)], (qc59 i), 1, none⟩) := by kernel_rfl
noncomputable def idxZF_l1 {R : Type} (fuel : Nat) (r : List (Int × List Int)) (i : Int) (k0 : Int → Option R) (k1 : Option R) : Nat → Int → Int → Option R
  | 0, _, _ => none
  | k + 1, w4, w3 =>
    (idxZF_s2 w3 w4 r i (fun a8 => k0 a8) (fun a9 a0 => ( idxZF_l1 fuel r i k0 k1 k a9 a0 )) (k1))
theorem idxZF_l1_eq (fuel : Nat) (r : List (Int × List Int)) (i : Int) (K : Ex → St → Option Out) : ∀ (k : Nat) (w4 w3 : Int), lpN (sub qc61 [1, 0, 1, 0, 0]) (qc60 fuel) 16 [0, 1, 4, 7, 8] k ⟨[(0, vR r), (1, .fn (.func 159) [] [.ptr 0 1 0 0]), (4, vI 0), (7, vI w4), (8, vI w3)], (qc59 i), 1, none⟩ K = idxZF_l1 fuel r i (fun y6 => K .ret ⟨[(4, vI y6)], (qc59 i), 1, none⟩) (K (.exit 0) ⟨[(4, vI 0)], (qc59 i), 1, none⟩) k w4 w3
  | 0, _, _ => rfl
  | k + 1, w4, w3 => by
    unfold idxZF_l1
    exact (idxZF_s2_eq fuel k K w3 w4 r i).trans (congr (congr (congr (Eq.refl (idxZF_s2 (R := Out) w3 w4 r i)) (rfl)) (funext fun a9 => funext fun a0 => idxZF_l1_eq fuel r i K k a9 a0)) (rfl))
noncomputable def idxZF_s3 {R : Type} (x0 i : Int) (c0 : Int → Int → Option R) : Option R :=
  c0 x0 i
theorem idxZF_s3_eq (fuel : Nat)  (x0 i : Int) : (kont (qc60 fuel) qc61 [1, 0, 1, 0] 16 (endK Tryd.prog 2 1 155)) .ret ⟨[(4, vI x0)], (qc59 i), 1, none⟩ = idxZF_s3 x0 i (fun a0 a1 => some (vI a0, [some ⟨3, .agg [vI a1], true⟩])) := by kernel_rfl
noncomputable def idxZF_s4 {R : Type} (i : Int) (c0 : Int → Int → Option R) : Option R :=
  c0 (-1) i
theorem idxZF_s4_eq (fuel : Nat)  (i : Int) : (kont (qc60 fuel) qc61 [1, 0, 1, 0] 16 (endK Tryd.prog 2 1 155)) (.exit 0) ⟨[(4, vI 0)], (qc59 i), 1, none⟩ = idxZF_s4 i (fun a0 a1 => some (vI a0, [some ⟨3, .agg [vI a1], true⟩])) := by kernel_rfl
noncomputable def idxZF_s1 {R : Type} (r : List (Int × List Int)) (i : Int) (c0 : Int → Int → Option R) : Option R :=
  c0 ((r.length : Nat) : Int) 0
theorem idxZF_s1_eq (fuel : Nat)  (r : List (Int × List Int)) (i : Int) : callN Tryd.prog mode16 T_cloneZ fuel 155 [vR r, .fn (.func 159) [] [.ptr 0 1 0 0]] [⟨3, .agg [vI i], true⟩] = idxZF_s1 r i (fun a0 a1 => lpN (sub qc61 [1, 0, 1, 0, 0]) (qc60 fuel) 16 [0, 1, 4, 7, 8] fuel ⟨[(0, vR r), (1, .fn (.func 159) [] [.ptr 0 1 0 0]), (4, vI 0), (7, vI a0), (8, vI a1)], (qc59 i), 1, none⟩ (kont (qc60 fuel) qc61 [1, 0, 1, 0] 16 (endK Tryd.prog 2 1 155))) := by kernel_rfl
noncomputable def idxZF {R : Type} (fuel : Nat) (r : List (Int × List Int)) (i : Int) (r0 : Int → Int → Option R) : Option R :=
  (idxZF_s1 r i (fun a0 a1 => (idxZF_l1 fuel r i (fun x0 => (idxZF_s3 x0 i (fun a2 a3 => r0 a2 a3))) ((idxZF_s4 i (fun a4 a5 => r0 a4 a5))) fuel a0 a1)))
theorem idxZF_eq (fuel : Nat) (r : List (Int × List Int)) (i : Int) : callN Tryd.prog mode16 T_cloneZ fuel 155 [.lt (.pair (.int .i64) (.sl (.int .u64))) r, .fn (.func 159) [] [.ptr 0 1 0 0]] [⟨3, .agg [.s (.int .i64 i)], true⟩] = idxZF fuel r i (fun z0 z1 => some (.s (.int .i64 z0), [some ⟨3, .agg [.s (.int .i64 z1)], true⟩])) := by
  unfold idxZF
  exact (idxZF_s1_eq fuel  r i).trans (congr (Eq.refl (idxZF_s1 (R := Out) r i)) (funext fun a0 => funext fun a1 => (idxZF_l1_eq fuel r i (kont (qc60 fuel) qc61 [1, 0, 1, 0] 16 (endK Tryd.prog 2 1 155)) fuel a0 a1).trans (congrFun (congrFun (congrFun (congr (congr (Eq.refl (idxZF_l1 (R := Out) fuel r i)) (funext fun x0 => (idxZF_s3_eq fuel  x0 i))) ((idxZF_s4_eq fuel  i))) fuel) a0) a1)))
theorem idxZ_fact (r : List (Int × List Int)) (i : Int) (hg : (decide (r.length = 0)) = true) : Fact Tryd.prog noG 155 [.lt (.pair (.int .i64) (.sl (.int .u64))) r, .fn (.func 159) [] [.ptr 0 1 0 0]] [⟨3, .agg [.s (.int .i64 i)], true⟩] (.s (.int .i64 (-1)), [some ⟨3, .agg [.s (.int .i64 i)], true⟩]) := by
  have hg := of_decide_eq_true hg
  have hr := List.eq_nil_of_length_eq_zero hg
  subst hr
  refine callN_fact hN hM T_cloneZ_ok (n := 1) (mode := mode16) ?_
  rw [idxZF_eq]
  rfl
noncomputable def idxZ_ent : List V → List Blk → Option (Bool × Out)
  | [w0, .fn (.func 159) [] [.ptr 0 1 0 0]], [⟨3, .agg [.s (.int .i64 i)], true⟩] => (asSl (.pair (.int .i64) (.sl (.int .u64))) w0).bind fun r => some ((decide (r.length = 0)), (.s (.int .i64 (-1)), [some ⟨3, .agg [.s (.int .i64 i)], true⟩]))
  | _, _ => none
theorem idxZ_ok : ∀ args bs out, idxZ_ent args bs = some (true, out) → Fact Tryd.prog noG 155 args bs out := by
  intro args bs out h
  unfold idxZ_ent at h
  split at h
  · rename_i w0 i
    obtain ⟨r, h_r, h⟩ := Option.bind_eq_some_iff.1 h
    simp only [Option.some.injEq, Prod.mk.injEq] at h
    obtain ⟨hg, rfl⟩ := h
    exact (idxZ_fact r i hg).args (fun _ _ _ => fun _ h => RVs_two (fun _ h => RV_sl (s := (.pair (.int .i64) (.sl (.int .u64)))) h_r h) (fun _ h => h) h)
  · cases h
noncomputable def T_idxZ : Tbl := Tbl.cons 155 idxZ_ent T_cloneZ
theorem T_idxZ_ok : CallOk Tryd.prog noG T_idxZ := cons_ok T_cloneZ_ok idxZ_ok
/-! downpour/reduce.Echelon -/
noncomputable abbrev qc62 : List (Nat × V) := [(1, .ptr 0 2 0 0), (2, .ptr 1 2 0 0), (3, vN), (4, vI 0), (5, .ptr 2 3 0 0), (6, .ptr 3 1 0 0), (20, .fn (.func 123) [.ptr 2 3 0 0] [])]
noncomputable abbrev qc63 (n : Int) (m : List (Int × List Int)) : List (Nat × Option Blk) := [(0, some ⟨24, .agg [vI n, vR m], true⟩), (1, some ⟨24, .agg [vI 0, vN], true⟩), (2, some ⟨169, .agg [vI n, vR m, vI 0], true⟩), (3, some ⟨26, .agg [vN], true⟩), (4, none)]
noncomputable abbrev qc64 : Code := (sub (bodyOf Tryd.prog 74) [1, 1, 1, 1, 0, 1, 0, 0])
noncomputable abbrev qc65 : Code := (sub (bodyOf Tryd.prog 74) [1, 1, 1, 1, 0, 1, 0, 1])
noncomputable abbrev qc66 (n : Int) (m : List (Int × List Int)) : List (Nat × Option Blk) := [(0, some ⟨24, .agg [vI n, vR m], true⟩), (1, some ⟨24, .agg [vI 0, vN], true⟩), (2, some ⟨169, .agg [vI n, vR m, vI 0], true⟩), (3, some ⟨26, .agg [vN], true⟩)]
noncomputable abbrev qc67 (fuel : Nat) : Ctx Out := (fnX Tryd.prog mode16 T_idxZ fuel 39 0)
noncomputable def EchZF_s2 {R : Type} (w4 n : Int) (m : List (Int × List Int)) (c0 : Int → Option R) (c1 : Option R) : Option R :=
  br (decide (w4 < n))
    (bnd (upTo 0 m.length) fun j6 =>
    grd (decide (((m.drop j6).take (m.length - j6)).length = 0)) <|
    c0 (IntKind.i64.wrap (w4 + 1)))
    (c1)
theorem EchZF_s2_eq (fuel k : Nat) (K : Ex → St → Option Out) (w4 n : Int) (m : List (Int × List Int)) : lpN (sub (bodyOf Tryd.prog 123) [1, 0, 0]) (itX Tryd.prog mode16 T_idxZ fuel 3 127 5 4 (roundK (evC qc64) (evC qc65) (qc67 fuel) #[21] 62914752 qc62)) 0 [0, 1, 12, 13] (k + 1) ⟨[(0, .ptr 2 3 0 0), (1, .yl 4), (12, vI n), (13, vI w4)], (qc63 n m), 5, none⟩ K = EchZF_s2 w4 n m (fun a7 => lpN (sub (bodyOf Tryd.prog 123) [1, 0, 0]) (itX Tryd.prog mode16 T_idxZ fuel 3 127 5 4 (roundK (evC qc64) (evC qc65) (qc67 fuel) #[21] 62914752 qc62)) 0 [0, 1, 12, 13] k ⟨[(0, .ptr 2 3 0 0), (1, .yl 4), (12, vI n), (13, vI a7)], (qc63 n m), 5, none⟩ K) (K (.exit 0) ⟨[], (qc63 n m), 5, none⟩) := by kernel_rfl
noncomputable def EchZF_l1 {R : Type} (fuel : Nat) (n : Int) (m : List (Int × List Int)) (k0 : Option R) : Nat → Int → Option R
  | 0, _ => none
  | k + 1, w4 =>
    (EchZF_s2 w4 n m (fun a7 => ( EchZF_l1 fuel n m k0 k a7 )) (k0))
theorem EchZF_l1_eq (fuel : Nat) (n : Int) (m : List (Int × List Int)) (K : Ex → St → Option Out) : ∀ (k : Nat) (w4 : Int), lpN (sub (bodyOf Tryd.prog 123) [1, 0, 0]) (itX Tryd.prog mode16 T_idxZ fuel 3 127 5 4 (roundK (evC qc64) (evC qc65) (qc67 fuel) #[21] 62914752 qc62)) 0 [0, 1, 12, 13] k ⟨[(0, .ptr 2 3 0 0), (1, .yl 4), (12, vI n), (13, vI w4)], (qc63 n m), 5, none⟩ K = EchZF_l1 fuel n m (K (.exit 0) ⟨[], (qc63 n m), 5, none⟩) k w4
  | 0, _ => rfl
  | k + 1, w4 => by
    unfold EchZF_l1
    exact (EchZF_s2_eq fuel k K w4 n m).trans (congr (congr (Eq.refl (EchZF_s2 (R := Out) w4 n m)) (funext fun a7 => EchZF_l1_eq fuel n m K k a7)) (rfl))
noncomputable def EchZF_s3 {R : Type} (m : List (Int × List Int)) (n : Int) (c0 : Int → (List (Int × List Int)) → Int → Option R) : Option R :=
  bnd (upTo 0 m.length) fun j9 =>
  c0 n ((m.drop 0).take (j9 - 0)) 0
theorem EchZF_s3_eq (fuel : Nat)  (m : List (Int × List Int)) (n : Int) : (kont (itX Tryd.prog mode16 T_idxZ fuel 3 127 5 4 (roundK (evC qc64) (evC qc65) (qc67 fuel) #[21] 62914752 qc62)) (bodyOf Tryd.prog 123) [1, 0] 0 (itE (behind ⟨qc62, (qc66 n m), 4, none⟩ (kont (qc67 fuel) (bodyOf Tryd.prog 74) [1, 1, 1, 1, 0, 1, 0] 28 (endK Tryd.prog 0 0 74))))) (.exit 0) ⟨[], (qc63 n m), 5, none⟩ = EchZF_s3 m n (fun a0 a1 a2 => some (.tup [.agg [vI a0, vR a1], vN, vI a2], [])) := by kernel_rfl
noncomputable def EchZF_s1 {R : Type} (m : List (Int × List Int)) (n : Int) (c0 : Int → Int → Option R) (c1 : Int → Option R) : Option R :=
  grd (okM m) <|
  br (!(mrt n m))
    (c0 0 1)
    (grd (decide (m.length = 0)) <|
    c1 0)
theorem EchZF_s1_eq (fuel : Nat)  (m : List (Int × List Int)) (n : Int) : callN Tryd.prog mode16 T_idxZ fuel 74 [.agg [vI n, vR m]] [] = EchZF_s1 m n (fun a1 a2 => some (.tup [.agg [vI a1, vN], vN, vI a2], [])) (fun a8 => lpN (sub (bodyOf Tryd.prog 123) [1, 0, 0]) (itX Tryd.prog mode16 T_idxZ fuel 3 127 5 4 (roundK (evC qc64) (evC qc65) (qc67 fuel) #[21] 62914752 qc62)) 0 [0, 1, 12, 13] fuel ⟨[(0, .ptr 2 3 0 0), (1, .yl 4), (12, vI n), (13, vI a8)], (qc63 n m), 5, none⟩ (kont (itX Tryd.prog mode16 T_idxZ fuel 3 127 5 4 (roundK (evC qc64) (evC qc65) (qc67 fuel) #[21] 62914752 qc62)) (bodyOf Tryd.prog 123) [1, 0] 0 (itE (behind ⟨qc62, (qc66 n m), 4, none⟩ (kont (qc67 fuel) (bodyOf Tryd.prog 74) [1, 1, 1, 1, 0, 1, 0] 28 (endK Tryd.prog 0 0 74)))))) := by kernel_rfl
noncomputable def EchZF {R : Type} (fuel : Nat) (n : Int) (m : List (Int × List Int)) (r0 : Int → Int → Option R) (r1 : Int → (List (Int × List Int)) → Int → Option R) : Option R :=
  (EchZF_s1 m n (fun a1 a2 => r0 a1 a2) (fun a8 => (EchZF_l1 fuel n m ((EchZF_s3 m n (fun a0 a3 a4 => r1 a0 a3 a4))) fuel a8)))
theorem EchZF_eq (fuel : Nat) (n : Int) (m : List (Int × List Int)) : callN Tryd.prog mode16 T_idxZ fuel 74 [.agg [.s (.int .i64 n), .lt (.pair (.int .i64) (.sl (.int .u64))) m]] [] = EchZF fuel n m (fun z0 z1 => some (.tup [.agg [.s (.int .i64 z0), .s (.slice none 0 0)], .s (.slice none 0 0), .s (.int .i64 z1)], [])) (fun z0 z1 z2 => some (.tup [.agg [.s (.int .i64 z0), .lt (.pair (.int .i64) (.sl (.int .u64))) z1], .s (.slice none 0 0), .s (.int .i64 z2)], [])) := by
  unfold EchZF
  exact (EchZF_s1_eq fuel  m n).trans (congr (congr (Eq.refl (EchZF_s1 (R := Out) m n)) (rfl)) (funext fun a8 => (EchZF_l1_eq fuel n m (kont (itX Tryd.prog mode16 T_idxZ fuel 3 127 5 4 (roundK (evC qc64) (evC qc65) (qc67 fuel) #[21] 62914752 qc62)) (bodyOf Tryd.prog 123) [1, 0] 0 (itE (behind ⟨qc62, (qc66 n m), 4, none⟩ (kont (qc67 fuel) (bodyOf Tryd.prog 74) [1, 1, 1, 1, 0, 1, 0] 28 (endK Tryd.prog 0 0 74))))) fuel a8).trans (congrFun (congrFun (congr (Eq.refl (EchZF_l1 (R := Out) fuel n m)) ((EchZF_s3_eq fuel  m n))) fuel) a8)))
theorem EchZ_loop {R : Type} (fuel : Nat) (n : Int) (h1 : n ≤ 64) (k1 : Option R) : ∀ (k i : Nat), (i : Int) ≤ n → n < (i : Int) + (k : Int) → EchZF_l1 fuel n [] k1 k (i : Int) = k1
  | 0, i, ha, hb => by omega
  | k + 1, i, ha, hb => by
    unfold EchZF_l1 EchZF_s2
    rw [br_if]
    by_cases hc : (i : Int) < n
    · have eu : upTo 0 ([] : List (Int × List Int)).length = some 0 := rfl
      rw [if_pos (by simpa using hc), bnd_of eu, grd_of (by rfl), wrap_i64 (by omega) (by omega), show (i : Int) + 1 = ((i + 1 : Nat) : Int) by omega]
      exact EchZ_loop fuel n h1 k1 k (i + 1) (by omega) (by omega)
    · rw [if_neg (by simpa using hc)]
theorem EchZ_fact (n : Int) (m : List (Int × List Int)) (hg : (okM m && decide (m.length = 0)) = true) : Fact Tryd.prog noG 74 [.agg [.s (.int .i64 n), .lt (.pair (.int .i64) (.sl (.int .u64))) m]] [] (.tup [.agg [.s (.int .i64 (echN n m)), .lt (.pair (.int .i64) (.sl (.int .u64))) ((echM n m) : List (Int × List Int))], .li .i64 (echP n m), .s (.int .i64 (if mrt n m = true then 0 else 1))], []) := by
  rw [Bool.and_eq_true] at hg
  obtain ⟨hok, hg⟩ := hg
  have hg := of_decide_eq_true hg
  have hr := List.eq_nil_of_length_eq_zero hg
  subst hr
  obtain ⟨e1, e2, e3⟩ := ech_nil n
  rw [e1, e2]
  by_cases hm : mrt n [] = true
  · obtain ⟨n0, n1⟩ := e3 hm
    have eN : echN n [] = n := by rw [echN_eq]; unfold echNI; rw [if_pos hm]
    rw [if_pos hm, eN]
    refine Fact.out (v := .tup [.agg [.s (.int .i64 n), .lt (.pair (.int .i64) (.sl (.int .u64))) ([] : List (Int × List Int))], .s (.slice none 0 0), .s (.int .i64 0)]) (bs' := []) ?_ (fun _ _ _ x h => RV_tup_two (fun _ h => RVs_two (fun _ h => h) (fun _ h => RVs_two (fun _ h => RV_nil_li h) (fun _ h => h) h) h) h)
    refine callN_fact hN hM T_idxZ_ok (n := 70) (mode := mode16) ?_
    rw [EchZF_eq]
    unfold EchZF EchZF_s1
    rw [grd_of hok, br_if, if_neg (by simp [hm]), grd_of (by rfl)]
    dsimp only
    have := fun k1 => EchZ_loop (R := Out) 70 n n1 k1 70 0 (by omega) (by omega)
    rw [show ((0 : Nat) : Int) = 0 from rfl] at this
    rw [this]
    rfl
  · have eN : echN n [] = 0 := by rw [echN_eq]; unfold echNI; rw [if_neg hm]
    rw [if_neg hm, eN]
    refine Fact.out (v := .tup [.agg [.s (.int .i64 0), .s (.slice none 0 0)], .s (.slice none 0 0), .s (.int .i64 1)]) (bs' := []) ?_ (fun _ _ _ x h => RV_tup_two (fun _ h => RVs_two (fun _ h => RV_agg_two (fun _ h => RVs_two (fun _ h => h) (fun _ h => RVs_two (fun _ h => RV_nil_sl (s := .pair (.int .i64) (.sl (.int .u64))) h) (fun _ h => h) h) h) h) (fun _ h => RVs_two (fun _ h => RV_nil_li h) (fun _ h => h) h) h) h)
    refine callN_fact hN hM T_idxZ_ok (n := 0) (mode := mode16) ?_
    rw [EchZF_eq]
    unfold EchZF EchZF_s1
    rw [grd_of hok, br_if, if_pos (by simp [hm])]
noncomputable def EchZ_ent : List V → List Blk → Option (Bool × Out)
  | [.agg [.s (.int .i64 n), w0]], [] => (asSl (.pair (.int .i64) (.sl (.int .u64))) w0).bind fun m => some ((okM m && decide (m.length = 0)), (.tup [.agg [.s (.int .i64 (echN n m)), .lt (.pair (.int .i64) (.sl (.int .u64))) ((echM n m) : List (Int × List Int))], .li .i64 (echP n m), .s (.int .i64 (if mrt n m = true then 0 else 1))], []))
  | _, _ => none
theorem EchZ_ok : ∀ args bs out, EchZ_ent args bs = some (true, out) → Fact Tryd.prog noG 74 args bs out := by
  intro args bs out h
  unfold EchZ_ent at h
  split at h
  · rename_i n w0
    obtain ⟨m, h_m, h⟩ := Option.bind_eq_some_iff.1 h
    simp only [Option.some.injEq, Prod.mk.injEq] at h
    obtain ⟨hg, rfl⟩ := h
    exact (EchZ_fact n m hg).args (fun _ _ _ => fun _ h => RVs_two (fun _ h => RV_agg_two (fun _ h => RVs_two (fun _ h => h) (fun _ h => RVs_two (fun _ h => RV_sl (s := (.pair (.int .i64) (.sl (.int .u64)))) h_m h) (fun _ h => h) h) h) h) (fun _ h => h) h)
  · cases h
noncomputable def T_EchZ : Tbl := Tbl.cons 74 EchZ_ent T_idxZ
theorem T_EchZ_ok : CallOk Tryd.prog noG T_EchZ := cons_ok T_idxZ_ok EchZ_ok
def mode17 : FuncId → Nat := fun f => 0
/-! downpour/reduce.Echelon -/
theorem EchA_fact (n : Int) (m : List (Int × List Int)) (hg : (okM m && decide (m.length ≤ 1000)) = true) : Fact Tryd.prog noG 74 [.agg [.s (.int .i64 n), .lt (.pair (.int .i64) (.sl (.int .u64))) m]] [] (.tup [.agg [.s (.int .i64 (echN n m)), .lt (.pair (.int .i64) (.sl (.int .u64))) ((echM n m) : List (Int × List Int))], .li .i64 (echP n m), .s (.int .i64 (if mrt n m = true then 0 else 1))], []) := by
  simp only [Bool.and_eq_true, decide_eq_true_eq] at hg
  obtain ⟨hok, hl⟩ := hg
  by_cases h : m.length = 0
  · exact EchZ_fact n m (by rw [hok, decide_eq_true h]; rfl)
  · exact Ech_fact n m (by rw [hok]; simp; omega)
noncomputable def EchA_ent : List V → List Blk → Option (Bool × Out)
  | [.agg [.s (.int .i64 n), w0]], [] => (asSl (.pair (.int .i64) (.sl (.int .u64))) w0).bind fun m => some ((okM m && decide (m.length ≤ 1000)), (.tup [.agg [.s (.int .i64 (echN n m)), .lt (.pair (.int .i64) (.sl (.int .u64))) ((echM n m) : List (Int × List Int))], .li .i64 (echP n m), .s (.int .i64 (if mrt n m = true then 0 else 1))], []))
  | _, _ => none
theorem EchA_ok : ∀ args bs out, EchA_ent args bs = some (true, out) → Fact Tryd.prog noG 74 args bs out := by
  intro args bs out h
  unfold EchA_ent at h
  split at h
  · rename_i n w0
    obtain ⟨m, h_m, h⟩ := Option.bind_eq_some_iff.1 h
    simp only [Option.some.injEq, Prod.mk.injEq] at h
    obtain ⟨hg, rfl⟩ := h
    exact (EchA_fact n m hg).args (fun _ _ _ => fun _ h => RVs_two (fun _ h => RV_agg_two (fun _ h => RVs_two (fun _ h => h) (fun _ h => RVs_two (fun _ h => RV_sl (s := (.pair (.int .i64) (.sl (.int .u64)))) h_m h) (fun _ h => h) h) h) h) (fun _ h => h) h)
  · cases h
noncomputable def T_EchA : Tbl := Tbl.cons 74 EchA_ent T_EchZ
theorem T_EchA_ok : CallOk Tryd.prog noG T_EchA := cons_ok T_EchZ_ok EchA_ok
end Go.Proofs.YtfpdcfgjhkiklaaDoor
