/- Rows, their places: what each function tells. -/
import Derived.Test.YtfpdcfgjhkiklaaDoorPmTab
import Derived.KernelRfl
import Derived.Test.YtfpdcfgjhkiklaaDoorProg
import Derived.Test.YtfpdcfgjhkiklaaDoorPmPut
import Derived.Test.YtfpdcfgjhkiklaaDoorPlBit
import Derived.Test.YtfpdcfgjhkiklaaDoorPlAug
import Derived.Test.YtfpdcfgjhkiklaaDoorPlPop
import Derived.Shelf.Spec.TrailingZeros
set_option autoImplicit false
set_option maxRecDepth 100000
set_option maxHeartbeats 4000000
set_option linter.unusedVariables false
set_option linter.unusedSimpArgs false
namespace Go.Proofs.YtfpdcfgjhkiklaaDoor
open Go Go.PM Go.Proofs Go.Shelf Go.PM.Row Go.PM.Bits Go.PM.Bit Go.PM.Blk Go.PM.Lin
abbrev vN : V := .s (.slice none 0 0)
abbrev vI (x : Int) : V := .s (.int .i64 x)
abbrev vU (x : Int) : V := .s (.int .u64 x)
abbrev vB (x : Bool) : V := .s (.bool x)
abbrev vS (x : ByteArray) : V := .s (.string x)
abbrev vL (l : List Int) : V := .li .i64 l
abbrev vW (l : List Int) : V := .li .u64 l
abbrev bL (t : Nat) (l : List Int) : Option Blk := some ⟨t, .li .i64 l, true⟩
abbrev vR (m : List (Int × List Int)) : V := .lt (.pair (.int .i64) (.sl (.int .u64))) m
def noG : Glob := fun _ => none
theorem hN : namesOk Tryd.prog = true := by kernel_rfl
theorem hM : Tryd.prog.follows .mixedOrders = true := by kernel_rfl
def mode1 : FuncId → Nat := fun f => bif Nat.beq f 161 then 2 else 0
/-! downpour/bitrow.sized -/
noncomputable def rsizedF_s1 {R : Type} (n : Int) (c0 : Bool → Option R) : Option R :=
  br (decide (n ≥ 0))
    (c0 (decide (n ≤ 512)))
    (c0 false)
theorem rsizedF_s1_eq (fuel : Nat)  (n : Int) : callN Tryd.prog mode1 Tbl.nil fuel 124 [vI n] [] = rsizedF_s1 n (fun a1 => some (vB a1, [])) := by kernel_rfl
noncomputable def rsizedF {R : Type} (fuel : Nat) (n : Int) (r0 : Bool → Option R) : Option R :=
  (rsizedF_s1 n (fun a1 => r0 a1))
theorem rsizedF_eq (fuel : Nat) (n : Int) : callN Tryd.prog mode1 Tbl.nil fuel 124 [.s (.int .i64 n)] [] = rsizedF fuel n (fun z0 => some (.s (.bool z0), [])) := by
  unfold rsizedF
  exact (rsizedF_s1_eq fuel  n)
theorem rsized_fact (n : Int) : Fact Tryd.prog noG 124 [.s (.int .i64 n)] [] (.s (.bool (szB n)), []) := by
  refine callN_fact hN hM nil_ok (n := 0) (mode := mode1) ?_
  rw [rsizedF_eq]
  unfold rsizedF rsizedF_s1 szB
  rw [br_if]
  by_cases h : 0 ≤ n
  · simp [h]
  · simp [h]
noncomputable def rsized_ent : List V → List Blk → Option (Bool × Out)
  | [.s (.int .i64 n)], [] => some (true, (.s (.bool (szB n)), []))
  | _, _ => none
theorem rsized_ok : ∀ args bs out, rsized_ent args bs = some (true, out) → Fact Tryd.prog noG 124 args bs out := by
  intro args bs out h
  unfold rsized_ent at h
  split at h
  · rename_i n
    simp only [Option.some.injEq, Prod.mk.injEq] at h
    obtain ⟨_, rfl⟩ := h
    exact rsized_fact n
  · cases h
noncomputable def T_rsized : Tbl := Tbl.cons 124 rsized_ent Tbl.nil
theorem T_rsized_ok : CallOk Tryd.prog noG T_rsized := cons_ok nil_ok rsized_ok
/-! downpour/bitrow.fresh -/
noncomputable def freshF_s1 {R : Type} (n : Int) (c0 : Int → Nat → Nat → List Int → Option R) : Option R :=
  bnd (divI .quo .i64 (IntKind.i64.wrap ((IntKind.i64.wrap (n + 64)) - 1)) 64) fun v1 =>
  bnd (mkN v1 v1 8) fun n2 =>
  c0 n 0 n2 (List.replicate n2 (0 : Int))
theorem freshF_s1_eq (fuel : Nat)  (n : Int) : callN Tryd.prog mode1 T_rsized fuel 161 [vI n] [] = freshF_s1 n (fun a3 a4 a5 a6 => some (.agg [vI a3, .sl 0 1 a4 a5], [some ⟨79, vW a6, true⟩])) := by kernel_rfl
noncomputable def freshF {R : Type} (fuel : Nat) (n : Int) (r0 : Int → Nat → Nat → List Int → Option R) : Option R :=
  (freshF_s1 n (fun a3 a4 a5 a6 => r0 a3 a4 a5 a6))
theorem freshF_eq (fuel : Nat) (n : Int) : callN Tryd.prog mode1 T_rsized fuel 161 [.s (.int .i64 n)] [] = freshF fuel n (fun z0 z1 z2 z3 => some (.agg [.s (.int .i64 z0), .sl 0 1 z1 z2], [some ⟨79, .li .u64 z3, true⟩])) := by
  unfold freshF
  exact (freshF_s1_eq fuel  n)
theorem count_words {n : Int} (h0 : 0 ≤ n) (h1 : n ≤ 512) : divI .quo .i64 (IntKind.i64.wrap (IntKind.i64.wrap (n + 64) - 1)) 64 = some ((nw n : Nat) : Int) := by
  rw [wrap_i64 (x := n + 64) (by omega) (by omega), wrap_i64 (by omega) (by omega), quo_i64 (by omega) (by omega) (by decide), nw_cast h0]
  congr 2
  omega
theorem fresh_fact (n : Int) (hg : (szB n) = true) : Fact Tryd.prog noG 161 [.s (.int .i64 n)] [] (.agg [.s (.int .i64 n), .sl 0 1 0 (nw n)], [some ⟨79, .li .u64 (zerosS (nw n)), true⟩]) := by
  obtain ⟨h0, h1⟩ := szB_iff.1 hg
  refine callN_fact hN hM T_rsized_ok (n := 0) (mode := mode1) ?_
  rw [freshF_eq]
  unfold freshF freshF_s1
  have hl := nw_le h1
  rw [count_words h0 h1, bnd_some, bnd_of (mkN_of (by omega) (by omega) (by omega)), Int.toNat_natCast, zerosS_eq]
  rfl
noncomputable def fresh_ent : List V → List Blk → Option (Bool × Out)
  | [.s (.int .i64 n)], [] => some ((szB n), (.agg [.s (.int .i64 n), .sl 0 1 0 (nw n)], [some ⟨79, .li .u64 (zerosS (nw n)), true⟩]))
  | _, _ => none
theorem fresh_ok : ∀ args bs out, fresh_ent args bs = some (true, out) → Fact Tryd.prog noG 161 args bs out := by
  intro args bs out h
  unfold fresh_ent at h
  split at h
  · rename_i n
    simp only [Option.some.injEq, Prod.mk.injEq] at h
    obtain ⟨hg, rfl⟩ := h
    exact fresh_fact n hg
  · cases h
noncomputable def T_fresh : Tbl := Tbl.cons 161 fresh_ent T_rsized
theorem T_fresh_ok : CallOk Tryd.prog noG T_fresh := cons_ok T_rsized_ok fresh_ok
/-! downpour/bitrow.Right -/
noncomputable def rightF_s1 {R : Type} (n : Int) (ws : List Int) (c0 : Bool → Option R) : Option R :=
  br (!(szB n))
    (c0 false)
    (bnd (divI .quo .i64 (IntKind.i64.wrap ((IntKind.i64.wrap (n + 64)) - 1)) 64) fun v2 =>
    br (((ws.length : Nat) : Int) != v2)
      (c0 false)
      (bnd (divI .rem .i64 n 64) fun v4 =>
      br (v4 == 0)
        (c0 true)
        (bnd (ix ws (IntKind.i64.wrap (((ws.length : Nat) : Int) - 1))) fun e6 =>
        bnd (divI .rem .i64 n 64) fun v7 =>
        bnd (shfI .shr .u64 e6 v7) fun v8 =>
        c0 (v8 == 0))))
theorem rightF_s1_eq (fuel : Nat)  (n : Int) (ws : List Int) : callN Tryd.prog mode1 T_fresh fuel 76 [.agg [vI n, vW ws]] [] = rightF_s1 n ws (fun a1 => some (vB a1, [])) := by kernel_rfl
noncomputable def rightF {R : Type} (fuel : Nat) (n : Int) (ws : List Int) (r0 : Bool → Option R) : Option R :=
  (rightF_s1 n ws (fun a1 => r0 a1))
theorem rightF_eq (fuel : Nat) (n : Int) (ws : List Int) : callN Tryd.prog mode1 T_fresh fuel 76 [.agg [.s (.int .i64 n), .li .u64 ws]] [] = rightF fuel n ws (fun z0 => some (.s (.bool z0), [])) := by
  unfold rightF
  exact (rightF_s1_eq fuel  n ws)
theorem right_fact (n : Int) (ws : List Int) (hg : (okW ws) = true) : Fact Tryd.prog noG 76 [.agg [.s (.int .i64 n), .li .u64 ws]] [] (.s (.bool (rtS n ws)), []) := by
  have hok := okW_iff.1 hg
  refine callN_fact hN hM T_fresh_ok (n := 0) (mode := mode1) ?_
  rw [rightF_eq]
  unfold rightF rightF_s1
  by_cases hs : szB n = true
  · obtain ⟨h0, h1⟩ := szB_iff.1 hs
    have hw := nw_cast h0
    rw [hs, br_if, if_neg (by decide), count_words h0 h1, bnd_some, br_if]
    by_cases hl : ws.length = nw n
    · rw [if_neg (by simp [hl]), bnd_of (rem_pos h0 (by decide)), br_if]
      obtain ⟨j, rfl⟩ : ∃ j : Nat, n = (j : Int) := ⟨n.toNat, by omega⟩
      have hlt := val_lt hok
      by_cases hm : (j : Int) % 64 = 0
      · rw [if_pos (by simpa using hm)]
        have : rtS (j : Int) ws = true := rtS_iff.2 ⟨⟨h0, h1⟩, hl, by rw [Int.toNat_natCast]; rwa [show 64 * ws.length = j by omega] at hlt⟩
        rw [this]
      · rw [if_neg (by simpa using hm)]
        have hpos : 0 < ws.length := by omega
        have hi : IntKind.i64.wrap (((ws.length : Nat) : Int) - 1) = ((ws.length - 1 : Nat) : Int) := by rw [wrap_i64 (by omega) (by omega)]; omega
        have hget : ws[ws.length - 1]? = some (ws.getD (ws.length - 1) 0) := by rw [List.getD_eq_getElem?_getD, List.getElem?_eq_getElem (by omega)]; rfl
        have hr := hok.getD (ws.length - 1)
        rw [hi, bnd_of ((ix_nat _ _).trans hget), bnd_of (rem_pos h0 (by decide)), show (j : Int) % 64 = ((j % 64 : Nat) : Int) by omega, bnd_of (shr_nat hr.1 (Nat.mod_lt _ (by decide)))]
        have hli := last_iff hok hpos (n := j) (by omega)
        rw [show j - 64 * (ws.length - 1) = j % 64 by omega] at hli
        refine congrArg (fun b => (some (V.s (.bool b), []) : Option Out)) ?_
        rw [Bool.eq_iff_iff, rtS_iff]
        simp only [beq_iff_eq]
        constructor
        · intro h
          exact ⟨⟨h0, h1⟩, hl, by rw [Int.toNat_natCast]; exact hli.1 (by omega)⟩
        · rintro ⟨_, _, h⟩
          rw [Int.toNat_natCast] at h
          have := hli.2 h
          omega
    · rw [if_pos (by simp; omega)]
      have : rtS n ws = false := by rw [Bool.eq_false_iff]; intro h; exact hl (rtS_iff.1 h).2.1
      rw [this]
  · rw [br_if, if_pos (by simpa using hs)]
    have : rtS n ws = false := by rw [Bool.eq_false_iff]; intro h; exact hs (szB_iff.2 (rtS_iff.1 h).1)
    rw [this]
noncomputable def right_ent : List V → List Blk → Option (Bool × Out)
  | [.agg [.s (.int .i64 n), w0]], [] => (asSl (.int .u64) w0).bind fun ws => some ((okW ws), (.s (.bool (rtS n ws)), []))
  | _, _ => none
theorem right_ok : ∀ args bs out, right_ent args bs = some (true, out) → Fact Tryd.prog noG 76 args bs out := by
  intro args bs out h
  unfold right_ent at h
  split at h
  · rename_i n w0
    obtain ⟨ws, h_ws, h⟩ := Option.bind_eq_some_iff.1 h
    simp only [Option.some.injEq, Prod.mk.injEq] at h
    obtain ⟨hg, rfl⟩ := h
    exact (right_fact n ws hg).args (fun _ _ _ => fun _ h => RVs_two (fun _ h => RV_agg_two (fun _ h => RVs_two (fun _ h => h) (fun _ h => RVs_two (fun _ h => RV_li h_ws h) (fun _ h => h) h) h) h) (fun _ h => h) h)
  · cases h
noncomputable def T_right : Tbl := Tbl.cons 76 right_ent T_fresh
theorem T_right_ok : CallOk Tryd.prog noG T_right := cons_ok T_fresh_ok right_ok
/-! downpour/bitrow.Get -/
noncomputable def getF_s1 {R : Type} (ws : List Int) (n i : Int) (c0 : Int → Int → Option R) : Option R :=
  grd (okW ws) <|
  br (!(rtS n ws))
    (c0 0 1)
    (br (decide (i < 0))
      (c0 0 3)
      (br (decide (i ≥ n))
        (c0 0 3)
        (bnd (divI .quo .i64 i 64) fun v7 =>
        bnd (ix ws v7) fun e8 =>
        bnd (divI .rem .i64 i 64) fun v9 =>
        bnd (shfI .shr .u64 e8 v9) fun v10 =>
        c0 (IntKind.i64.wrap (andI .u64 v10 1)) 0)))
theorem getF_s1_eq (fuel : Nat)  (ws : List Int) (n i : Int) : callN Tryd.prog mode1 T_right fuel 70 [.agg [vI n, vW ws], vI i] [] = getF_s1 ws n i (fun a1 a2 => some (.tup [vI a1, vI a2], [])) := by kernel_rfl
noncomputable def getF {R : Type} (fuel : Nat) (n : Int) (ws : List Int) (i : Int) (r0 : Int → Int → Option R) : Option R :=
  (getF_s1 ws n i (fun a1 a2 => r0 a1 a2))
theorem getF_eq (fuel : Nat) (n : Int) (ws : List Int) (i : Int) : callN Tryd.prog mode1 T_right fuel 70 [.agg [.s (.int .i64 n), .li .u64 ws], .s (.int .i64 i)] [] = getF fuel n ws i (fun z0 z1 => some (.tup [.s (.int .i64 z0), .s (.int .i64 z1)], [])) := by
  unfold getF
  exact (getF_s1_eq fuel  ws n i)
theorem get_fact (n : Int) (ws : List Int) (i : Int) (hg : (okW ws) = true) : Fact Tryd.prog noG 70 [.agg [.s (.int .i64 n), .li .u64 ws], .s (.int .i64 i)] [] (.tup [.s (.int .i64 (getS n ws i)), .s (.int .i64 (getErr n ws i))], []) := by
  have hok := okW_iff.1 hg
  refine callN_fact hN hM T_right_ok (n := 0) (mode := mode1) ?_
  rw [getF_eq]
  unfold getF getF_s1
  rw [grd_of hg, br_if, br_if, br_if, getS_eq, getErr_eq]
  unfold getI getErrI
  by_cases hr : rtS n ws = true
  · have hr' := rtS_iff.1 hr
    obtain ⟨⟨a1, a2⟩, a3, a4⟩ := hr'
    have hw := nw_cast a1
    rw [if_neg (by simp [hr])]
    by_cases h0 : i < 0
    · rw [if_pos (by simpa using h0)]
      have : ¬ (0 ≤ i ∧ i < n) := by omega
      simp [hr, this]
    · rw [if_neg (by simpa using h0)]
      by_cases h1 : i < n
      · rw [if_neg (by simp; omega)]
        obtain ⟨j, rfl⟩ : ∃ j : Nat, i = (j : Int) := ⟨i.toNat, by omega⟩
        have hj : j / 64 < ws.length := by omega
        have e1 : divI .quo .i64 (j : Int) 64 = some ((j / 64 : Nat) : Int) := by rw [quo_i64 (by omega) (by omega) (by decide)]; norm_cast
        have e2 : divI .rem .i64 (j : Int) 64 = some ((j % 64 : Nat) : Int) := by rw [rem_pos (by omega) (by decide)]; norm_cast
        have e4 : ix ws ((j / 64 : Nat) : Int) = some (ws.getD (j / 64) 0) := by rw [ix_nat, List.getD_eq_getElem?_getD, List.getElem?_eq_getElem hj]; rfl
        have hg2 := hok.getD (j / 64)
        have hb64 : j % 64 < 64 := Nat.mod_lt _ (by decide)
        simp only [e1, bnd_some, e4, e2, shr_nat hg2.1 hb64]
        have hq : (ws.getD (j / 64) 0).toNat / 2 ^ (j % 64) < 18446744073709551616 := Nat.lt_of_le_of_lt (Nat.div_le_self _ _) (by omega)
        have hw : IntKind.i64.wrap (andI .u64 (((ws.getD (j / 64) 0).toNat / 2 ^ (j % 64) : Nat) : Int) 1) = bitI ws (j : Int) := by
          rw [andI_nat (Int.natCast_nonneg _) (by omega) (by decide) (by decide), Int.toNat_natCast, show (1 : Int).toNat = 1 from rfl, Nat.and_one_is_mod, wrap_i64 (by omega) (by omega)]
          unfold bitI
          rw [Int.toNat_natCast, testBit_val hok, Nat.testBit_eq_decide_div_mod_eq]
          generalize (ws.getD (j / 64) 0).toNat / 2 ^ (j % 64) = q
          by_cases h : q % 2 = 1
          · simp [h]
          · simp [h]; omega
        rw [hw, if_pos ⟨hr, by omega, h1⟩, if_pos hr, if_pos ⟨by omega, h1⟩]
      · rw [if_pos (by simp; omega)]
        have : ¬ (0 ≤ i ∧ i < n) := by omega
        simp [hr, this]
  · rw [if_pos (by simp [hr])]
    simp [hr]
noncomputable def get_ent : List V → List Blk → Option (Bool × Out)
  | [.agg [.s (.int .i64 n), w0], .s (.int .i64 i)], [] => (asSl (.int .u64) w0).bind fun ws => some ((okW ws), (.tup [.s (.int .i64 (getS n ws i)), .s (.int .i64 (getErr n ws i))], []))
  | _, _ => none
theorem get_ok : ∀ args bs out, get_ent args bs = some (true, out) → Fact Tryd.prog noG 70 args bs out := by
  intro args bs out h
  unfold get_ent at h
  split at h
  · rename_i n w0 i
    obtain ⟨ws, h_ws, h⟩ := Option.bind_eq_some_iff.1 h
    simp only [Option.some.injEq, Prod.mk.injEq] at h
    obtain ⟨hg, rfl⟩ := h
    exact (get_fact n ws i hg).args (fun _ _ _ => fun _ h => RVs_two (fun _ h => RV_agg_two (fun _ h => RVs_two (fun _ h => h) (fun _ h => RVs_two (fun _ h => RV_li h_ws h) (fun _ h => h) h) h) h) (fun _ h => h) h)
  · cases h
noncomputable def T_get : Tbl := Tbl.cons 70 get_ent T_right
theorem T_get_ok : CallOk Tryd.prog noG T_get := cons_ok T_right_ok get_ok
def mode2 : FuncId → Nat := fun f => 0
/-! downpour/downpourref01.words -/
noncomputable def refWordsF_s1 {R : Type} (n : Int) (c0 : Int → Option R) : Option R :=
  bnd (divI .quo .i64 (IntKind.i64.wrap (n + 63)) 64) fun v1 =>
  c0 v1
theorem refWordsF_s1_eq (fuel : Nat)  (n : Int) : callN Tryd.prog mode2 T_get fuel 113 [vI n] [] = refWordsF_s1 n (fun a2 => some (vI a2, [])) := by kernel_rfl
noncomputable def refWordsF {R : Type} (fuel : Nat) (n : Int) (r0 : Int → Option R) : Option R :=
  (refWordsF_s1 n (fun a2 => r0 a2))
theorem refWordsF_eq (fuel : Nat) (n : Int) : callN Tryd.prog mode2 T_get fuel 113 [.s (.int .i64 n)] [] = refWordsF fuel n (fun z0 => some (.s (.int .i64 z0), [])) := by
  unfold refWordsF
  exact (refWordsF_s1_eq fuel  n)
theorem refWords_fact (n : Int) (hg : (decide (0 ≤ n) && decide (n ≤ 1000000)) = true) : Fact Tryd.prog noG 113 [.s (.int .i64 n)] [] (.s (.int .i64 (((nw n : Nat) : Int))), []) := by
  simp only [Bool.and_eq_true, decide_eq_true_eq] at hg
  refine callN_fact hN hM T_get_ok (n := 0) (mode := mode2) ?_
  rw [refWordsF_eq]
  unfold refWordsF refWordsF_s1
  rw [wrap_i64 (by omega) (by omega), bnd_of (quo_i64 (by omega) (by omega) (by decide)), nw_cast hg.1]
noncomputable def refWords_ent : List V → List Blk → Option (Bool × Out)
  | [.s (.int .i64 n)], [] => some ((decide (0 ≤ n) && decide (n ≤ 1000000)), (.s (.int .i64 (((nw n : Nat) : Int))), []))
  | _, _ => none
theorem refWords_ok : ∀ args bs out, refWords_ent args bs = some (true, out) → Fact Tryd.prog noG 113 args bs out := by
  intro args bs out h
  unfold refWords_ent at h
  split at h
  · rename_i n
    simp only [Option.some.injEq, Prod.mk.injEq] at h
    obtain ⟨hg, rfl⟩ := h
    exact refWords_fact n hg
  · cases h
noncomputable def T_refWords : Tbl := Tbl.cons 113 refWords_ent T_get
theorem T_refWords_ok : CallOk Tryd.prog noG T_refWords := cons_ok T_get_ok refWords_ok
/-! downpour/downpourref01.In -/
noncomputable def refIn1F_s2 {R : Type} (w4 w3 : Int) (l : List Int) (n : Int) (c0 : Option R) (c1 : Int → Int → Option R) (c2 : Option R) : Option R :=
  br (decide (w4 < w3))
    (bnd (ix l w4) fun e6 =>
    br (e6 == n)
      (c0)
      (c1 w3 (IntKind.i64.wrap (w4 + 1))))
    (c2)
theorem refIn1F_s2_eq (fuel k : Nat) (K : Ex → St → Option Out) (w4 w3 : Int) (l : List Int) (n : Int) : lpN (sub (bodyOf Tryd.prog 64) [1, 0, 1, 0, 0]) (fnX Tryd.prog mode2 T_refWords fuel 17 0) 16 [1, 4, 7, 8, 9] (k + 1) ⟨[(1, vI n), (4, vB false), (7, vL l), (8, vI w3), (9, vI w4)], [], 0, none⟩ K = refIn1F_s2 w4 w3 l n (K .ret ⟨[(4, vB true)], [], 0, none⟩) (fun a7 a8 => lpN (sub (bodyOf Tryd.prog 64) [1, 0, 1, 0, 0]) (fnX Tryd.prog mode2 T_refWords fuel 17 0) 16 [1, 4, 7, 8, 9] k ⟨[(1, vI n), (4, vB false), (7, vL l), (8, vI a7), (9, vI a8)], [], 0, none⟩ K) (K (.exit 0) ⟨[(4, vB false)], [], 0, none⟩) := by kernel_rfl
noncomputable def refIn1F_l1 {R : Type} (fuel : Nat) (n : Int) (l : List Int) (k0 k1 : Option R) : Nat → Int → Int → Option R
  | 0, _, _ => none
  | k + 1, w3, w4 =>
    (refIn1F_s2 w4 w3 l n (k0) (fun a7 a8 => ( refIn1F_l1 fuel n l k0 k1 k a7 a8 )) (k1))
theorem refIn1F_l1_eq (fuel : Nat) (n : Int) (l : List Int) (K : Ex → St → Option Out) : ∀ (k : Nat) (w3 w4 : Int), lpN (sub (bodyOf Tryd.prog 64) [1, 0, 1, 0, 0]) (fnX Tryd.prog mode2 T_refWords fuel 17 0) 16 [1, 4, 7, 8, 9] k ⟨[(1, vI n), (4, vB false), (7, vL l), (8, vI w3), (9, vI w4)], [], 0, none⟩ K = refIn1F_l1 fuel n l (K .ret ⟨[(4, vB true)], [], 0, none⟩) (K (.exit 0) ⟨[(4, vB false)], [], 0, none⟩) k w3 w4
  | 0, _, _ => rfl
  | k + 1, w3, w4 => by
    unfold refIn1F_l1
    exact (refIn1F_s2_eq fuel k K w4 w3 l n).trans (congr (congr (congr (Eq.refl (refIn1F_s2 (R := Out) w4 w3 l n)) (rfl)) (funext fun a7 => funext fun a8 => refIn1F_l1_eq fuel n l K k a7 a8)) (rfl))
noncomputable def refIn1F_s3 {R : Type}  (c0 : Bool → Option R) : Option R :=
  c0 true
theorem refIn1F_s3_eq (fuel : Nat)   : (kont (fnX Tryd.prog mode2 T_refWords fuel 17 0) (bodyOf Tryd.prog 64) [1, 0, 1, 0] 16 (endK Tryd.prog 0 0 64)) .ret ⟨[(4, vB true)], [], 0, none⟩ = refIn1F_s3  (fun a0 => some (vB a0, [])) := by kernel_rfl
noncomputable def refIn1F_s4 {R : Type}  (c0 : Bool → Option R) : Option R :=
  c0 false
theorem refIn1F_s4_eq (fuel : Nat)   : (kont (fnX Tryd.prog mode2 T_refWords fuel 17 0) (bodyOf Tryd.prog 64) [1, 0, 1, 0] 16 (endK Tryd.prog 0 0 64)) (.exit 0) ⟨[(4, vB false)], [], 0, none⟩ = refIn1F_s4  (fun a0 => some (vB a0, [])) := by kernel_rfl
noncomputable def refIn1F_s1 {R : Type} (l : List Int) (n : Int) (c0 : Int → Int → Option R) : Option R :=
  c0 ((l.length : Nat) : Int) 0
theorem refIn1F_s1_eq (fuel : Nat)  (l : List Int) (n : Int) : callN Tryd.prog mode2 T_refWords fuel 64 [vL l, vI n] [] = refIn1F_s1 l n (fun a9 a0 => lpN (sub (bodyOf Tryd.prog 64) [1, 0, 1, 0, 0]) (fnX Tryd.prog mode2 T_refWords fuel 17 0) 16 [1, 4, 7, 8, 9] fuel ⟨[(1, vI n), (4, vB false), (7, vL l), (8, vI a9), (9, vI a0)], [], 0, none⟩ (kont (fnX Tryd.prog mode2 T_refWords fuel 17 0) (bodyOf Tryd.prog 64) [1, 0, 1, 0] 16 (endK Tryd.prog 0 0 64))) := by kernel_rfl
noncomputable def refIn1F {R : Type} (fuel : Nat) (l : List Int) (n : Int) (r0 : Bool → Option R) : Option R :=
  (refIn1F_s1 l n (fun a9 a0 => (refIn1F_l1 fuel n l ((refIn1F_s3 (fun a1 => r0 a1))) ((refIn1F_s4 (fun a2 => r0 a2))) fuel a9 a0)))
theorem refIn1F_eq (fuel : Nat) (l : List Int) (n : Int) : callN Tryd.prog mode2 T_refWords fuel 64 [.li .i64 l, .s (.int .i64 n)] [] = refIn1F fuel l n (fun z0 => some (.s (.bool z0), [])) := by
  unfold refIn1F
  exact (refIn1F_s1_eq fuel  l n).trans (congr (Eq.refl (refIn1F_s1 (R := Out) l n)) (funext fun a9 => funext fun a0 => (refIn1F_l1_eq fuel n l (kont (fnX Tryd.prog mode2 T_refWords fuel 17 0) (bodyOf Tryd.prog 64) [1, 0, 1, 0] 16 (endK Tryd.prog 0 0 64)) fuel a9 a0).trans (congrFun (congrFun (congrFun (congr (congr (Eq.refl (refIn1F_l1 (R := Out) fuel n l)) ((refIn1F_s3_eq fuel  ))) ((refIn1F_s4_eq fuel  ))) fuel) a9) a0)))
theorem refIn1_loop {R : Type} (fuel : Nat) (n : Int) (xs : List Int) (hx : xs.length ≤ 1000000) (k0 k1 : Option R) : ∀ (k j : Nat), j ≤ xs.length → xs.length < j + k → refIn1F_l1 fuel n xs k0 k1 k (xs.length : Int) (j : Int) = if (xs.drop j).contains n = true then k0 else k1
  | 0, j, h1, h2 => by omega
  | k + 1, j, h1, h2 => by
    unfold refIn1F_l1 refIn1F_s2
    rw [br_if]
    by_cases hc : j < xs.length
    · rw [if_pos (by simpa using hc), bnd_of ((ix_nat xs j).trans (List.getElem?_eq_getElem hc)), br_if, List.drop_eq_getElem_cons hc, wrap_i64 (by omega) (by omega), show (j : Int) + 1 = ((j + 1 : Nat) : Int) by omega]
      dsimp only
      rw [refIn1_loop fuel n xs hx k0 k1 k (j + 1) (by omega) (by omega)]
      generalize xs[j] = x
      generalize xs.drop (j + 1) = t
      rw [List.contains_cons]
      by_cases he : x = n
      · simp [he]
      · have he' : ¬ n = x := fun h => he h.symm
        simp [he, he']
    · rw [if_neg (by simpa using hc), List.drop_eq_nil_of_le (by omega)]
      simp
theorem refIn1_fact (l : List Int) (n : Int) (hg : (decide (List.length (α := Int) l ≤ 1000000)) = true) : Fact Tryd.prog noG 64 [.li .i64 l, .s (.int .i64 n)] [] (.s (.bool (inL l n)), []) := by
  have hl := of_decide_eq_true hg
  refine callN_fact hN hM T_refWords_ok (n := l.length + 1) (mode := mode2) ?_
  rw [refIn1F_eq]
  unfold refIn1F refIn1F_s1
  have := refIn1_loop (R := Out) (l.length + 1) n l hl
  dsimp only
  rw [show (0 : Int) = ((0 : Nat) : Int) from rfl, this _ _ _ _ (by omega) (by omega), List.drop_zero, inL_eq]
  unfold inLI refIn1F_s3 refIn1F_s4
  cases l.contains n <;> rfl
noncomputable def refIn1_ent : List V → List Blk → Option (Bool × Out)
  | [w0, .s (.int .i64 n)], [] => (asSl (.int .i64) w0).bind fun l => some ((decide (List.length (α := Int) l ≤ 1000000)), (.s (.bool (inL l n)), []))
  | _, _ => none
theorem refIn1_ok : ∀ args bs out, refIn1_ent args bs = some (true, out) → Fact Tryd.prog noG 64 args bs out := by
  intro args bs out h
  unfold refIn1_ent at h
  split at h
  · rename_i w0 n
    obtain ⟨l, h_l, h⟩ := Option.bind_eq_some_iff.1 h
    simp only [Option.some.injEq, Prod.mk.injEq] at h
    obtain ⟨hg, rfl⟩ := h
    exact (refIn1_fact l n hg).args (fun _ _ _ => fun _ h => RVs_two (fun _ h => RV_li h_l h) (fun _ h => h) h)
  · cases h
noncomputable def T_refIn1 : Tbl := Tbl.cons 64 refIn1_ent T_refWords
theorem T_refIn1_ok : CallOk Tryd.prog noG T_refIn1 := cons_ok T_refWords_ok refIn1_ok
/-! downpour/downpourref01.From -/
noncomputable abbrev qa0 : Code := (sub (bodyOf Tryd.prog 132) [1, 1, 0, 1, 0, 0])
noncomputable abbrev qa1 : Nat × Option Blk := (0, some ⟨44, .agg [vI 0, vN], true⟩)
noncomputable abbrev qa2 (fuel : Nat) : Ctx Out := (fnX Tryd.prog mode2 T_refIn1 fuel 49 0)
noncomputable abbrev qa3 : Nat × V := (2, .ptr 0 2 0 0)
noncomputable abbrev qa4 : Nat × V := (3, .ptr 1 2 0 0)
noncomputable abbrev qa5 : List Nat := [0, 2, 3, 4, 5, 6, 10, 11, 12, 13, 14]
noncomputable abbrev qa6 : Code := (sub qa0 [1, 0, 0, 1, 0, 1, 0, 0])
noncomputable abbrev qa7 : Nat := 562949953420413
noncomputable abbrev qa8 : Nat := 281474976710668
noncomputable def refFromF_s3 {R : Type} (w0 : Int) (l : List Int) (w2 w3 w4 : Int) (w5 : Bool) (w1 : Int) (c0 c1 c2 : Int → Int → Int → Int → Bool → Option R) (c3 : Int → Int → Int → Int → Bool → Bool → Option R) : Option R :=
  br (decide (w0 ≥ 0))
    (br (decide ((IntKind.i64.wrap (0 + w0)) < ((l.length : Nat) : Int)))
      (bnd (ix l (IntKind.i64.wrap (0 + w0))) fun e0 =>
      br (e0 == 1)
        (c0 (IntKind.u64.wrap ((IntKind.u64.wrap (2 * w2)) + 1)) (IntKind.i64.wrap (w0 - 1)) w3 w4 w5)
        (c1 (IntKind.u64.wrap (2 * w2)) (IntKind.i64.wrap (w0 - 1)) w3 w4 w5))
      (c2 (IntKind.u64.wrap (2 * w2)) (IntKind.i64.wrap (w0 - 1)) w3 w4 w5))
    (c3 w2 w0 w3 w4 w5 (decide (w0 ≥ 0)))
theorem refFromF_s3_eq (fuel k : Nat) (K : Ex → St → Option Out) (w0 : Int) (l : List Int) (w2 w3 w4 : Int) (w5 : Bool) (w1 : Int) : lpN qa6 (qa2 fuel) qa7 qa5 (k + 1) ⟨[(0, vL l), qa3, qa4, (4, vI 0), (5, vU w2), (6, vI w0), (10, vI 0), (11, vL l), (12, vI w3), (13, vI w4), (14, vB w5)], [qa1, (1, some ⟨44, .agg [vI w1, vN], true⟩)], 2, none⟩ K = refFromF_s3 w0 l w2 w3 w4 w5 w1 (fun a0 a1 a2 a3 a4 => lpN qa6 (qa2 fuel) qa7 qa5 k ⟨[(0, vL l), qa3, qa4, (4, vI 0), (5, vU a0), (6, vI a1), (10, vI 0), (11, vL l), (12, vI a2), (13, vI a3), (14, vB a4)], [qa1, (1, some ⟨44, .agg [vI w1, vN], true⟩)], 2, none⟩ K) (fun a5 a6 a7 a8 a9 => lpN qa6 (qa2 fuel) qa7 qa5 k ⟨[(0, vL l), qa3, qa4, (4, vI 0), (5, vU a5), (6, vI a6), (10, vI 0), (11, vL l), (12, vI a7), (13, vI a8), (14, vB a9)], [qa1, (1, some ⟨44, .agg [vI w1, vN], true⟩)], 2, none⟩ K) (fun a10 a11 a12 a13 a14 => lpN qa6 (qa2 fuel) qa7 qa5 k ⟨[(0, vL l), qa3, qa4, (4, vI 0), (5, vU a10), (6, vI a11), (10, vI 0), (11, vL l), (12, vI a12), (13, vI a13), (14, vB a14)], [qa1, (1, some ⟨44, .agg [vI w1, vN], true⟩)], 2, none⟩ K) (fun a15 a16 a17 a18 a19 a20 => K (.exit 2) ⟨[(0, vL l), qa3, qa4, (4, vI 0), (5, vU a15), (6, vI a16), (10, vI 0), (11, vL l), (12, vI a17), (13, vI a18), (14, vB a19), (17, vI a16), (18, vB a20)], [qa1, (1, some ⟨44, .agg [vI w1, vN], true⟩)], 2, none⟩) := by kernel_rfl
noncomputable def refFromF_l2 {R : Type} (fuel : Nat) (l : List Int) (w1 : Int) (k0 : Int → Int → Int → Int → Bool → Bool → Option R) : Nat → Int → Int → Int → Int → Bool → Option R
  | 0, _, _, _, _, _ => none
  | k + 1, w0, w2, w3, w4, w5 =>
    (refFromF_s3 w2 l w0 w3 w4 w5 w1 (fun a0 a1 a2 a3 a4 => ( refFromF_l2 fuel l w1 k0 k a0 a1 a2 a3 a4 )) (fun a5 a6 a7 a8 a9 => ( refFromF_l2 fuel l w1 k0 k a5 a6 a7 a8 a9 )) (fun a10 a11 a12 a13 a14 => ( refFromF_l2 fuel l w1 k0 k a10 a11 a12 a13 a14 )) (fun a15 a16 a17 a18 a19 a20 => k0 a15 a16 a17 a18 a19 a20))
theorem refFromF_l2_eq (fuel : Nat) (l : List Int) (w1 : Int) (K : Ex → St → Option Out) : ∀ (k : Nat) (w0 w2 w3 w4 : Int) (w5 : Bool), lpN qa6 (qa2 fuel) qa7 qa5 k ⟨[(0, vL l), qa3, qa4, (4, vI 0), (5, vU w0), (6, vI w2), (10, vI 0), (11, vL l), (12, vI w3), (13, vI w4), (14, vB w5)], [qa1, (1, some ⟨44, .agg [vI w1, vN], true⟩)], 2, none⟩ K = refFromF_l2 fuel l w1 (fun y0 y1 y2 y3 y4 y5 => K (.exit 2) ⟨[(0, vL l), qa3, qa4, (4, vI 0), (5, vU y0), (6, vI y1), (10, vI 0), (11, vL l), (12, vI y2), (13, vI y3), (14, vB y4), (17, vI y1), (18, vB y5)], [qa1, (1, some ⟨44, .agg [vI w1, vN], true⟩)], 2, none⟩) k w0 w2 w3 w4 w5
  | 0, _, _, _, _, _ => rfl
  | k + 1, w0, w2, w3, w4, w5 => by
    unfold refFromF_l2
    exact (refFromF_s3_eq fuel k K w2 l w0 w3 w4 w5 w1).trans (congr (congr (congr (congr (Eq.refl (refFromF_s3 (R := Out) w2 l w0 w3 w4 w5 w1)) (funext fun a0 => funext fun a1 => funext fun a2 => funext fun a3 => funext fun a4 => refFromF_l2_eq fuel l w1 K k a0 a1 a2 a3 a4)) (funext fun a5 => funext fun a6 => funext fun a7 => funext fun a8 => funext fun a9 => refFromF_l2_eq fuel l w1 K k a5 a6 a7 a8 a9)) (funext fun a10 => funext fun a11 => funext fun a12 => funext fun a13 => funext fun a14 => refFromF_l2_eq fuel l w1 K k a10 a11 a12 a13 a14)) (rfl))
noncomputable def refFromF_s6 {R : Type} (w0 w2 : Int) (l : List Int) (w3 w4 w5 : Int) (w6 : Bool) (w1 : Int) (w7 : Nat) (w8 : List Int) (c0 c1 c2 : Int → Int → Int → Int → Bool → Option R) (c3 : Int → Int → Int → Int → Bool → Bool → Option R) : Option R :=
  br (decide (w0 ≥ 0))
    (br (decide ((IntKind.i64.wrap ((IntKind.i64.wrap (64 * w2)) + w0)) < ((l.length : Nat) : Int)))
      (bnd (ix l (IntKind.i64.wrap ((IntKind.i64.wrap (64 * w2)) + w0))) fun e0 =>
      br (e0 == 1)
        (c0 (IntKind.u64.wrap ((IntKind.u64.wrap (2 * w3)) + 1)) (IntKind.i64.wrap (w0 - 1)) w4 w5 w6)
        (c1 (IntKind.u64.wrap (2 * w3)) (IntKind.i64.wrap (w0 - 1)) w4 w5 w6))
      (c2 (IntKind.u64.wrap (2 * w3)) (IntKind.i64.wrap (w0 - 1)) w4 w5 w6))
    (c3 w3 w0 w4 w5 w6 (decide (w0 ≥ 0)))
theorem refFromF_s6_eq (fuel k : Nat) (K : Ex → St → Option Out) (w0 w2 : Int) (l : List Int) (w3 w4 w5 : Int) (w6 : Bool) (w1 : Int) (w7 : Nat) (w8 : List Int) : lpN qa6 (qa2 fuel) qa7 qa5 (k + 1) ⟨[(0, vL l), qa3, qa4, (4, vI w2), (5, vU w3), (6, vI w0), (10, vI w2), (11, vL l), (12, vI w4), (13, vI w5), (14, vB w6)], [qa1, (1, some ⟨44, .agg [vI w1, .sl 2 1 0 w7], true⟩), (2, some ⟨79, vW w8, true⟩)], 3, none⟩ K = refFromF_s6 w0 w2 l w3 w4 w5 w6 w1 w7 w8 (fun a0 a1 a2 a3 a4 => lpN qa6 (qa2 fuel) qa7 qa5 k ⟨[(0, vL l), qa3, qa4, (4, vI w2), (5, vU a0), (6, vI a1), (10, vI w2), (11, vL l), (12, vI a2), (13, vI a3), (14, vB a4)], [qa1, (1, some ⟨44, .agg [vI w1, .sl 2 1 0 w7], true⟩), (2, some ⟨79, vW w8, true⟩)], 3, none⟩ K) (fun a5 a6 a7 a8 a9 => lpN qa6 (qa2 fuel) qa7 qa5 k ⟨[(0, vL l), qa3, qa4, (4, vI w2), (5, vU a5), (6, vI a6), (10, vI w2), (11, vL l), (12, vI a7), (13, vI a8), (14, vB a9)], [qa1, (1, some ⟨44, .agg [vI w1, .sl 2 1 0 w7], true⟩), (2, some ⟨79, vW w8, true⟩)], 3, none⟩ K) (fun a10 a11 a12 a13 a14 => lpN qa6 (qa2 fuel) qa7 qa5 k ⟨[(0, vL l), qa3, qa4, (4, vI w2), (5, vU a10), (6, vI a11), (10, vI w2), (11, vL l), (12, vI a12), (13, vI a13), (14, vB a14)], [qa1, (1, some ⟨44, .agg [vI w1, .sl 2 1 0 w7], true⟩), (2, some ⟨79, vW w8, true⟩)], 3, none⟩ K) (fun a15 a16 a17 a18 a19 a20 => K (.exit 2) ⟨[(0, vL l), qa3, qa4, (4, vI w2), (5, vU a15), (6, vI a16), (10, vI w2), (11, vL l), (12, vI a17), (13, vI a18), (14, vB a19), (17, vI a16), (18, vB a20)], [qa1, (1, some ⟨44, .agg [vI w1, .sl 2 1 0 w7], true⟩), (2, some ⟨79, vW w8, true⟩)], 3, none⟩) := by kernel_rfl
noncomputable def refFromF_l4 {R : Type} (fuel : Nat) (l : List Int) (w0 w1 : Int) (w2 : Nat) (w3 : List Int) (k0 : Int → Int → Int → Int → Bool → Bool → Option R) : Nat → Int → Int → Int → Int → Bool → Option R
  | 0, _, _, _, _, _ => none
  | k + 1, w4, w5, w6, w7, w8 =>
    (refFromF_s6 w5 w0 l w4 w6 w7 w8 w1 w2 w3 (fun a0 a1 a2 a3 a4 => ( refFromF_l4 fuel l w0 w1 w2 w3 k0 k a0 a1 a2 a3 a4 )) (fun a5 a6 a7 a8 a9 => ( refFromF_l4 fuel l w0 w1 w2 w3 k0 k a5 a6 a7 a8 a9 )) (fun a10 a11 a12 a13 a14 => ( refFromF_l4 fuel l w0 w1 w2 w3 k0 k a10 a11 a12 a13 a14 )) (fun a15 a16 a17 a18 a19 a20 => k0 a15 a16 a17 a18 a19 a20))
theorem refFromF_l4_eq (fuel : Nat) (l : List Int) (w0 w1 : Int) (w2 : Nat) (w3 : List Int) (K : Ex → St → Option Out) : ∀ (k : Nat) (w4 w5 w6 w7 : Int) (w8 : Bool), lpN qa6 (qa2 fuel) qa7 qa5 k ⟨[(0, vL l), qa3, qa4, (4, vI w0), (5, vU w4), (6, vI w5), (10, vI w0), (11, vL l), (12, vI w6), (13, vI w7), (14, vB w8)], [qa1, (1, some ⟨44, .agg [vI w1, .sl 2 1 0 w2], true⟩), (2, some ⟨79, vW w3, true⟩)], 3, none⟩ K = refFromF_l4 fuel l w0 w1 w2 w3 (fun y0 y1 y2 y3 y4 y5 => K (.exit 2) ⟨[(0, vL l), qa3, qa4, (4, vI w0), (5, vU y0), (6, vI y1), (10, vI w0), (11, vL l), (12, vI y2), (13, vI y3), (14, vB y4), (17, vI y1), (18, vB y5)], [qa1, (1, some ⟨44, .agg [vI w1, .sl 2 1 0 w2], true⟩), (2, some ⟨79, vW w3, true⟩)], 3, none⟩) k w4 w5 w6 w7 w8
  | 0, _, _, _, _, _ => rfl
  | k + 1, w4, w5, w6, w7, w8 => by
    unfold refFromF_l4
    exact (refFromF_s6_eq fuel k K w5 w0 l w4 w6 w7 w8 w1 w2 w3).trans (congr (congr (congr (congr (Eq.refl (refFromF_s6 (R := Out) w5 w0 l w4 w6 w7 w8 w1 w2 w3)) (funext fun a0 => funext fun a1 => funext fun a2 => funext fun a3 => funext fun a4 => refFromF_l4_eq fuel l w0 w1 w2 w3 K k a0 a1 a2 a3 a4)) (funext fun a5 => funext fun a6 => funext fun a7 => funext fun a8 => funext fun a9 => refFromF_l4_eq fuel l w0 w1 w2 w3 K k a5 a6 a7 a8 a9)) (funext fun a10 => funext fun a11 => funext fun a12 => funext fun a13 => funext fun a14 => refFromF_l4_eq fuel l w0 w1 w2 w3 K k a10 a11 a12 a13 a14)) (rfl))
noncomputable def refFromF_s7 {R : Type} (w0 : List Int) (w2 : Nat) (w3 x0 : Int) (l : List Int) (x1 x2 x3 : Int) (x4 x5 : Bool) (w1 : Int) (c0 : Int → Nat → List Int → Option R) : Option R :=
  grd (Nat.beq w0.length w2) <|
  grd (okN (w2 + 1) 8) <|
  c0 (IntKind.i64.wrap (w3 + 1)) ((w0 ++ [x0]).length) (w0 ++ [x0])
theorem refFromF_s7_eq (fuel k : Nat) (K : Ex → St → Option Out) (w0 : List Int) (w2 : Nat) (w3 x0 : Int) (l : List Int) (x1 x2 x3 : Int) (x4 x5 : Bool) (w1 : Int) : (kont (qa2 fuel) qa0 [1, 0, 0, 1, 0, 1, 0] qa7 (rdK qa0 (qa2 fuel) qa8 [0, 2, 3, 4] k K)) (.exit 2) ⟨[(0, vL l), qa3, qa4, (4, vI w3), (5, vU x0), (6, vI x1), (10, vI w3), (11, vL l), (12, vI x2), (13, vI x3), (14, vB x4), (17, vI x1), (18, vB x5)], [qa1, (1, some ⟨44, .agg [vI w1, .sl 2 1 0 w2], true⟩), (2, some ⟨79, vW w0, true⟩)], 3, none⟩ = refFromF_s7 w0 w2 w3 x0 l x1 x2 x3 x4 x5 w1 (fun a0 a1 a2 => lpN qa0 (qa2 fuel) qa8 [0, 2, 3, 4] k ⟨[(0, vL l), qa3, qa4, (4, vI a0)], [qa1, (1, some ⟨44, .agg [vI w1, .sl 2 1 0 a1], true⟩), (2, some ⟨79, vW a2, true⟩)], 3, none⟩ K) := by kernel_rfl
noncomputable def refFromF_s5 {R : Type} (l : List Int) (w0 : Int) (w2 : Nat) (w3 : List Int) (w1 : Int) (c0 : Int → Int → Int → Int → Bool → Option R) (c1 : Nat → List Int → Option R) : Option R :=
  grd (decide (0 ≤ ((l.length : Nat) : Int)) && decide (((l.length : Nat) : Int) ≤ 1000000)) <|
  br (decide (w0 < (((nw ((l.length : Nat) : Int) : Nat) : Int))))
    (c0 0 63 ((l.length : Nat) : Int) (((nw ((l.length : Nat) : Int) : Nat) : Int)) (decide (w0 < (((nw ((l.length : Nat) : Int) : Nat) : Int)))))
    (c1 w2 w3)
theorem refFromF_s5_eq (fuel k : Nat) (K : Ex → St → Option Out) (l : List Int) (w0 : Int) (w2 : Nat) (w3 : List Int) (w1 : Int) : lpN qa0 (qa2 fuel) qa8 [0, 2, 3, 4] (k + 1) ⟨[(0, vL l), qa3, qa4, (4, vI w0)], [qa1, (1, some ⟨44, .agg [vI w1, .sl 2 1 0 w2], true⟩), (2, some ⟨79, vW w3, true⟩)], 3, none⟩ K = refFromF_s5 l w0 w2 w3 w1 (fun a0 a1 a2 a3 a4 => lpN qa6 (qa2 fuel) qa7 qa5 fuel ⟨[(0, vL l), qa3, qa4, (4, vI w0), (5, vU a0), (6, vI a1), (10, vI w0), (11, vL l), (12, vI a2), (13, vI a3), (14, vB a4)], [qa1, (1, some ⟨44, .agg [vI w1, .sl 2 1 0 w2], true⟩), (2, some ⟨79, vW w3, true⟩)], 3, none⟩ (kont (qa2 fuel) qa0 [1, 0, 0, 1, 0, 1, 0] qa7 (rdK qa0 (qa2 fuel) qa8 [0, 2, 3, 4] k K))) (fun a5 a6 => K (.exit 0) ⟨[qa3, qa4], [qa1, (1, some ⟨44, .agg [vI w1, .sl 2 1 0 a5], true⟩), (2, some ⟨79, vW a6, true⟩)], 3, none⟩) := by kernel_rfl
noncomputable def refFromF_l3 {R : Type} (fuel : Nat) (l : List Int) (w1 : Int) (k0 : Nat → List Int → Option R) : Nat → Int → Nat → List Int → Option R
  | 0, _, _, _ => none
  | k + 1, w0, w2, w3 =>
    (refFromF_s5 l w0 w2 w3 w1 (fun a0 a1 a2 a3 a4 => (refFromF_l4 fuel l w0 w1 w2 w3 (fun x0 x1 x2 x3 x4 x5 => (refFromF_s7 w3 w2 w0 x0 l x1 x2 x3 x4 x5 w1 (fun a5 a6 a7 => ( refFromF_l3 fuel l w1 k0 k a5 a6 a7 )))) fuel a0 a1 a2 a3 a4)) (fun a8 a9 => k0 a8 a9))
theorem refFromF_l3_eq (fuel : Nat) (l : List Int) (w1 : Int) (K : Ex → St → Option Out) : ∀ (k : Nat) (w0 : Int) (w2 : Nat) (w3 : List Int), lpN qa0 (qa2 fuel) qa8 [0, 2, 3, 4] k ⟨[(0, vL l), qa3, qa4, (4, vI w0)], [qa1, (1, some ⟨44, .agg [vI w1, .sl 2 1 0 w2], true⟩), (2, some ⟨79, vW w3, true⟩)], 3, none⟩ K = refFromF_l3 fuel l w1 (fun y0 y1 => K (.exit 0) ⟨[qa3, qa4], [qa1, (1, some ⟨44, .agg [vI w1, .sl 2 1 0 y0], true⟩), (2, some ⟨79, vW y1, true⟩)], 3, none⟩) k w0 w2 w3
  | 0, _, _, _ => rfl
  | k + 1, w0, w2, w3 => by
    unfold refFromF_l3
    exact (refFromF_s5_eq fuel k K l w0 w2 w3 w1).trans (congr (congr (Eq.refl (refFromF_s5 (R := Out) l w0 w2 w3 w1)) (funext fun a0 => funext fun a1 => funext fun a2 => funext fun a3 => funext fun a4 => (refFromF_l4_eq fuel l w0 w1 w2 w3 (kont (qa2 fuel) qa0 [1, 0, 0, 1, 0, 1, 0] qa7 (rdK qa0 (qa2 fuel) qa8 [0, 2, 3, 4] k K)) fuel a0 a1 a2 a3 a4).trans (congrFun (congrFun (congrFun (congrFun (congrFun (congrFun (congr (Eq.refl (refFromF_l4 (R := Out) fuel l w0 w1 w2 w3)) (funext fun x0 => funext fun x1 => funext fun x2 => funext fun x3 => funext fun x4 => funext fun x5 => (refFromF_s7_eq fuel k K w3 w2 w0 x0 l x1 x2 x3 x4 x5 w1).trans (congr (Eq.refl (refFromF_s7 (R := Out) w3 w2 w0 x0 l x1 x2 x3 x4 x5 w1)) (funext fun a5 => funext fun a6 => funext fun a7 => refFromF_l3_eq fuel l w1 K k a5 a6 a7)))) fuel) a0) a1) a2) a3) a4))) (rfl))
noncomputable def refFromF_s4 {R : Type} (x0 : Int) (l : List Int) (x1 x2 x3 : Int) (x4 x5 : Bool) (w1 : Int) (c0 : Int → Nat → List Int → Option R) : Option R :=
  c0 1 1 ([x0])
theorem refFromF_s4_eq (fuel k : Nat) (K : Ex → St → Option Out) (x0 : Int) (l : List Int) (x1 x2 x3 : Int) (x4 x5 : Bool) (w1 : Int) : (kont (qa2 fuel) qa0 [1, 0, 0, 1, 0, 1, 0] qa7 (rdK qa0 (qa2 fuel) qa8 [0, 2, 3, 4] k K)) (.exit 2) ⟨[(0, vL l), qa3, qa4, (4, vI 0), (5, vU x0), (6, vI x1), (10, vI 0), (11, vL l), (12, vI x2), (13, vI x3), (14, vB x4), (17, vI x1), (18, vB x5)], [qa1, (1, some ⟨44, .agg [vI w1, vN], true⟩)], 2, none⟩ = refFromF_s4 x0 l x1 x2 x3 x4 x5 w1 (fun a0 a1 a2 => lpN qa0 (qa2 fuel) qa8 [0, 2, 3, 4] k ⟨[(0, vL l), qa3, qa4, (4, vI a0)], [qa1, (1, some ⟨44, .agg [vI w1, .sl 2 1 0 a1], true⟩), (2, some ⟨79, vW a2, true⟩)], 3, none⟩ K) := by kernel_rfl
noncomputable def refFromF_s2 {R : Type} (l : List Int) (w1 : Int) (c0 : Int → Int → Int → Int → Bool → Option R) (c1 : Int → Option R) : Option R :=
  grd (decide (0 ≤ ((l.length : Nat) : Int)) && decide (((l.length : Nat) : Int) ≤ 1000000)) <|
  br (decide ((0 : Int) < (((nw ((l.length : Nat) : Int) : Nat) : Int))))
    (c0 0 63 ((l.length : Nat) : Int) (((nw ((l.length : Nat) : Int) : Nat) : Int)) (decide ((0 : Int) < (((nw ((l.length : Nat) : Int) : Nat) : Int)))))
    (c1 w1)
theorem refFromF_s2_eq (fuel k : Nat) (K : Ex → St → Option Out) (l : List Int) (w1 : Int) : lpN qa0 (qa2 fuel) qa8 [0, 2, 3, 4] (k + 1) ⟨[(0, vL l), qa3, qa4, (4, vI 0)], [qa1, (1, some ⟨44, .agg [vI w1, vN], true⟩)], 2, none⟩ K = refFromF_s2 l w1 (fun a0 a1 a2 a3 a4 => lpN qa6 (qa2 fuel) qa7 qa5 fuel ⟨[(0, vL l), qa3, qa4, (4, vI 0), (5, vU a0), (6, vI a1), (10, vI 0), (11, vL l), (12, vI a2), (13, vI a3), (14, vB a4)], [qa1, (1, some ⟨44, .agg [vI w1, vN], true⟩)], 2, none⟩ (kont (qa2 fuel) qa0 [1, 0, 0, 1, 0, 1, 0] qa7 (rdK qa0 (qa2 fuel) qa8 [0, 2, 3, 4] k K))) (fun a5 => K (.exit 0) ⟨[qa3, qa4], [qa1, (1, some ⟨44, .agg [vI a5, vN], true⟩)], 2, none⟩) := by kernel_rfl
noncomputable def refFromF_l1 {R : Type} (fuel : Nat) (l : List Int) (k0 : Int → Nat → List Int → Option R) (k1 : Int → Option R) : Nat → Int → Option R
  | 0, _ => none
  | k + 1, w1 =>
    (refFromF_s2 l w1 (fun a0 a1 a2 a3 a4 => (refFromF_l2 fuel l w1 (fun x0 x1 x2 x3 x4 x5 => (refFromF_s4 x0 l x1 x2 x3 x4 x5 w1 (fun a5 a6 a7 => (refFromF_l3 fuel l w1 (fun x6 x7 => k0 w1 x6 x7) k a5 a6 a7)))) fuel a0 a1 a2 a3 a4)) (fun a8 => k1 a8))
theorem refFromF_l1_eq (fuel : Nat) (l : List Int) (K : Ex → St → Option Out) : ∀ (k : Nat) (w1 : Int), lpN qa0 (qa2 fuel) qa8 [0, 2, 3, 4] k ⟨[(0, vL l), qa3, qa4, (4, vI 0)], [qa1, (1, some ⟨44, .agg [vI w1, vN], true⟩)], 2, none⟩ K = refFromF_l1 fuel l (fun y0 y1 y2 => K (.exit 0) ⟨[qa3, qa4], [qa1, (1, some ⟨44, .agg [vI y0, .sl 2 1 0 y1], true⟩), (2, some ⟨79, vW y2, true⟩)], 3, none⟩) (fun y3 => K (.exit 0) ⟨[qa3, qa4], [qa1, (1, some ⟨44, .agg [vI y3, vN], true⟩)], 2, none⟩) k w1
  | 0, _ => rfl
  | k + 1, w1 => by
    unfold refFromF_l1
    exact (refFromF_s2_eq fuel k K l w1).trans (congr (congr (Eq.refl (refFromF_s2 (R := Out) l w1)) (funext fun a0 => funext fun a1 => funext fun a2 => funext fun a3 => funext fun a4 => (refFromF_l2_eq fuel l w1 (kont (qa2 fuel) qa0 [1, 0, 0, 1, 0, 1, 0] qa7 (rdK qa0 (qa2 fuel) qa8 [0, 2, 3, 4] k K)) fuel a0 a1 a2 a3 a4).trans (congrFun (congrFun (congrFun (congrFun (congrFun (congrFun (congr (Eq.refl (refFromF_l2 (R := Out) fuel l w1)) (funext fun x0 => funext fun x1 => funext fun x2 => funext fun x3 => funext fun x4 => funext fun x5 => (refFromF_s4_eq fuel k K x0 l x1 x2 x3 x4 x5 w1).trans (congr (Eq.refl (refFromF_s4 (R := Out) x0 l x1 x2 x3 x4 x5 w1)) (funext fun a5 => funext fun a6 => funext fun a7 => refFromF_l3_eq fuel l w1 K k a5 a6 a7)))) fuel) a0) a1) a2) a3) a4))) (rfl))
noncomputable def refFromF_s8 {R : Type} (x0 : Int) (x1 : List Int) (x2 : Nat) (c0 : Int → List Int → Option R) : Option R :=
  c0 x0 ((x1.drop 0).take x2)
theorem refFromF_s8_eq (fuel : Nat)  (x0 : Int) (x1 : List Int) (x2 : Nat) : (kont (qa2 fuel) (bodyOf Tryd.prog 132) [1, 1, 0, 1, 0] 4 (endK Tryd.prog 0 0 132)) (.exit 0) ⟨[qa3, qa4], [qa1, (1, some ⟨44, .agg [vI x0, .sl 2 1 0 x2], true⟩), (2, some ⟨79, vW x1, true⟩)], 3, none⟩ = refFromF_s8 x0 x1 x2 (fun a0 a1 => some (.agg [vI a0, vW a1], [])) := by kernel_rfl
noncomputable def refFromF_s9 {R : Type} (x0 : Int) (c0 : Int → Option R) : Option R :=
  c0 x0
theorem refFromF_s9_eq (fuel : Nat)  (x0 : Int) : (kont (qa2 fuel) (bodyOf Tryd.prog 132) [1, 1, 0, 1, 0] 4 (endK Tryd.prog 0 0 132)) (.exit 0) ⟨[qa3, qa4], [qa1, (1, some ⟨44, .agg [vI x0, vN], true⟩)], 2, none⟩ = refFromF_s9 x0 (fun a0 => some (.agg [vI a0, vN], [])) := by kernel_rfl
noncomputable def refFromF_s1 {R : Type} (l : List Int) (c0 : Int → Option R) : Option R :=
  c0 ((l.length : Nat) : Int)
theorem refFromF_s1_eq (fuel : Nat)  (l : List Int) : callN Tryd.prog mode2 T_refIn1 fuel 132 [vL l] [] = refFromF_s1 l (fun a0 => lpN qa0 (qa2 fuel) qa8 [0, 2, 3, 4] fuel ⟨[(0, vL l), qa3, qa4, (4, vI 0)], [qa1, (1, some ⟨44, .agg [vI a0, vN], true⟩)], 2, none⟩ (kont (qa2 fuel) (bodyOf Tryd.prog 132) [1, 1, 0, 1, 0] 4 (endK Tryd.prog 0 0 132))) := by kernel_rfl
noncomputable def refFromF {R : Type} (fuel : Nat) (l : List Int) (r0 : Int → List Int → Option R) (r1 : Int → Option R) : Option R :=
  (refFromF_s1 l (fun a0 => (refFromF_l1 fuel l (fun x0 x1 x2 => (refFromF_s8 x0 x2 x1 (fun a1 a2 => r0 a1 a2))) (fun x3 => (refFromF_s9 x3 (fun a3 => r1 a3))) fuel a0)))
theorem refFromF_eq (fuel : Nat) (l : List Int) : callN Tryd.prog mode2 T_refIn1 fuel 132 [.li .i64 l] [] = refFromF fuel l (fun z0 z1 => some (.agg [.s (.int .i64 z0), .li .u64 z1], [])) (fun z0 => some (.agg [.s (.int .i64 z0), .s (.slice none 0 0)], [])) := by
  unfold refFromF
  exact (refFromF_s1_eq fuel  l).trans (congr (Eq.refl (refFromF_s1 (R := Out) l)) (funext fun a0 => (refFromF_l1_eq fuel l (kont (qa2 fuel) (bodyOf Tryd.prog 132) [1, 1, 0, 1, 0] 4 (endK Tryd.prog 0 0 132)) fuel a0).trans (congrFun (congrFun (congr (congr (Eq.refl (refFromF_l1 (R := Out) fuel l)) (funext fun x0 => funext fun x1 => funext fun x2 => (refFromF_s8_eq fuel  x0 x2 x1))) (funext fun x3 => (refFromF_s9_eq fuel  x3))) fuel) a0)))
theorem refFrom_word0 {R : Type} (fuel : Nat) (l : List Int) (hl : l.length ≤ 512) (w1 : Int) (a b : Int) (c : Bool) (k0 : Int → Int → Int → Int → Bool → Bool → Option R) : ∀ (n k : Nat), n ≤ 64 → n < k → refFromF_l2 fuel l w1 k0 k ((bn l / 2 ^ (64 * 0 + n) % 2 ^ (64 - n) : Nat) : Int) ((n : Int) - 1) a b c = k0 ((bn l / 2 ^ (64 * 0) % 18446744073709551616 : Nat) : Int) (-1) a b c false
  | n, 0, hn, hk => by omega
  | 0, k + 1, hn, hk => by
    unfold refFromF_l2 refFromF_s3
    rw [br_if, if_neg (by decide)]
    rfl
  | n + 1, k + 1, hn, hk => by
    unfold refFromF_l2 refFromF_s3
    obtain ⟨hp, hlt⟩ := bn_step l 0 n (by omega)
    have ih := refFrom_word0 fuel l hl w1 a b c k0 n k (by omega) (by omega)
    have e1 : IntKind.i64.wrap (0 + (((n + 1 : Nat) : Int) - 1)) = ((64 * 0 + n : Nat) : Int) := by rw [wrap_i64 (by omega) (by omega)]; omega
    have e2 : IntKind.i64.wrap (((n + 1 : Nat) : Int) - 1 - 1) = (n : Int) - 1 := by rw [wrap_i64 (by omega) (by omega)]; omega
    generalize bn l / 2 ^ (64 * 0 + (n + 1)) % 2 ^ (64 - (n + 1)) = x at *
    have w1 : IntKind.u64.wrap (2 * (x : Int)) = 2 * (x : Int) := wrap_u64 (by omega) (by omega)
    have w2 : IntKind.u64.wrap (2 * (x : Int) + 1) = 2 * (x : Int) + 1 := wrap_u64 (by omega) (by omega)
    rw [hp] at ih
    rw [br_if, if_pos (by simp), br_if, e1, e2, w1, w2]
    by_cases hin : 64 * 0 + n < l.length
    · rw [if_pos (by simp; omega), bnd_of ((ix_nat l _).trans (show _ = some (l.getD (64 * 0 + n) 0) by rw [List.getD_eq_getElem?_getD, List.getElem?_eq_getElem hin]; rfl)), br_if]
      by_cases h1 : l.getD (64 * 0 + n) 0 = 1
      · rw [if_pos (by simpa using h1)]
        rw [if_pos h1] at ih
        rw [← ih]
        congr 1 <;> omega
      · rw [if_neg (by simpa using h1)]
        rw [if_neg h1] at ih
        rw [← ih]
        congr 1 <;> omega
    · rw [if_neg (by simp; omega)]
      have h1 : ¬ l.getD (64 * 0 + n) 0 = 1 := by
        rw [List.getD_eq_getElem?_getD, List.getElem?_eq_none (by omega)]; simp
      rw [if_neg h1] at ih
      rw [← ih]
      congr 1 <;> omega
theorem refFrom_word {R : Type} (fuel : Nat) (l : List Int) (hl : l.length ≤ 512) (i : Nat) (hi : i ≤ 8) (w1 : Int) (w171 : Nat) (w172 : List Int) (a b : Int) (c : Bool) (k0 : Int → Int → Int → Int → Bool → Bool → Option R) : ∀ (n k : Nat), n ≤ 64 → n < k → refFromF_l4 fuel l (i : Int) w1 w171 w172 k0 k ((bn l / 2 ^ (64 * i + n) % 2 ^ (64 - n) : Nat) : Int) ((n : Int) - 1) a b c = k0 ((bn l / 2 ^ (64 * i) % 18446744073709551616 : Nat) : Int) (-1) a b c false
  | n, 0, hn, hk => by omega
  | 0, k + 1, hn, hk => by
    unfold refFromF_l4 refFromF_s6
    rw [br_if, if_neg (by decide)]
    rfl
  | n + 1, k + 1, hn, hk => by
    unfold refFromF_l4 refFromF_s6
    obtain ⟨hp, hlt⟩ := bn_step l i n (by omega)
    have ih := refFrom_word fuel l hl i hi w1 w171 w172 a b c k0 n k (by omega) (by omega)
    have e1 : IntKind.i64.wrap (IntKind.i64.wrap (64 * (i : Int)) + (((n + 1 : Nat) : Int) - 1)) = ((64 * i + n : Nat) : Int) := by rw [wrap_i64 (x := 64 * (i : Int)) (by omega) (by omega), wrap_i64 (by omega) (by omega)]; omega
    have e2 : IntKind.i64.wrap (((n + 1 : Nat) : Int) - 1 - 1) = (n : Int) - 1 := by rw [wrap_i64 (by omega) (by omega)]; omega
    generalize bn l / 2 ^ (64 * i + (n + 1)) % 2 ^ (64 - (n + 1)) = x at *
    have w1 : IntKind.u64.wrap (2 * (x : Int)) = 2 * (x : Int) := wrap_u64 (by omega) (by omega)
    have w2 : IntKind.u64.wrap (2 * (x : Int) + 1) = 2 * (x : Int) + 1 := wrap_u64 (by omega) (by omega)
    rw [hp] at ih
    rw [br_if, if_pos (by simp), br_if, e1, e2, w1, w2]
    by_cases hin : 64 * i + n < l.length
    · rw [if_pos (by simp; omega), bnd_of ((ix_nat l _).trans (show _ = some (l.getD (64 * i + n) 0) by rw [List.getD_eq_getElem?_getD, List.getElem?_eq_getElem hin]; rfl)), br_if]
      by_cases h1 : l.getD (64 * i + n) 0 = 1
      · rw [if_pos (by simpa using h1)]
        rw [if_pos h1] at ih
        rw [← ih]
        congr 1 <;> omega
      · rw [if_neg (by simpa using h1)]
        rw [if_neg h1] at ih
        rw [← ih]
        congr 1 <;> omega
    · rw [if_neg (by simp; omega)]
      have h1 : ¬ l.getD (64 * i + n) 0 = 1 := by
        rw [List.getD_eq_getElem?_getD, List.getElem?_eq_none (by omega)]; simp
      rw [if_neg h1] at ih
      rw [← ih]
      congr 1 <;> omega
theorem refFrom_rest {R : Type} (F : Nat) (hF : 70 ≤ F) (l : List Int) (hl : l.length ≤ 512) (w1 : Int) (k0 : Nat → List Int → Option R) : ∀ (k i : Nat), i ≤ nw (l.length : Int) → nw (l.length : Int) < i + k → refFromF_l3 F l w1 k0 k (i : Int) i (words i (bn l)) = k0 (nw (l.length : Int)) (words (nw (l.length : Int)) (bn l))
  | 0, i, h1, h2 => by omega
  | k + 1, i, h1, h2 => by
    have hn := nw_le (n := (l.length : Int)) (by omega)
    unfold refFromF_l3 refFromF_s5
    rw [grd_of (by simp; omega), br_if]
    by_cases hc : i < nw (l.length : Int)
    · rw [if_pos (by simpa using hc)]
      have h := refFrom_word (R := R) F l hl i (by omega) w1 i (words i (bn l)) (l.length : Int) ((nw (l.length : Int) : Nat) : Int) (decide ((i : Int) < ((nw (l.length : Int) : Nat) : Int)))
      have h := fun k0 => h k0 64 F (by omega) (by omega)
      rw [show bn l / 2 ^ (64 * i + 64) % 2 ^ (64 - 64) = 0 by rw [Nat.sub_self]; omega, show ((64 : Nat) : Int) - 1 = 63 from rfl, Int.natCast_zero] at h
      dsimp only
      rw [h]
      unfold refFromF_s7
      rw [grd_of (by rw [length_words]; exact beq_self _), grd_of (okN_of (by omega) (by omega)), wrap_i64 (by omega) (by omega), ← words_snoc, length_words, show (i : Int) + 1 = ((i + 1 : Nat) : Int) by omega]
      exact refFrom_rest F hF l hl w1 k0 k (i + 1) (by omega) (by omega)
    · rw [if_neg (by simpa using hc), show i = nw (l.length : Int) by omega]
theorem refFrom_fact (l : List Int) (hg : (decide (l.length ≤ 512)) = true) : Fact Tryd.prog noG 132 [.li .i64 l] [] (.agg [.s (.int .i64 ((l.length : Nat) : Int)), .li .u64 (fromS l)], []) := by
  have hl := of_decide_eq_true hg
  obtain ⟨F, hF⟩ : ∃ F : Nat, F = 99 := ⟨_, rfl⟩
  have hn := nw_le (n := (l.length : Int)) (by omega)
  have hn2 := nw_cast (n := (l.length : Int)) (by omega)
  rw [fromS_eq]
  unfold fromI
  by_cases h0 : l.length = 0
  · refine Fact.out (v := .agg [.s (.int .i64 ((l.length : Nat) : Int)), .s (.slice none 0 0)]) (bs' := []) ?_ (fun _ _ _ x h => RV_agg_two (fun _ h => RVs_two (fun _ h => h) (fun _ h => RVs_two (fun _ h => (show words (nw (l.length : Int)) (bn l) = [] by rw [show nw (l.length : Int) = 0 by omega]; rfl) ▸ RV_nil_li h) (fun _ h => h) h) h) h)
    refine callN_fact hN hM T_refIn1_ok (n := F + 1) (mode := mode2) ?_
    rw [refFromF_eq]
    unfold refFromF refFromF_s1
    dsimp only
    unfold refFromF_l1 refFromF_s2
    dsimp only
    rw [grd_of (by simp; omega), br_if, if_neg (by simp; omega)]
    rfl
  · refine callN_fact hN hM T_refIn1_ok (n := F + 1) (mode := mode2) ?_
    rw [refFromF_eq]
    unfold refFromF refFromF_s1
    dsimp only
    unfold refFromF_l1 refFromF_s2
    dsimp only
    rw [grd_of (by simp; omega), br_if, if_pos (by simp; omega)]
    have h := refFrom_word0 (R := Out) (F + 1) l hl (l.length : Int) (l.length : Int) ((nw (l.length : Int) : Nat) : Int) (decide ((0 : Int) < ((nw (l.length : Int) : Nat) : Int)))
    have h := fun k0 => h k0 64 (F + 1) (by omega) (by omega)
    rw [show bn l / 2 ^ (64 * 0 + 64) % 2 ^ (64 - 64) = 0 by rw [Nat.sub_self]; omega, show ((64 : Nat) : Int) - 1 = 63 from rfl, Int.natCast_zero] at h
    rw [h]
    unfold refFromF_s4
    have hr := fun k0 => refFrom_rest (R := Out) (F + 1) (by omega) l hl (l.length : Int) k0 F 1 (by omega) (by omega)
    rw [show words 1 (bn l) = [((bn l / 2 ^ (64 * 0) % 18446744073709551616 : Nat) : Int)] by simp [words], show ((1 : Nat) : Int) = 1 from rfl] at hr
    dsimp only
    rw [hr]
    unfold refFromF_s8
    rw [List.drop_zero, List.take_of_length_le (by rw [length_words]; omega)]
noncomputable def refFrom_ent : List V → List Blk → Option (Bool × Out)
  | [w0], [] => (asSl (.int .i64) w0).bind fun l => some ((decide (l.length ≤ 512)), (.agg [.s (.int .i64 ((l.length : Nat) : Int)), .li .u64 (fromS l)], []))
  | _, _ => none
theorem refFrom_ok : ∀ args bs out, refFrom_ent args bs = some (true, out) → Fact Tryd.prog noG 132 args bs out := by
  intro args bs out h
  unfold refFrom_ent at h
  split at h
  · rename_i w0
    obtain ⟨l, h_l, h⟩ := Option.bind_eq_some_iff.1 h
    simp only [Option.some.injEq, Prod.mk.injEq] at h
    obtain ⟨hg, rfl⟩ := h
    exact (refFrom_fact l hg).args (fun _ _ _ => fun _ h => RVs_two (fun _ h => RV_li h_l h) (fun _ h => h) h)
  · cases h
noncomputable def T_refFrom : Tbl := Tbl.cons 132 refFrom_ent T_refIn1
theorem T_refFrom_ok : CallOk Tryd.prog noG T_refFrom := cons_ok T_refIn1_ok refFrom_ok
/-! downpour/downpourref01.Of -/
noncomputable abbrev qa9 : Nat × Option Blk := (0, some ⟨44, .agg [vI 0, vN], true⟩)
noncomputable abbrev qa10 (fuel : Nat) : Ctx Out := (fnX Tryd.prog mode2 T_refFrom fuel 23 0)
noncomputable abbrev qa11 : Code := (sub (bodyOf Tryd.prog 135) [1, 1, 0, 1, 0, 0])
noncomputable def refOfF_s2 {R : Type} (w2 n : Int) (l w3 : List Int) (w1 : Nat) (c0 c1 : Nat → Int → List Int → Option R) (c2 : Nat → List Int → Option R) : Option R :=
  br (decide (w2 < n))
    (grd (decide (List.length (α := Int) l ≤ 1000000)) <|
    br (inL l w2)
      (grd (Nat.beq w3.length w1) <|
      grd (okN (w1 + 1) 8) <|
      c0 ((w3 ++ [1]).length) (IntKind.i64.wrap (w2 + 1)) (w3 ++ [1]))
      (grd (Nat.beq w3.length w1) <|
      grd (okN (w1 + 1) 8) <|
      c1 ((w3 ++ [0]).length) (IntKind.i64.wrap (w2 + 1)) (w3 ++ [0])))
    (c2 w1 w3)
theorem refOfF_s2_eq (fuel k : Nat) (K : Ex → St → Option Out) (w2 n : Int) (l w3 : List Int) (w1 : Nat) : lpN qa11 (qa10 fuel) 6291504 [0, 1, 4, 5, 6] (k + 1) ⟨[(0, vI n), (1, vL l), (4, .ptr 0 2 0 0), (5, .sl 1 1 0 w1), (6, vI w2)], [qa9, (1, bL 3 w3)], 2, none⟩ K = refOfF_s2 w2 n l w3 w1 (fun a6 a7 a8 => lpN qa11 (qa10 fuel) 6291504 [0, 1, 4, 5, 6] k ⟨[(0, vI n), (1, vL l), (4, .ptr 0 2 0 0), (5, .sl 1 1 0 a6), (6, vI a7)], [qa9, (1, bL 3 a8)], 2, none⟩ K) (fun a9 a0 a1 => lpN qa11 (qa10 fuel) 6291504 [0, 1, 4, 5, 6] k ⟨[(0, vI n), (1, vL l), (4, .ptr 0 2 0 0), (5, .sl 1 1 0 a9), (6, vI a0)], [qa9, (1, bL 3 a1)], 2, none⟩ K) (fun a2 a3 => K (.exit 0) ⟨[(4, .ptr 0 2 0 0), (5, .sl 1 1 0 a2)], [qa9, (1, bL 3 a3)], 2, none⟩) := by kernel_rfl
noncomputable def refOfF_l1 {R : Type} (fuel : Nat) (n : Int) (l : List Int) (k0 : Nat → List Int → Option R) : Nat → Nat → Int → List Int → Option R
  | 0, _, _, _ => none
  | k + 1, w1, w2, w3 =>
    (refOfF_s2 w2 n l w3 w1 (fun a6 a7 a8 => ( refOfF_l1 fuel n l k0 k a6 a7 a8 )) (fun a9 a0 a1 => ( refOfF_l1 fuel n l k0 k a9 a0 a1 )) (fun a2 a3 => k0 a2 a3))
theorem refOfF_l1_eq (fuel : Nat) (n : Int) (l : List Int) (K : Ex → St → Option Out) : ∀ (k w1 : Nat) (w2 : Int) (w3 : List Int), lpN qa11 (qa10 fuel) 6291504 [0, 1, 4, 5, 6] k ⟨[(0, vI n), (1, vL l), (4, .ptr 0 2 0 0), (5, .sl 1 1 0 w1), (6, vI w2)], [qa9, (1, bL 3 w3)], 2, none⟩ K = refOfF_l1 fuel n l (fun y4 y5 => K (.exit 0) ⟨[(4, .ptr 0 2 0 0), (5, .sl 1 1 0 y4)], [qa9, (1, bL 3 y5)], 2, none⟩) k w1 w2 w3
  | 0, _, _, _ => rfl
  | k + 1, w1, w2, w3 => by
    unfold refOfF_l1
    exact (refOfF_s2_eq fuel k K w2 n l w3 w1).trans (congr (congr (congr (Eq.refl (refOfF_s2 (R := Out) w2 n l w3 w1)) (funext fun a6 => funext fun a7 => funext fun a8 => refOfF_l1_eq fuel n l K k a6 a7 a8)) (funext fun a9 => funext fun a0 => funext fun a1 => refOfF_l1_eq fuel n l K k a9 a0 a1)) (rfl))
noncomputable def refOfF_s3 {R : Type} (x0 : List Int) (x1 : Nat) (c0 : Int → List Int → Option R) : Option R :=
  grd (decide (((x0.drop 0).take x1).length ≤ 512)) <|
  c0 ((((x0.drop 0).take x1).length : Nat) : Int) (fromS ((x0.drop 0).take x1))
theorem refOfF_s3_eq (fuel : Nat)  (x0 : List Int) (x1 : Nat) : (kont (qa10 fuel) (bodyOf Tryd.prog 135) [1, 1, 0, 1, 0] 16 (endK Tryd.prog 0 0 135)) (.exit 0) ⟨[(4, .ptr 0 2 0 0), (5, .sl 1 1 0 x1)], [qa9, (1, bL 3 x0)], 2, none⟩ = refOfF_s3 x0 x1 (fun a0 a1 => some (.agg [vI a0, vW a1], [])) := by kernel_rfl
noncomputable def refOfF_s1 {R : Type} (n : Int) (l : List Int) (c0 : Nat → Int → List Int → Option R) : Option R :=
  c0 0 0 ([])
theorem refOfF_s1_eq (fuel : Nat)  (n : Int) (l : List Int) : callN Tryd.prog mode2 T_refFrom fuel 135 [vI n, vL l] [] = refOfF_s1 n l (fun a0 a1 a2 => lpN qa11 (qa10 fuel) 6291504 [0, 1, 4, 5, 6] fuel ⟨[(0, vI n), (1, vL l), (4, .ptr 0 2 0 0), (5, .sl 1 1 0 a0), (6, vI a1)], [qa9, (1, bL 3 a2)], 2, none⟩ (kont (qa10 fuel) (bodyOf Tryd.prog 135) [1, 1, 0, 1, 0] 16 (endK Tryd.prog 0 0 135))) := by kernel_rfl
noncomputable def refOfF {R : Type} (fuel : Nat) (n : Int) (l : List Int) (r0 : Int → List Int → Option R) : Option R :=
  (refOfF_s1 n l (fun a0 a1 a2 => (refOfF_l1 fuel n l (fun x0 x1 => (refOfF_s3 x1 x0 (fun a3 a4 => r0 a3 a4))) fuel a0 a1 a2)))
theorem refOfF_eq (fuel : Nat) (n : Int) (l : List Int) : callN Tryd.prog mode2 T_refFrom fuel 135 [.s (.int .i64 n), .li .i64 l] [] = refOfF fuel n l (fun z0 z1 => some (.agg [.s (.int .i64 z0), .li .u64 z1], [])) := by
  unfold refOfF
  exact (refOfF_s1_eq fuel  n l).trans (congr (Eq.refl (refOfF_s1 (R := Out) n l)) (funext fun a0 => funext fun a1 => funext fun a2 => (refOfF_l1_eq fuel n l (kont (qa10 fuel) (bodyOf Tryd.prog 135) [1, 1, 0, 1, 0] 16 (endK Tryd.prog 0 0 135)) fuel a0 a1 a2).trans (congrFun (congrFun (congrFun (congrFun (congr (Eq.refl (refOfF_l1 (R := Out) fuel n l)) (funext fun x0 => funext fun x1 => (refOfF_s3_eq fuel  x1 x0))) fuel) a0) a1) a2)))
theorem refOf_loop {R : Type} (fuel : Nat) (n : Nat) (l : List Int) (hn : n ≤ 512) (hl : l.length ≤ 1000000) (k0 : Nat → List Int → Option R) : ∀ (k j : Nat), j ≤ n → n < j + k → refOfF_l1 fuel (n : Int) l k0 k j (j : Int) (bitsL j l) = k0 n (bitsL n l)
  | 0, j, h1, h2 => by omega
  | k + 1, j, h1, h2 => by
    unfold refOfF_l1 refOfF_s2
    rw [br_if]
    by_cases hc : j < n
    · have ih := refOf_loop fuel n l hn hl k0 k (j + 1) (by omega) (by omega)
      rw [bitsL_succ] at ih
      rw [if_pos (by simpa using hc), grd_of (decide_eq_true hl), br_if, wrap_i64 (by omega) (by omega), show (j : Int) + 1 = ((j + 1 : Nat) : Int) by omega]
      by_cases hm : inL l (j : Int) = true
      · rw [if_pos hm] at ih
        rw [if_pos hm, grd_of (by rw [bitsL_len]; exact beq_self _), grd_of (okN_of (by omega) (by omega)), List.length_append, bitsL_len]
        exact ih
      · rw [if_neg hm] at ih
        rw [if_neg hm, grd_of (by rw [bitsL_len]; exact beq_self _), grd_of (okN_of (by omega) (by omega)), List.length_append, bitsL_len]
        exact ih
    · rw [if_neg (by simpa using hc), show j = n by omega]
theorem refOf_fact (n : Int) (l : List Int) (hg : (decide (0 ≤ n) && decide (n ≤ 512) && decide (l.length ≤ 1000000)) = true) : Fact Tryd.prog noG 135 [.s (.int .i64 n), .li .i64 l] [] (.agg [.s (.int .i64 n), .li .u64 (ofS n l)], []) := by
  simp only [Bool.and_eq_true, decide_eq_true_eq] at hg
  obtain ⟨⟨h0, h1⟩, h2⟩ := hg
  obtain ⟨j, rfl⟩ : ∃ j : Nat, n = (j : Int) := ⟨n.toNat, by omega⟩
  refine callN_fact hN hM T_refFrom_ok (n := j + 1) (mode := mode2) ?_
  rw [refOfF_eq]
  unfold refOfF refOfF_s1
  have h := fun k0 => refOf_loop (R := Out) (j + 1) j l (by omega) h2 k0 (j + 1) 0 (by omega) (by omega)
  rw [show bitsL 0 l = [] from rfl, Int.natCast_zero] at h
  dsimp only
  rw [h]
  unfold refOfF_s3
  rw [List.drop_zero, List.take_of_length_le (by rw [bitsL_len]; omega), bitsL_len, grd_of (by simp; omega), from_bits]
noncomputable def refOf_ent : List V → List Blk → Option (Bool × Out)
  | [.s (.int .i64 n), w0], [] => (asSl (.int .i64) w0).bind fun l => some ((decide (0 ≤ n) && decide (n ≤ 512) && decide (l.length ≤ 1000000)), (.agg [.s (.int .i64 n), .li .u64 (ofS n l)], []))
  | _, _ => none
theorem refOf_ok : ∀ args bs out, refOf_ent args bs = some (true, out) → Fact Tryd.prog noG 135 args bs out := by
  intro args bs out h
  unfold refOf_ent at h
  split at h
  · rename_i n w0
    obtain ⟨l, h_l, h⟩ := Option.bind_eq_some_iff.1 h
    simp only [Option.some.injEq, Prod.mk.injEq] at h
    obtain ⟨hg, rfl⟩ := h
    exact (refOf_fact n l hg).args (fun _ _ _ => fun _ h => RVs_two (fun _ h => h) (fun _ h => RVs_two (fun _ h => RV_li h_l h) (fun _ h => h) h) h)
  · cases h
noncomputable def T_refOf : Tbl := Tbl.cons 135 refOf_ent T_refFrom
theorem T_refOf_ok : CallOk Tryd.prog noG T_refOf := cons_ok T_refFrom_ok refOf_ok
/-! downpour/downpourref01.Bit -/
noncomputable def refBitF_s1 {R : Type} (i : Int) (ws : List Int) (n : Int) (c0 : Int → Option R) : Option R :=
  bnd (divI .quo .i64 i 64) fun v1 =>
  bnd (ix ws v1) fun e2 =>
  bnd (divI .rem .i64 i 64) fun v3 =>
  bnd (shfI .shr .u64 e2 v3) fun v4 =>
  bnd (divI .rem .u64 v4 2) fun v5 =>
  c0 (IntKind.i64.wrap v5)
theorem refBitF_s1_eq (fuel : Nat)  (i : Int) (ws : List Int) (n : Int) : callN Tryd.prog mode2 T_refOf fuel 114 [.agg [vI n, vW ws], vI i] [] = refBitF_s1 i ws n (fun a6 => some (vI a6, [])) := by kernel_rfl
noncomputable def refBitF {R : Type} (fuel : Nat) (n : Int) (ws : List Int) (i : Int) (r0 : Int → Option R) : Option R :=
  (refBitF_s1 i ws n (fun a6 => r0 a6))
theorem refBitF_eq (fuel : Nat) (n : Int) (ws : List Int) (i : Int) : callN Tryd.prog mode2 T_refOf fuel 114 [.agg [.s (.int .i64 n), .li .u64 ws], .s (.int .i64 i)] [] = refBitF fuel n ws i (fun z0 => some (.s (.int .i64 z0), [])) := by
  unfold refBitF
  exact (refBitF_s1_eq fuel  i ws n)
theorem refBit_fact (n : Int) (ws : List Int) (i : Int) (hg : (okW ws && decide (0 ≤ i) && decide (i < 64 * (ws.length : Int)) && decide (ws.length ≤ 1000000)) = true) : Fact Tryd.prog noG 114 [.agg [.s (.int .i64 n), .li .u64 ws], .s (.int .i64 i)] [] (.s (.int .i64 (bitS ws i)), []) := by
  simp only [Bool.and_eq_true, decide_eq_true_eq] at hg
  obtain ⟨⟨⟨h1, h2⟩, h3⟩, h4⟩ := hg
  have hok := okW_iff.1 h1
  refine callN_fact hN hM T_refOf_ok (n := 0) (mode := mode2) ?_
  rw [refBitF_eq]
  unfold refBitF refBitF_s1
  obtain ⟨j, rfl⟩ : ∃ j : Nat, i = (j : Int) := ⟨i.toNat, by omega⟩
  have hj : j / 64 < ws.length := by omega
  have e1 : divI .quo .i64 (j : Int) 64 = some ((j / 64 : Nat) : Int) := by rw [quo_i64 (by omega) (by omega) (by decide)]; norm_cast
  have e2 : divI .rem .i64 (j : Int) 64 = some ((j % 64 : Nat) : Int) := by rw [rem_pos (by omega) (by decide)]; norm_cast
  have e4 : ix ws ((j / 64 : Nat) : Int) = some (ws.getD (j / 64) 0) := by rw [ix_nat, List.getD_eq_getElem?_getD, List.getElem?_eq_getElem hj]; rfl
  have hg := hok.getD (j / 64)
  have hb64 : j % 64 < 64 := Nat.mod_lt _ (by decide)
  have e5 : divI .rem .u64 (((ws.getD (j / 64) 0).toNat / 2 ^ (j % 64) : Nat) : Int) 2 = some (((ws.getD (j / 64) 0).toNat / 2 ^ (j % 64) % 2 : Nat) : Int) := by rw [rem_pos (Int.natCast_nonneg _) (by decide)]; norm_cast
  simp only [e1, bnd_some, e4, e2, shr_nat hg.1 hb64, e5]
  have hw : IntKind.i64.wrap (((ws.getD (j / 64) 0).toNat / 2 ^ (j % 64) % 2 : Nat) : Int) = bitS ws (j : Int) := by
    rw [wrap_i64 (by omega) (by omega), bitS_eq]
    unfold bitI
    rw [Int.toNat_natCast, testBit_val hok, Nat.testBit_eq_decide_div_mod_eq]
    generalize (ws.getD (j / 64) 0).toNat / 2 ^ (j % 64) = q
    by_cases h : q % 2 = 1
    · simp [h]
    · simp [h]; omega
  rw [hw]
noncomputable def refBit_ent : List V → List Blk → Option (Bool × Out)
  | [.agg [.s (.int .i64 n), w0], .s (.int .i64 i)], [] => (asSl (.int .u64) w0).bind fun ws => some ((okW ws && decide (0 ≤ i) && decide (i < 64 * (ws.length : Int)) && decide (ws.length ≤ 1000000)), (.s (.int .i64 (bitS ws i)), []))
  | _, _ => none
theorem refBit_ok : ∀ args bs out, refBit_ent args bs = some (true, out) → Fact Tryd.prog noG 114 args bs out := by
  intro args bs out h
  unfold refBit_ent at h
  split at h
  · rename_i n w0 i
    obtain ⟨ws, h_ws, h⟩ := Option.bind_eq_some_iff.1 h
    simp only [Option.some.injEq, Prod.mk.injEq] at h
    obtain ⟨hg, rfl⟩ := h
    exact (refBit_fact n ws i hg).args (fun _ _ _ => fun _ h => RVs_two (fun _ h => RV_agg_two (fun _ h => RVs_two (fun _ h => h) (fun _ h => RVs_two (fun _ h => RV_li h_ws h) (fun _ h => h) h) h) h) (fun _ h => h) h)
  · cases h
noncomputable def T_refBit : Tbl := Tbl.cons 114 refBit_ent T_refOf
theorem T_refBit_ok : CallOk Tryd.prog noG T_refBit := cons_ok T_refOf_ok refBit_ok
/-! downpour/downpourref01.Right -/
noncomputable abbrev qa12 (fuel : Nat) : Ctx Out := (fnX Tryd.prog mode2 T_refBit fuel 35 0)
noncomputable def refRightF_s2 {R : Type} (w4 : Int) (ws : List Int) (n : Int) (c0 : Option R) (c1 : Int → Option R) (c2 : Option R) : Option R :=
  br (decide (w4 < (IntKind.i64.wrap (64 * ((ws.length : Nat) : Int)))))
    (grd (okW ws && decide (0 ≤ w4) && decide (w4 < 64 * (ws.length : Int)) && decide (ws.length ≤ 1000000)) <|
    br (((bitS ws w4) : Int) == 1)
      (c0)
      (c1 (IntKind.i64.wrap (w4 + 1))))
    (c2)
theorem refRightF_s2_eq (fuel k : Nat) (K : Ex → St → Option Out) (w4 : Int) (ws : List Int) (n : Int) : lpN (sub (bodyOf Tryd.prog 59) [1, 1, 0, 1, 0, 0]) (qa12 fuel) 4 [1, 2, 3] (k + 1) ⟨[(1, .ptr 0 2 0 0), (2, vB false), (3, vI w4)], [(0, some ⟨44, .agg [vI n, vW ws], true⟩)], 1, none⟩ K = refRightF_s2 w4 ws n (K .ret ⟨[(2, vB false)], [], 0, none⟩) (fun a5 => lpN (sub (bodyOf Tryd.prog 59) [1, 1, 0, 1, 0, 0]) (qa12 fuel) 4 [1, 2, 3] k ⟨[(1, .ptr 0 2 0 0), (2, vB false), (3, vI a5)], [(0, some ⟨44, .agg [vI n, vW ws], true⟩)], 1, none⟩ K) (K (.exit 0) ⟨[(2, vB false)], [], 0, none⟩) := by kernel_rfl
noncomputable def refRightF_l1 {R : Type} (fuel : Nat) (n : Int) (ws : List Int) (k0 k1 : Option R) : Nat → Int → Option R
  | 0, _ => none
  | k + 1, w4 =>
    (refRightF_s2 w4 ws n (k0) (fun a5 => ( refRightF_l1 fuel n ws k0 k1 k a5 )) (k1))
theorem refRightF_l1_eq (fuel : Nat) (n : Int) (ws : List Int) (K : Ex → St → Option Out) : ∀ (k : Nat) (w4 : Int), lpN (sub (bodyOf Tryd.prog 59) [1, 1, 0, 1, 0, 0]) (qa12 fuel) 4 [1, 2, 3] k ⟨[(1, .ptr 0 2 0 0), (2, vB false), (3, vI w4)], [(0, some ⟨44, .agg [vI n, vW ws], true⟩)], 1, none⟩ K = refRightF_l1 fuel n ws (K .ret ⟨[(2, vB false)], [], 0, none⟩) (K (.exit 0) ⟨[(2, vB false)], [], 0, none⟩) k w4
  | 0, _ => rfl
  | k + 1, w4 => by
    unfold refRightF_l1
    exact (refRightF_s2_eq fuel k K w4 ws n).trans (congr (congr (congr (Eq.refl (refRightF_s2 (R := Out) w4 ws n)) (rfl)) (funext fun a5 => refRightF_l1_eq fuel n ws K k a5)) (rfl))
noncomputable def refRightF_s3 {R : Type}  (c0 : Bool → Option R) : Option R :=
  c0 false
theorem refRightF_s3_eq (fuel : Nat)   : (kont (qa12 fuel) (bodyOf Tryd.prog 59) [1, 1, 0, 1, 0] 4 (endK Tryd.prog 0 0 59)) .ret ⟨[(2, vB false)], [], 0, none⟩ = refRightF_s3  (fun a7 => some (vB a7, [])) := by kernel_rfl
noncomputable def refRightF_s4 {R : Type}  (c0 : Bool → Option R) : Option R :=
  c0 true
theorem refRightF_s4_eq (fuel : Nat)   : (kont (qa12 fuel) (bodyOf Tryd.prog 59) [1, 1, 0, 1, 0] 4 (endK Tryd.prog 0 0 59)) (.exit 0) ⟨[(2, vB false)], [], 0, none⟩ = refRightF_s4  (fun a8 => some (vB a8, [])) := by kernel_rfl
noncomputable def refRightF_s1 {R : Type} (n : Int) (ws : List Int) (c0 : Bool → Option R) (c1 : Int → Option R) : Option R :=
  br (decide (n < 0))
    (c0 false)
    (br (decide (n > 512))
      (c0 false)
      (grd (decide (0 ≤ n) && decide (n ≤ 1000000)) <|
      br ((((ws.length : Nat) : Int) : Int) != (((nw n : Nat) : Int)))
        (c0 false)
        (c1 n)))
theorem refRightF_s1_eq (fuel : Nat)  (n : Int) (ws : List Int) : callN Tryd.prog mode2 T_refBit fuel 59 [.agg [vI n, vW ws]] [] = refRightF_s1 n ws (fun a1 => some (vB a1, [])) (fun a6 => lpN (sub (bodyOf Tryd.prog 59) [1, 1, 0, 1, 0, 0]) (qa12 fuel) 4 [1, 2, 3] fuel ⟨[(1, .ptr 0 2 0 0), (2, vB false), (3, vI a6)], [(0, some ⟨44, .agg [vI n, vW ws], true⟩)], 1, none⟩ (kont (qa12 fuel) (bodyOf Tryd.prog 59) [1, 1, 0, 1, 0] 4 (endK Tryd.prog 0 0 59))) := by kernel_rfl
noncomputable def refRightF {R : Type} (fuel : Nat) (n : Int) (ws : List Int) (r0 : Bool → Option R) : Option R :=
  (refRightF_s1 n ws (fun a1 => r0 a1) (fun a6 => (refRightF_l1 fuel n ws ((refRightF_s3 (fun a7 => r0 a7))) ((refRightF_s4 (fun a8 => r0 a8))) fuel a6)))
theorem refRightF_eq (fuel : Nat) (n : Int) (ws : List Int) : callN Tryd.prog mode2 T_refBit fuel 59 [.agg [.s (.int .i64 n), .li .u64 ws]] [] = refRightF fuel n ws (fun z0 => some (.s (.bool z0), [])) := by
  unfold refRightF
  exact (refRightF_s1_eq fuel  n ws).trans (congr (congr (Eq.refl (refRightF_s1 (R := Out) n ws)) (rfl)) (funext fun a6 => (refRightF_l1_eq fuel n ws (kont (qa12 fuel) (bodyOf Tryd.prog 59) [1, 1, 0, 1, 0] 4 (endK Tryd.prog 0 0 59)) fuel a6).trans (congrFun (congrFun (congr (congr (Eq.refl (refRightF_l1 (R := Out) fuel n ws)) ((refRightF_s3_eq fuel  ))) ((refRightF_s4_eq fuel  ))) fuel) a6)))
open Classical in
theorem refRight_loop {R : Type} (fuel : Nat) (n : Int) (ws : List Int) (hok : okW ws = true) (hx : ws.length ≤ 8) (k0 k1 : Option R) : ∀ (k j : Nat), j ≤ 64 * ws.length → 64 * ws.length < j + k → refRightF_l1 fuel n ws k0 k1 k (j : Int) = if ∃ i, j ≤ i ∧ i < 64 * ws.length ∧ (val ws).testBit i = true then k0 else k1
  | 0, j, h1, h2 => by omega
  | k + 1, j, h1, h2 => by
    unfold refRightF_l1 refRightF_s2
    rw [wrap_i64 (x := 64 * ((ws.length : Nat) : Int)) (by omega) (by omega), br_if]
    by_cases hc : j < 64 * ws.length
    · rw [if_pos (by simp; omega), grd_of (by simp [hok]; omega), br_if, wrap_i64 (by omega) (by omega), show (j : Int) + 1 = ((j + 1 : Nat) : Int) by omega, bitS_eq]
      unfold bitI
      rw [Int.toNat_natCast]
      dsimp only
      by_cases hb : (val ws).testBit j = true
      · rw [if_pos (by simp [hb]), if_pos ⟨j, by omega, hc, hb⟩]
      · rw [if_neg (by simp [hb]), refRight_loop fuel n ws hok hx k0 k1 k (j + 1) (by omega) (by omega)]
        have : (∃ i, j + 1 ≤ i ∧ i < 64 * ws.length ∧ (val ws).testBit i = true) ↔ (∃ i, j ≤ i ∧ i < 64 * ws.length ∧ (val ws).testBit i = true) := by
          constructor
          · rintro ⟨i, a, b, c⟩; exact ⟨i, by omega, b, c⟩
          · rintro ⟨i, a, b, c⟩
            have : i ≠ j := by rintro rfl; exact hb c
            exact ⟨i, by omega, b, c⟩
        simp only [this]
    · rw [if_neg (by simp; omega), if_neg (by rintro ⟨i, a, b, _⟩; omega)]
theorem no_bits {v n m : Nat} (hv : v < 2 ^ m) : (¬ ∃ i, n ≤ i ∧ i < m ∧ v.testBit i = true) ↔ v < 2 ^ n := by
  constructor
  · intro h
    refine Nat.lt_pow_two_of_testBit _ fun i hi => ?_
    by_cases him : i < m
    · rw [Bool.eq_false_iff]; exact fun e => h ⟨i, hi, him, e⟩
    · exact Nat.testBit_lt_two_pow (Nat.lt_of_lt_of_le hv (Nat.pow_le_pow_right (by omega) (by omega)))
  · rintro h ⟨i, a, b, c⟩
    rw [Nat.testBit_lt_two_pow (Nat.lt_of_lt_of_le h (Nat.pow_le_pow_right (by omega) a))] at c
    cases c
theorem refRight_fact (n : Int) (ws : List Int) (hg : (okW ws) = true) : Fact Tryd.prog noG 59 [.agg [.s (.int .i64 n), .li .u64 ws]] [] (.s (.bool (rtS n ws)), []) := by
  have hok := okW_iff.1 hg
  refine callN_fact hN hM T_refBit_ok (n := 600) (mode := mode2) ?_
  rw [refRightF_eq]
  unfold refRightF refRightF_s1
  have hno : ∀ h : ¬ rtS n ws = true, rtS n ws = false := fun h => by rw [Bool.eq_false_iff]; exact h
  rw [br_if, br_if]
  by_cases h0 : n < 0
  · rw [if_pos (by simpa using h0), hno fun h => by have := (rtS_iff.1 h).1.1; omega]
  · rw [if_neg (by simpa using h0)]
    by_cases h1 : n > 512
    · rw [if_pos (by simpa using h1), hno fun h => by have := (rtS_iff.1 h).1.2; omega]
    · rw [if_neg (by simpa using h1), grd_of (by simp; omega), br_if]
      by_cases hl : ws.length = nw n
      · rw [if_neg (by simp [hl])]
        dsimp only
        obtain ⟨j, rfl⟩ : ∃ j : Nat, n = (j : Int) := ⟨n.toNat, by omega⟩
        have hw := nw_cast (n := (j : Int)) (by omega)
        have hloop := refRight_loop (R := Out) 600 (j : Int) ws hg (by omega)
        rw [hloop _ _ 600 j (by omega) (by omega)]
        have hb := no_bits (n := j) (val_lt hok)
        by_cases hc : ∃ i, j ≤ i ∧ i < 64 * ws.length ∧ (val ws).testBit i = true
        · rw [if_pos hc, hno fun h => hb.2 (by have := (rtS_iff.1 h).2.2; rwa [Int.toNat_natCast] at this) hc]
          rfl
        · rw [if_neg hc, rtS_iff.2 ⟨⟨by omega, by omega⟩, hl, by rw [Int.toNat_natCast]; exact hb.1 hc⟩]
          rfl
      · rw [if_pos (by simp; omega), hno fun h => hl (rtS_iff.1 h).2.1]
noncomputable def refRight_ent : List V → List Blk → Option (Bool × Out)
  | [.agg [.s (.int .i64 n), w0]], [] => (asSl (.int .u64) w0).bind fun ws => some ((okW ws), (.s (.bool (rtS n ws)), []))
  | _, _ => none
theorem refRight_ok : ∀ args bs out, refRight_ent args bs = some (true, out) → Fact Tryd.prog noG 59 args bs out := by
  intro args bs out h
  unfold refRight_ent at h
  split at h
  · rename_i n w0
    obtain ⟨ws, h_ws, h⟩ := Option.bind_eq_some_iff.1 h
    simp only [Option.some.injEq, Prod.mk.injEq] at h
    obtain ⟨hg, rfl⟩ := h
    exact (refRight_fact n ws hg).args (fun _ _ _ => fun _ h => RVs_two (fun _ h => RV_agg_two (fun _ h => RVs_two (fun _ h => h) (fun _ h => RVs_two (fun _ h => RV_li h_ws h) (fun _ h => h) h) h) h) (fun _ h => h) h)
  · cases h
noncomputable def T_refRight : Tbl := Tbl.cons 59 refRight_ent T_refBit
theorem T_refRight_ok : CallOk Tryd.prog noG T_refRight := cons_ok T_refBit_ok refRight_ok
def mode3 : FuncId → Nat := fun f => bif Nat.beq f 77 then 2 else bif Nat.beq f 125 then 2 else bif Nat.beq f 78 then 2 else 0
noncomputable def plcAF_s1 {R : Type} (ws : List Int) (n : Int) (c0 : Int → Option R) : Option R :=
  grd (okW ws) <|
  br (!(rtS n ws))
    (c0 1)
    (none)
theorem plcAF_s1_eq (fuel : Nat)  (ws : List Int) (n : Int) : callN Tryd.prog mode3 T_refRight fuel 26 [.agg [vI n, vW ws]] [] = plcAF_s1 ws n (fun a1 => some (.tup [vN, vI a1], [])) := by kernel_rfl
noncomputable def plcAF {R : Type} (fuel : Nat) (n : Int) (ws : List Int) (r0 : Int → Option R) : Option R :=
  (plcAF_s1 ws n (fun a1 => r0 a1))
theorem plcAF_eq (fuel : Nat) (n : Int) (ws : List Int) : callN Tryd.prog mode3 T_refRight fuel 26 [.agg [.s (.int .i64 n), .li .u64 ws]] [] = plcAF fuel n ws (fun z0 => some (.tup [.s (.slice none 0 0), .s (.int .i64 z0)], [])) := by
  unfold plcAF
  exact (plcAF_s1_eq fuel  ws n)
def mode4 : FuncId → Nat := fun f => bif Nat.beq f 77 then 2 else bif Nat.beq f 125 then 2 else bif Nat.beq f 78 then 2 else bif Nat.beq f 26 then 2 else 0
def mode5 : FuncId → Nat := fun f => bif Nat.beq f 77 then 2 else bif Nat.beq f 125 then 2 else bif Nat.beq f 78 then 2 else 0
end Go.Proofs.YtfpdcfgjhkiklaaDoor
