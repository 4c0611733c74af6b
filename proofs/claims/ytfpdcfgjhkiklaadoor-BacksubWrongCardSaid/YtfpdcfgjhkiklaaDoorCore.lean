/- Rows, their places: what each function tells. -/
import Derived.Test.YtfpdcfgjhkiklaaDoorPmTab
import Derived.KernelRfl
import Derived.Test.YtfpdcfgjhkiklaaDoorProg
import Derived.Test.YtfpdcfgjhkiklaaDoorPmPut
import Derived.Test.YtfpdcfgjhkiklaaDoorPlBit
import Derived.Test.YtfpdcfgjhkiklaaDoorPlAug
import Derived.Test.YtfpdcfgjhkiklaaDoorPlPop
import Derived.Shelf.Spec.TrailingZeros
set_option autoImplicit false
set_option maxRecDepth 100000
set_option maxHeartbeats 4000000
set_option linter.unusedVariables false
set_option linter.unusedSimpArgs false
namespace Go.Proofs.YtfpdcfgjhkiklaaDoor
open Go Go.PM Go.Proofs Go.Shelf Go.PM.Row Go.PM.Bits Go.PM.Bit Go.PM.Blk Go.PM.Lin
abbrev vN : V := .s (.slice none 0 0)
abbrev vI (x : Int) : V := .s (.int .i64 x)
abbrev vU (x : Int) : V := .s (.int .u64 x)
abbrev vB (x : Bool) : V := .s (.bool x)
abbrev vS (x : ByteArray) : V := .s (.string x)
abbrev vL (l : List Int) : V := .li .i64 l
abbrev vW (l : List Int) : V := .li .u64 l
abbrev bL (t : Nat) (l : List Int) : Option Blk := some ⟨t, .li .i64 l, true⟩
abbrev vR (m : List (Int × List Int)) : V := .lt (.pair (.int .i64) (.sl (.int .u64))) m
def gTab : Glob := fun b => if b = 0 then some (Lib.deBruijn64tab.map fun (n : Nat) => (.int .u8 (n : Int) : Value)) else none
theorem hN : namesOk Tryd.prog = true := by kernel_rfl
theorem hM : Tryd.prog.follows .mixedOrders = true := by kernel_rfl
def mode1 : FuncId → Nat := fun f => bif Nat.beq f 161 then 2 else 0
/-! downpour/bitrow.sized -/
noncomputable def rsizedF_s1 {R : Type} (n : Int) (c0 : Bool → Option R) : Option R :=
  br (decide (n ≥ 0))
    (c0 (decide (n ≤ 512)))
    (c0 false)
theorem rsizedF_s1_eq (fuel : Nat)  (n : Int) : callN Tryd.prog mode1 Tbl.nil fuel 124 [vI n] [] = rsizedF_s1 n (fun a1 => some (vB a1, [])) := by kernel_rfl
noncomputable def rsizedF {R : Type} (fuel : Nat) (n : Int) (r0 : Bool → Option R) : Option R :=
  (rsizedF_s1 n (fun a1 => r0 a1))
theorem rsizedF_eq (fuel : Nat) (n : Int) : callN Tryd.prog mode1 Tbl.nil fuel 124 [.s (.int .i64 n)] [] = rsizedF fuel n (fun z0 => some (.s (.bool z0), [])) := by
  unfold rsizedF
  exact (rsizedF_s1_eq fuel  n)
theorem rsized_fact (n : Int) : Fact Tryd.prog gTab 124 [.s (.int .i64 n)] [] (.s (.bool (szB n)), []) := by
  refine callN_fact hN hM nil_ok (n := 0) (mode := mode1) ?_
  rw [rsizedF_eq]
  unfold rsizedF rsizedF_s1 szB
  rw [br_if]
  by_cases h : 0 ≤ n
  · simp [h]
  · simp [h]
noncomputable def rsized_ent : List V → List Blk → Option (Bool × Out)
  | [.s (.int .i64 n)], [] => some (true, (.s (.bool (szB n)), []))
  | _, _ => none
theorem rsized_ok : ∀ args bs out, rsized_ent args bs = some (true, out) → Fact Tryd.prog gTab 124 args bs out := by
  intro args bs out h
  unfold rsized_ent at h
  split at h
  · rename_i n
    simp only [Option.some.injEq, Prod.mk.injEq] at h
    obtain ⟨_, rfl⟩ := h
    exact rsized_fact n
  · cases h
noncomputable def T_rsized : Tbl := Tbl.cons 124 rsized_ent Tbl.nil
theorem T_rsized_ok : CallOk Tryd.prog gTab T_rsized := cons_ok nil_ok rsized_ok
/-! downpour/bitrow.fresh -/
noncomputable def freshF_s1 {R : Type} (n : Int) (c0 : Int → Nat → Nat → List Int → Option R) : Option R :=
  bnd (divI .quo .i64 (IntKind.i64.wrap ((IntKind.i64.wrap (n + 64)) - 1)) 64) fun v1 =>
  bnd (mkN v1 v1 8) fun n2 =>
  c0 n 0 n2 (List.replicate n2 (0 : Int))
theorem freshF_s1_eq (fuel : Nat)  (n : Int) : callN Tryd.prog mode1 T_rsized fuel 161 [vI n] [] = freshF_s1 n (fun a3 a4 a5 a6 => some (.agg [vI a3, .sl 0 1 a4 a5], [some ⟨79, vW a6, true⟩])) := by kernel_rfl
noncomputable def freshF {R : Type} (fuel : Nat) (n : Int) (r0 : Int → Nat → Nat → List Int → Option R) : Option R :=
  (freshF_s1 n (fun a3 a4 a5 a6 => r0 a3 a4 a5 a6))
theorem freshF_eq (fuel : Nat) (n : Int) : callN Tryd.prog mode1 T_rsized fuel 161 [.s (.int .i64 n)] [] = freshF fuel n (fun z0 z1 z2 z3 => some (.agg [.s (.int .i64 z0), .sl 0 1 z1 z2], [some ⟨79, .li .u64 z3, true⟩])) := by
  unfold freshF
  exact (freshF_s1_eq fuel  n)
theorem count_words {n : Int} (h0 : 0 ≤ n) (h1 : n ≤ 512) : divI .quo .i64 (IntKind.i64.wrap (IntKind.i64.wrap (n + 64) - 1)) 64 = some ((nw n : Nat) : Int) := by
  rw [wrap_i64 (x := n + 64) (by omega) (by omega), wrap_i64 (by omega) (by omega), quo_i64 (by omega) (by omega) (by decide), nw_cast h0]
  congr 2
  omega
theorem fresh_fact (n : Int) (hg : (szB n) = true) : Fact Tryd.prog gTab 161 [.s (.int .i64 n)] [] (.agg [.s (.int .i64 n), .sl 0 1 0 (nw n)], [some ⟨79, .li .u64 (zerosS (nw n)), true⟩]) := by
  obtain ⟨h0, h1⟩ := szB_iff.1 hg
  refine callN_fact hN hM T_rsized_ok (n := 0) (mode := mode1) ?_
  rw [freshF_eq]
  unfold freshF freshF_s1
  have hl := nw_le h1
  rw [count_words h0 h1, bnd_some, bnd_of (mkN_of (by omega) (by omega) (by omega)), Int.toNat_natCast, zerosS_eq]
  rfl
noncomputable def fresh_ent : List V → List Blk → Option (Bool × Out)
  | [.s (.int .i64 n)], [] => some ((szB n), (.agg [.s (.int .i64 n), .sl 0 1 0 (nw n)], [some ⟨79, .li .u64 (zerosS (nw n)), true⟩]))
  | _, _ => none
theorem fresh_ok : ∀ args bs out, fresh_ent args bs = some (true, out) → Fact Tryd.prog gTab 161 args bs out := by
  intro args bs out h
  unfold fresh_ent at h
  split at h
  · rename_i n
    simp only [Option.some.injEq, Prod.mk.injEq] at h
    obtain ⟨hg, rfl⟩ := h
    exact fresh_fact n hg
  · cases h
noncomputable def T_fresh : Tbl := Tbl.cons 161 fresh_ent T_rsized
theorem T_fresh_ok : CallOk Tryd.prog gTab T_fresh := cons_ok T_rsized_ok fresh_ok
/-! downpour/bitrow.Right -/
noncomputable def rightF_s1 {R : Type} (n : Int) (ws : List Int) (c0 : Bool → Option R) : Option R :=
  br (!(szB n))
    (c0 false)
    (bnd (divI .quo .i64 (IntKind.i64.wrap ((IntKind.i64.wrap (n + 64)) - 1)) 64) fun v2 =>
    br (((ws.length : Nat) : Int) != v2)
      (c0 false)
      (bnd (divI .rem .i64 n 64) fun v4 =>
      br (v4 == 0)
        (c0 true)
        (bnd (ix ws (IntKind.i64.wrap (((ws.length : Nat) : Int) - 1))) fun e6 =>
        bnd (divI .rem .i64 n 64) fun v7 =>
        bnd (shfI .shr .u64 e6 v7) fun v8 =>
        c0 (v8 == 0))))
theorem rightF_s1_eq (fuel : Nat)  (n : Int) (ws : List Int) : callN Tryd.prog mode1 T_fresh fuel 76 [.agg [vI n, vW ws]] [] = rightF_s1 n ws (fun a1 => some (vB a1, [])) := by kernel_rfl
noncomputable def rightF {R : Type} (fuel : Nat) (n : Int) (ws : List Int) (r0 : Bool → Option R) : Option R :=
  (rightF_s1 n ws (fun a1 => r0 a1))
theorem rightF_eq (fuel : Nat) (n : Int) (ws : List Int) : callN Tryd.prog mode1 T_fresh fuel 76 [.agg [.s (.int .i64 n), .li .u64 ws]] [] = rightF fuel n ws (fun z0 => some (.s (.bool z0), [])) := by
  unfold rightF
  exact (rightF_s1_eq fuel  n ws)
theorem right_fact (n : Int) (ws : List Int) (hg : (okW ws) = true) : Fact Tryd.prog gTab 76 [.agg [.s (.int .i64 n), .li .u64 ws]] [] (.s (.bool (rtS n ws)), []) := by
  have hok := okW_iff.1 hg
  refine callN_fact hN hM T_fresh_ok (n := 0) (mode := mode1) ?_
  rw [rightF_eq]
  unfold rightF rightF_s1
  by_cases hs : szB n = true
  · obtain ⟨h0, h1⟩ := szB_iff.1 hs
    have hw := nw_cast h0
    rw [hs, br_if, if_neg (by decide), count_words h0 h1, bnd_some, br_if]
    by_cases hl : ws.length = nw n
    · rw [if_neg (by simp [hl]), bnd_of (rem_pos h0 (by decide)), br_if]
      obtain ⟨j, rfl⟩ : ∃ j : Nat, n = (j : Int) := ⟨n.toNat, by omega⟩
      have hlt := val_lt hok
      by_cases hm : (j : Int) % 64 = 0
      · rw [if_pos (by simpa using hm)]
        have : rtS (j : Int) ws = true := rtS_iff.2 ⟨⟨h0, h1⟩, hl, by rw [Int.toNat_natCast]; rwa [show 64 * ws.length = j by omega] at hlt⟩
        rw [this]
      · rw [if_neg (by simpa using hm)]
        have hpos : 0 < ws.length := by omega
        have hi : IntKind.i64.wrap (((ws.length : Nat) : Int) - 1) = ((ws.length - 1 : Nat) : Int) := by rw [wrap_i64 (by omega) (by omega)]; omega
        have hget : ws[ws.length - 1]? = some (ws.getD (ws.length - 1) 0) := by rw [List.getD_eq_getElem?_getD, List.getElem?_eq_getElem (by omega)]; rfl
        have hr := hok.getD (ws.length - 1)
        rw [hi, bnd_of ((ix_nat _ _).trans hget), bnd_of (rem_pos h0 (by decide)), show (j : Int) % 64 = ((j % 64 : Nat) : Int) by omega, bnd_of (shr_nat hr.1 (Nat.mod_lt _ (by decide)))]
        have hli := last_iff hok hpos (n := j) (by omega)
        rw [show j - 64 * (ws.length - 1) = j % 64 by omega] at hli
        refine congrArg (fun b => (some (V.s (.bool b), []) : Option Out)) ?_
        rw [Bool.eq_iff_iff, rtS_iff]
        simp only [beq_iff_eq]
        constructor
        · intro h
          exact ⟨⟨h0, h1⟩, hl, by rw [Int.toNat_natCast]; exact hli.1 (by omega)⟩
        · rintro ⟨_, _, h⟩
          rw [Int.toNat_natCast] at h
          have := hli.2 h
          omega
    · rw [if_pos (by simp; omega)]
      have : rtS n ws = false := by rw [Bool.eq_false_iff]; intro h; exact hl (rtS_iff.1 h).2.1
      rw [this]
  · rw [br_if, if_pos (by simpa using hs)]
    have : rtS n ws = false := by rw [Bool.eq_false_iff]; intro h; exact hs (szB_iff.2 (rtS_iff.1 h).1)
    rw [this]
noncomputable def right_ent : List V → List Blk → Option (Bool × Out)
  | [.agg [.s (.int .i64 n), w0]], [] => (asSl (.int .u64) w0).bind fun ws => some ((okW ws), (.s (.bool (rtS n ws)), []))
  | _, _ => none
theorem right_ok : ∀ args bs out, right_ent args bs = some (true, out) → Fact Tryd.prog gTab 76 args bs out := by
  intro args bs out h
  unfold right_ent at h
  split at h
  · rename_i n w0
    obtain ⟨ws, h_ws, h⟩ := Option.bind_eq_some_iff.1 h
    simp only [Option.some.injEq, Prod.mk.injEq] at h
    obtain ⟨hg, rfl⟩ := h
    exact (right_fact n ws hg).args (fun _ _ _ => fun _ h => RVs_two (fun _ h => RV_agg_two (fun _ h => RVs_two (fun _ h => h) (fun _ h => RVs_two (fun _ h => RV_li h_ws h) (fun _ h => h) h) h) h) (fun _ h => h) h)
  · cases h
noncomputable def T_right : Tbl := Tbl.cons 76 right_ent T_fresh
theorem T_right_ok : CallOk Tryd.prog gTab T_right := cons_ok T_fresh_ok right_ok
/-! downpour/bitrow.Get -/
noncomputable def getF_s1 {R : Type} (ws : List Int) (n i : Int) (c0 : Int → Int → Option R) : Option R :=
  grd (okW ws) <|
  br (!(rtS n ws))
    (c0 0 1)
    (br (decide (i < 0))
      (c0 0 3)
      (br (decide (i ≥ n))
        (c0 0 3)
        (bnd (divI .quo .i64 i 64) fun v7 =>
        bnd (ix ws v7) fun e8 =>
        bnd (divI .rem .i64 i 64) fun v9 =>
        bnd (shfI .shr .u64 e8 v9) fun v10 =>
        c0 (IntKind.i64.wrap (andI .u64 v10 1)) 0)))
theorem getF_s1_eq (fuel : Nat)  (ws : List Int) (n i : Int) : callN Tryd.prog mode1 T_right fuel 70 [.agg [vI n, vW ws], vI i] [] = getF_s1 ws n i (fun a1 a2 => some (.tup [vI a1, vI a2], [])) := by kernel_rfl
noncomputable def getF {R : Type} (fuel : Nat) (n : Int) (ws : List Int) (i : Int) (r0 : Int → Int → Option R) : Option R :=
  (getF_s1 ws n i (fun a1 a2 => r0 a1 a2))
theorem getF_eq (fuel : Nat) (n : Int) (ws : List Int) (i : Int) : callN Tryd.prog mode1 T_right fuel 70 [.agg [.s (.int .i64 n), .li .u64 ws], .s (.int .i64 i)] [] = getF fuel n ws i (fun z0 z1 => some (.tup [.s (.int .i64 z0), .s (.int .i64 z1)], [])) := by
  unfold getF
  exact (getF_s1_eq fuel  ws n i)
theorem get_fact (n : Int) (ws : List Int) (i : Int) (hg : (okW ws) = true) : Fact Tryd.prog gTab 70 [.agg [.s (.int .i64 n), .li .u64 ws], .s (.int .i64 i)] [] (.tup [.s (.int .i64 (getS n ws i)), .s (.int .i64 (getErr n ws i))], []) := by
  have hok := okW_iff.1 hg
  refine callN_fact hN hM T_right_ok (n := 0) (mode := mode1) ?_
  rw [getF_eq]
  unfold getF getF_s1
  rw [grd_of hg, br_if, br_if, br_if, getS_eq, getErr_eq]
  unfold getI getErrI
  by_cases hr : rtS n ws = true
  · have hr' := rtS_iff.1 hr
    obtain ⟨⟨a1, a2⟩, a3, a4⟩ := hr'
    have hw := nw_cast a1
    rw [if_neg (by simp [hr])]
    by_cases h0 : i < 0
    · rw [if_pos (by simpa using h0)]
      have : ¬ (0 ≤ i ∧ i < n) := by omega
      simp [hr, this]
    · rw [if_neg (by simpa using h0)]
      by_cases h1 : i < n
      · rw [if_neg (by simp; omega)]
        obtain ⟨j, rfl⟩ : ∃ j : Nat, i = (j : Int) := ⟨i.toNat, by omega⟩
        have hj : j / 64 < ws.length := by omega
        have e1 : divI .quo .i64 (j : Int) 64 = some ((j / 64 : Nat) : Int) := by rw [quo_i64 (by omega) (by omega) (by decide)]; norm_cast
        have e2 : divI .rem .i64 (j : Int) 64 = some ((j % 64 : Nat) : Int) := by rw [rem_pos (by omega) (by decide)]; norm_cast
        have e4 : ix ws ((j / 64 : Nat) : Int) = some (ws.getD (j / 64) 0) := by rw [ix_nat, List.getD_eq_getElem?_getD, List.getElem?_eq_getElem hj]; rfl
        have hg2 := hok.getD (j / 64)
        have hb64 : j % 64 < 64 := Nat.mod_lt _ (by decide)
        simp only [e1, bnd_some, e4, e2, shr_nat hg2.1 hb64]
        have hq : (ws.getD (j / 64) 0).toNat / 2 ^ (j % 64) < 18446744073709551616 := Nat.lt_of_le_of_lt (Nat.div_le_self _ _) (by omega)
        have hw : IntKind.i64.wrap (andI .u64 (((ws.getD (j / 64) 0).toNat / 2 ^ (j % 64) : Nat) : Int) 1) = bitI ws (j : Int) := by
          rw [andI_nat (Int.natCast_nonneg _) (by omega) (by decide) (by decide), Int.toNat_natCast, show (1 : Int).toNat = 1 from rfl, Nat.and_one_is_mod, wrap_i64 (by omega) (by omega)]
          unfold bitI
          rw [Int.toNat_natCast, testBit_val hok, Nat.testBit_eq_decide_div_mod_eq]
          generalize (ws.getD (j / 64) 0).toNat / 2 ^ (j % 64) = q
          by_cases h : q % 2 = 1
          · simp [h]
          · simp [h]; omega
        rw [hw, if_pos ⟨hr, by omega, h1⟩, if_pos hr, if_pos ⟨by omega, h1⟩]
      · rw [if_pos (by simp; omega)]
        have : ¬ (0 ≤ i ∧ i < n) := by omega
        simp [hr, this]
  · rw [if_pos (by simp [hr])]
    simp [hr]
noncomputable def get_ent : List V → List Blk → Option (Bool × Out)
  | [.agg [.s (.int .i64 n), w0], .s (.int .i64 i)], [] => (asSl (.int .u64) w0).bind fun ws => some ((okW ws), (.tup [.s (.int .i64 (getS n ws i)), .s (.int .i64 (getErr n ws i))], []))
  | _, _ => none
theorem get_ok : ∀ args bs out, get_ent args bs = some (true, out) → Fact Tryd.prog gTab 70 args bs out := by
  intro args bs out h
  unfold get_ent at h
  split at h
  · rename_i n w0 i
    obtain ⟨ws, h_ws, h⟩ := Option.bind_eq_some_iff.1 h
    simp only [Option.some.injEq, Prod.mk.injEq] at h
    obtain ⟨hg, rfl⟩ := h
    exact (get_fact n ws i hg).args (fun _ _ _ => fun _ h => RVs_two (fun _ h => RV_agg_two (fun _ h => RVs_two (fun _ h => h) (fun _ h => RVs_two (fun _ h => RV_li h_ws h) (fun _ h => h) h) h) h) (fun _ h => h) h)
  · cases h
noncomputable def T_get : Tbl := Tbl.cons 70 get_ent T_right
theorem T_get_ok : CallOk Tryd.prog gTab T_get := cons_ok T_right_ok get_ok
def mode2 : FuncId → Nat := fun f => 0
/-! math/bits.TrailingZeros64 -/
def lays29_ren : Go.Shelf.Ren := ⟨fun | 29 => 127 | n => n, fun | 22 => 79 | 3 => 3 | 4 => 4 | 25 => 191 | 54 => 207 | 0 => 0 | 5 => 5 | n => n, fun | 1 => 0 | n => n⟩
theorem lays29 : Go.Proofs.Lays7.n29 Tryd.prog lays29_ren where
  mixed := by kernel_rfl
  f29 := Tryd.func127.trans (congrArg some (by kernel_rfl))
  t0 := Tryd.underlying0
  a0 := Tryd.isAgg0
  z0 := Tryd.sizeOf0
  v0 := Tryd.zeroValue0
  i0 := by kernel_rfl
  t3 := Tryd.underlying3
  a3 := Tryd.isAgg3
  z3 := Tryd.sizeOf3
  v3 := Tryd.zeroValue3
  i3 := by kernel_rfl
  t4 := Tryd.underlying4
  a4 := Tryd.isAgg4
  z4 := Tryd.sizeOf4
  v4 := Tryd.zeroValue4
  i4 := by kernel_rfl
  t5 := Tryd.underlying5
  a5 := Tryd.isAgg5
  z5 := Tryd.sizeOf5
  v5 := Tryd.zeroValue5
  i5 := by kernel_rfl
  t22 := Tryd.underlying79
  a22 := Tryd.isAgg79
  z22 := Tryd.sizeOf79
  v22 := Tryd.zeroValue79
  i22 := by kernel_rfl
  t25 := Tryd.underlying191
  a25 := Tryd.isAgg191
  z25 := Tryd.sizeOf191
  v25 := Tryd.zeroValue191
  i25 := by kernel_rfl
  t54 := Tryd.underlying207
  a54 := Tryd.isAgg207
  z54 := Tryd.sizeOf207
  g1 := by kernel_rfl
noncomputable def tzI (x : Int) : Int := (Lib.ctz 64 x.toNat : Nat)
noncomputable def tzS : Int → Int := Classical.choose (⟨tzI, rfl⟩ : ∃ f, f = tzI)
theorem tzS_eq : tzS = tzI := Classical.choose_spec (⟨tzI, rfl⟩ : ∃ f, f = tzI)
theorem tz_fact (x : Int) (hg : (decide (1 ≤ x) && decide (x < 18446744073709551616)) = true) : Fact Tryd.prog gTab 127 [.s (.int .u64 x)] [] (.s (.int .i64 (tzS x)), []) := by
  simp only [Bool.and_eq_true, decide_eq_true_eq] at hg
  refine fact_pure (Go.PM.enters_of (by kernel_rfl)) fun w ρ I xs hG hr => ?_
  simp only [RVs, RV] at hr
  obtain ⟨y, r, rfl, rfl, rfl⟩ := hr
  have hT : TabAt 0 Lib.deBruijn64tab w := fun j hj => (hG 0 _ rfl).2 j _ (by
    rw [List.getElem?_map, List.getD_eq_getElem?_getD, List.getElem?_eq_getElem hj]; rfl)
  obtain ⟨n, rfl⟩ : ∃ n : Nat, x = (n : Int) := ⟨x.toNat, by omega⟩
  have h := Any7.bits_TrailingZeros64 lays29 n (by omega) w (fun _ => hT)
  refine h.mono fun e w' ⟨he, hw⟩ => ⟨_, he, hw, ?_⟩
  simp only [RV]
  rw [tzS_eq]
  rfl
noncomputable def tz_ent : List V → List Blk → Option (Bool × Out)
  | [.s (.int .u64 x)], [] => some ((decide (1 ≤ x) && decide (x < 18446744073709551616)), (.s (.int .i64 (tzS x)), []))
  | _, _ => none
theorem tz_ok : ∀ args bs out, tz_ent args bs = some (true, out) → Fact Tryd.prog gTab 127 args bs out := by
  intro args bs out h
  unfold tz_ent at h
  split at h
  · rename_i x
    simp only [Option.some.injEq, Prod.mk.injEq] at h
    obtain ⟨hg, rfl⟩ := h
    exact tz_fact x hg
  · cases h
noncomputable def T_tz : Tbl := Tbl.cons 127 tz_ent T_get
theorem T_tz_ok : CallOk Tryd.prog gTab T_tz := cons_ok T_get_ok tz_ok
def mode3 : FuncId → Nat := fun f => bif Nat.beq f 77 then 2 else bif Nat.beq f 125 then 2 else bif Nat.beq f 78 then 2 else 0
/-! downpour/bitrow.places -/
noncomputable def placesF_s1 {R : Type} (n : Int) (ws : List Int) (c0 : Nat → Int → List Int → Option R) : Option R :=
  c0 0 n ws
theorem placesF_s1_eq (fuel : Nat)  (n : Int) (ws : List Int) : callN Tryd.prog mode3 T_tz fuel 78 [.agg [vI n, vW ws]] [] = placesF_s1 n ws (fun a1 a2 a3 => some (.fn (.func 126) [] [.ptr 0 2 a1 0], [some ⟨44, .agg [vI a2, vW a3], true⟩])) := by kernel_rfl
noncomputable def placesF {R : Type} (fuel : Nat) (n : Int) (ws : List Int) (r0 : Nat → Int → List Int → Option R) : Option R :=
  (placesF_s1 n ws (fun a1 a2 a3 => r0 a1 a2 a3))
theorem placesF_eq (fuel : Nat) (n : Int) (ws : List Int) : callN Tryd.prog mode3 T_tz fuel 78 [.agg [.s (.int .i64 n), .li .u64 ws]] [] = placesF fuel n ws (fun z0 z1 z2 => some (.fn (.func 126) [] [.ptr 0 2 z0 0], [some ⟨44, .agg [.s (.int .i64 z1), .li .u64 z2], true⟩])) := by
  unfold placesF
  exact (placesF_s1_eq fuel  n ws)
theorem places_fact (n : Int) (ws : List Int) : Fact Tryd.prog gTab 78 [.agg [.s (.int .i64 n), .li .u64 ws]] [] (.fn (.func 126) [] [.ptr 0 2 0 0], [some ⟨44, .agg [.s (.int .i64 n), .li .u64 ws], true⟩]) := by
  refine callN_fact hN hM T_tz_ok (n := 0) (mode := mode3) ?_
  rw [placesF_eq]
  rfl
noncomputable def places_ent : List V → List Blk → Option (Bool × Out)
  | [.agg [.s (.int .i64 n), w0]], [] => (asSl (.int .u64) w0).bind fun ws => some (true, (.fn (.func 126) [] [.ptr 0 2 0 0], [some ⟨44, .agg [.s (.int .i64 n), .li .u64 ws], true⟩]))
  | _, _ => none
theorem places_ok : ∀ args bs out, places_ent args bs = some (true, out) → Fact Tryd.prog gTab 78 args bs out := by
  intro args bs out h
  unfold places_ent at h
  split at h
  · rename_i n w0
    obtain ⟨ws, h_ws, h⟩ := Option.bind_eq_some_iff.1 h
    simp only [Option.some.injEq, Prod.mk.injEq] at h
    obtain ⟨_, rfl⟩ := h
    exact (places_fact n ws).args (fun _ _ _ => fun _ h => RVs_two (fun _ h => RV_agg_two (fun _ h => RVs_two (fun _ h => h) (fun _ h => RVs_two (fun _ h => RV_li h_ws h) (fun _ h => h) h) h) h) (fun _ h => h) h)
  · cases h
noncomputable def T_places : Tbl := Tbl.cons 78 places_ent T_tz
theorem T_places_ok : CallOk Tryd.prog gTab T_places := cons_ok T_tz_ok places_ok
/-! slices.AppendSeq[[]int,int] -/
noncomputable abbrev qa0 : List (Nat × V) := [(2, .ptr 1 1 0 0), (4, vN), (6, .fn (.func 126) [] [.ptr 0 2 0 0])]
noncomputable abbrev qa1 : Code := (sub (bodyOf Tryd.prog 125) [1, 0, 1, 0, 0])
noncomputable abbrev qa2 : Code := (sub (bodyOf Tryd.prog 125) [1, 0, 1, 0, 1])
noncomputable abbrev qa3 (n : Int) (ws : List Int) : Nat × Option Blk := (0, some ⟨44, .agg [vI n, vW ws], true⟩)
noncomputable abbrev qa4 (fuel : Nat) : Ctx Out := (fnX Tryd.prog mode3 T_places fuel 13 1)
noncomputable abbrev qa5 : Code := (sub (bodyOf Tryd.prog 126) [1, 0, 0])
noncomputable abbrev qa6 : Nat × Option Blk := (1, some ⟨26, .agg [vN], true⟩)
noncomputable abbrev qa7 : List Nat := [0, 3, 4, 6, 7, 8, 9, 10, 11, 12]
noncomputable abbrev qa8 : Code := (sub qa5 [1, 1, 0, 0, 1, 0, 0])
noncomputable abbrev qa9 : List Nat := [0, 6, 7, 8]
noncomputable def plcAppF_s4 {R : Type} (w0 : Int) (w1 : List Int) (w2 : Nat) (w3 : Int) (ws : List Int) (w4 : Int) (w5 : Bool) (e0 n : Int) (c0 : Int → Nat → List Int → Option R) (c1 : Int → Bool → Nat → List Int → Option R) : Option R :=
  br (w0 != 0)
    (grd (decide (1 ≤ w0) && decide (w0 < 18446744073709551616)) <|
    grd (Nat.beq w1.length w2) <|
    grd (okN (w2 + 1) 8) <|
    c0 (andI .u64 w0 (IntKind.u64.wrap (w0 - 1))) ((w1 ++ [(IntKind.i64.wrap ((IntKind.i64.wrap (w3 * 64)) + (tzS w0)))]).length) (w1 ++ [(IntKind.i64.wrap ((IntKind.i64.wrap (w3 * 64)) + (tzS w0)))]))
    (c1 w0 (w0 != 0) w2 w1)
theorem plcAppF_s4_eq (fuel k : Nat) (K : Ex → St → Option Out) (w0 : Int) (w1 : List Int) (w2 : Nat) (w3 : Int) (ws : List Int) (w4 : Int) (w5 : Bool) (e0 n : Int) : lpN qa8 (itX Tryd.prog mode3 T_places fuel 3 28 3 2 (roundK (evC qa1) (evC qa2) (qa4 fuel) #[7] 3876 qa0)) 268435417 qa7 (k + 1) ⟨[(0, .yl 2), (3, vI w3), (4, vU w0), (6, vW ws), (7, vI w4), (8, vI w3), (9, vB w5), (10, vI w3), (11, .lp [vU e0] 0), (12, vU e0)], [(qa3 n ws), (1, some ⟨26, .agg [.sl 3 1 0 w2], true⟩), (2, none), (3, bL 3 w1)], 4, none⟩ K = plcAppF_s4 w0 w1 w2 w3 ws w4 w5 e0 n (fun a0 a1 a2 => lpN qa8 (itX Tryd.prog mode3 T_places fuel 3 28 3 2 (roundK (evC qa1) (evC qa2) (qa4 fuel) #[7] 3876 qa0)) 268435417 qa7 k ⟨[(0, .yl 2), (3, vI w3), (4, vU a0), (6, vW ws), (7, vI w4), (8, vI w3), (9, vB w5), (10, vI w3), (11, .lp [vU e0] 0), (12, vU e0)], [(qa3 n ws), (1, some ⟨26, .agg [.sl 3 1 0 a1], true⟩), (2, none), (3, bL 3 a2)], 4, none⟩ K) (fun a3 a4 a5 a6 => K (.exit 2) ⟨[(0, .yl 2), (3, vI w3), (4, vU a3), (6, vW ws), (7, vI w4), (8, vI w3), (9, vB w5), (10, vI w3), (11, .lp [vU e0] 0), (12, vU e0), (13, vU a3), (14, vB a4)], [(qa3 n ws), (1, some ⟨26, .agg [.sl 3 1 0 a5], true⟩), (2, none), (3, bL 3 a6)], 4, none⟩) := by kernel_rfl
noncomputable def plcAppF_l3 {R : Type} (fuel : Nat) (w0 : Int) (ws : List Int) (w1 : Int) (w2 : Bool) (e0 n : Int) (k0 : Int → Bool → Nat → List Int → Option R) : Nat → Int → Nat → List Int → Option R
  | 0, _, _, _ => none
  | k + 1, w3, w4, w5 =>
    (plcAppF_s4 w3 w5 w4 w0 ws w1 w2 e0 n (fun a0 a1 a2 => ( plcAppF_l3 fuel w0 ws w1 w2 e0 n k0 k a0 a1 a2 )) (fun a3 a4 a5 a6 => k0 a3 a4 a5 a6))
theorem plcAppF_l3_eq (fuel : Nat) (w0 : Int) (ws : List Int) (w1 : Int) (w2 : Bool) (e0 n : Int) (K : Ex → St → Option Out) : ∀ (k : Nat) (w3 : Int) (w4 : Nat) (w5 : List Int), lpN qa8 (itX Tryd.prog mode3 T_places fuel 3 28 3 2 (roundK (evC qa1) (evC qa2) (qa4 fuel) #[7] 3876 qa0)) 268435417 qa7 k ⟨[(0, .yl 2), (3, vI w0), (4, vU w3), (6, vW ws), (7, vI w1), (8, vI w0), (9, vB w2), (10, vI w0), (11, .lp [vU e0] 0), (12, vU e0)], [(qa3 n ws), (1, some ⟨26, .agg [.sl 3 1 0 w4], true⟩), (2, none), (3, bL 3 w5)], 4, none⟩ K = plcAppF_l3 fuel w0 ws w1 w2 e0 n (fun y0 y1 y2 y3 => K (.exit 2) ⟨[(0, .yl 2), (3, vI w0), (4, vU y0), (6, vW ws), (7, vI w1), (8, vI w0), (9, vB w2), (10, vI w0), (11, .lp [vU e0] 0), (12, vU e0), (13, vU y0), (14, vB y1)], [(qa3 n ws), (1, some ⟨26, .agg [.sl 3 1 0 y2], true⟩), (2, none), (3, bL 3 y3)], 4, none⟩) k w3 w4 w5
  | 0, _, _, _ => rfl
  | k + 1, w3, w4, w5 => by
    unfold plcAppF_l3
    exact (plcAppF_s4_eq fuel k K w3 w5 w4 w0 ws w1 w2 e0 n).trans (congr (congr (Eq.refl (plcAppF_s4 (R := Out) w3 w5 w4 w0 ws w1 w2 e0 n)) (funext fun a0 => funext fun a1 => funext fun a2 => plcAppF_l3_eq fuel w0 ws w1 w2 e0 n K k a0 a1 a2)) (rfl))
noncomputable def plcAppF_s3 {R : Type} (e0 w0 : Int) (w1 : Bool) (ws : List Int) (w2 n : Int) (c0 : Int → Nat → List Int → Option R) (c1 : Bool → Bool → Option R) : Option R :=
  br (e0 != 0)
    (grd (decide (1 ≤ e0) && decide (e0 < 18446744073709551616)) <|
    c0 (andI .u64 e0 (IntKind.u64.wrap (e0 - 1))) 1 ([(IntKind.i64.wrap ((IntKind.i64.wrap (w0 * 64)) + (tzS e0)))]))
    (c1 w1 (e0 != 0))
theorem plcAppF_s3_eq (fuel k : Nat) (K : Ex → St → Option Out) (e0 w0 : Int) (w1 : Bool) (ws : List Int) (w2 n : Int) : lpN qa8 (itX Tryd.prog mode3 T_places fuel 3 28 3 2 (roundK (evC qa1) (evC qa2) (qa4 fuel) #[7] 3876 qa0)) 268435417 qa7 (k + 1) ⟨[(0, .yl 2), (3, vI w0), (4, vU e0), (6, vW ws), (7, vI w2), (8, vI w0), (9, vB w1), (10, vI w0), (11, .lp [vU e0] 0), (12, vU e0)], [(qa3 n ws), qa6, (2, none)], 3, none⟩ K = plcAppF_s3 e0 w0 w1 ws w2 n (fun a0 a1 a2 => lpN qa8 (itX Tryd.prog mode3 T_places fuel 3 28 3 2 (roundK (evC qa1) (evC qa2) (qa4 fuel) #[7] 3876 qa0)) 268435417 qa7 k ⟨[(0, .yl 2), (3, vI w0), (4, vU a0), (6, vW ws), (7, vI w2), (8, vI w0), (9, vB w1), (10, vI w0), (11, .lp [vU e0] 0), (12, vU e0)], [(qa3 n ws), (1, some ⟨26, .agg [.sl 3 1 0 a1], true⟩), (2, none), (3, bL 3 a2)], 4, none⟩ K) (fun a3 a4 => K (.exit 2) ⟨[(0, .yl 2), (3, vI w0), (4, vU e0), (6, vW ws), (7, vI w2), (8, vI w0), (9, vB a3), (10, vI w0), (11, .lp [vU e0] 0), (12, vU e0), (13, vU e0), (14, vB a4)], [(qa3 n ws), qa6, (2, none)], 3, none⟩) := by kernel_rfl
noncomputable def plcAppF_l2 {R : Type} (fuel : Nat) (w0 e0 : Int) (ws : List Int) (w1 n : Int) (k0 : Int → Bool → Bool → Nat → List Int → Option R) (k1 : Bool → Bool → Option R) : Nat → Bool → Option R
  | 0, _ => none
  | k + 1, w2 =>
    (plcAppF_s3 e0 w0 w2 ws w1 n (fun a0 a1 a2 => (plcAppF_l3 fuel w0 ws w1 w2 e0 n (fun x0 x1 x2 x3 => k0 x0 w2 x1 x2 x3) k a0 a1 a2)) (fun a3 a4 => k1 a3 a4))
theorem plcAppF_l2_eq (fuel : Nat) (w0 e0 : Int) (ws : List Int) (w1 n : Int) (K : Ex → St → Option Out) : ∀ (k : Nat) (w2 : Bool), lpN qa8 (itX Tryd.prog mode3 T_places fuel 3 28 3 2 (roundK (evC qa1) (evC qa2) (qa4 fuel) #[7] 3876 qa0)) 268435417 qa7 k ⟨[(0, .yl 2), (3, vI w0), (4, vU e0), (6, vW ws), (7, vI w1), (8, vI w0), (9, vB w2), (10, vI w0), (11, .lp [vU e0] 0), (12, vU e0)], [(qa3 n ws), qa6, (2, none)], 3, none⟩ K = plcAppF_l2 fuel w0 e0 ws w1 n (fun y0 y1 y2 y3 y4 => K (.exit 2) ⟨[(0, .yl 2), (3, vI w0), (4, vU y0), (6, vW ws), (7, vI w1), (8, vI w0), (9, vB y1), (10, vI w0), (11, .lp [vU e0] 0), (12, vU e0), (13, vU y0), (14, vB y2)], [(qa3 n ws), (1, some ⟨26, .agg [.sl 3 1 0 y3], true⟩), (2, none), (3, bL 3 y4)], 4, none⟩) (fun y5 y6 => K (.exit 2) ⟨[(0, .yl 2), (3, vI w0), (4, vU e0), (6, vW ws), (7, vI w1), (8, vI w0), (9, vB y5), (10, vI w0), (11, .lp [vU e0] 0), (12, vU e0), (13, vU e0), (14, vB y6)], [(qa3 n ws), qa6, (2, none)], 3, none⟩) k w2
  | 0, _ => rfl
  | k + 1, w2 => by
    unfold plcAppF_l2
    exact (plcAppF_s3_eq fuel k K e0 w0 w2 ws w1 n).trans (congr (congr (Eq.refl (plcAppF_s3 (R := Out) e0 w0 w2 ws w1 n)) (funext fun a0 => funext fun a1 => funext fun a2 => plcAppF_l3_eq fuel w0 ws w1 w2 e0 n K k a0 a1 a2)) (rfl))
noncomputable def plcAppF_s7 {R : Type} (w0 : Int) (w1 : List Int) (w2 : Nat) (w3 : Bool) (w4 : Int) (ws : List Int) (w5 e0 n : Int) (c0 : Int → Bool → Nat → List Int → Option R) (c1 : Int → Bool → Bool → Nat → List Int → Option R) : Option R :=
  br (w0 != 0)
    (grd (decide (1 ≤ w0) && decide (w0 < 18446744073709551616)) <|
    grd (Nat.beq w1.length w2) <|
    grd (okN (w2 + 1) 8) <|
    c0 (andI .u64 w0 (IntKind.u64.wrap (w0 - 1))) w3 ((w1 ++ [(IntKind.i64.wrap ((IntKind.i64.wrap (w4 * 64)) + (tzS w0)))]).length) (w1 ++ [(IntKind.i64.wrap ((IntKind.i64.wrap (w4 * 64)) + (tzS w0)))]))
    (c1 w0 w3 (w0 != 0) w2 w1)
theorem plcAppF_s7_eq (fuel k : Nat) (K : Ex → St → Option Out) (w0 : Int) (w1 : List Int) (w2 : Nat) (w3 : Bool) (w4 : Int) (ws : List Int) (w5 e0 n : Int) : lpN qa8 (itX Tryd.prog mode3 T_places fuel 3 28 3 2 (roundK (evC qa1) (evC qa2) (qa4 fuel) #[7] 3876 qa0)) 268435417 qa7 (k + 1) ⟨[(0, .yl 2), (3, vI w4), (4, vU w0), (6, vW ws), (7, vI w5), (8, vI w4), (9, vB w3), (10, vI w4), (11, .lp [vU e0] 0), (12, vU e0)], [(qa3 n ws), (1, some ⟨26, .agg [.sl 3 1 0 w2], true⟩), (2, none), (3, bL 3 w1)], 4, none⟩ K = plcAppF_s7 w0 w1 w2 w3 w4 ws w5 e0 n (fun a0 a1 a2 a3 => lpN qa8 (itX Tryd.prog mode3 T_places fuel 3 28 3 2 (roundK (evC qa1) (evC qa2) (qa4 fuel) #[7] 3876 qa0)) 268435417 qa7 k ⟨[(0, .yl 2), (3, vI w4), (4, vU a0), (6, vW ws), (7, vI w5), (8, vI w4), (9, vB a1), (10, vI w4), (11, .lp [vU e0] 0), (12, vU e0)], [(qa3 n ws), (1, some ⟨26, .agg [.sl 3 1 0 a2], true⟩), (2, none), (3, bL 3 a3)], 4, none⟩ K) (fun a4 a5 a6 a7 a8 => K (.exit 2) ⟨[(0, .yl 2), (3, vI w4), (4, vU a4), (6, vW ws), (7, vI w5), (8, vI w4), (9, vB a5), (10, vI w4), (11, .lp [vU e0] 0), (12, vU e0), (13, vU a4), (14, vB a6)], [(qa3 n ws), (1, some ⟨26, .agg [.sl 3 1 0 a7], true⟩), (2, none), (3, bL 3 a8)], 4, none⟩) := by kernel_rfl
noncomputable def plcAppF_l5 {R : Type} (fuel : Nat) (w0 : Int) (ws : List Int) (w1 e0 n : Int) (k0 : Int → Bool → Bool → Nat → List Int → Option R) : Nat → Int → Bool → Nat → List Int → Option R
  | 0, _, _, _, _ => none
  | k + 1, w2, w3, w4, w5 =>
    (plcAppF_s7 w2 w5 w4 w3 w0 ws w1 e0 n (fun a0 a1 a2 a3 => ( plcAppF_l5 fuel w0 ws w1 e0 n k0 k a0 a1 a2 a3 )) (fun a4 a5 a6 a7 a8 => k0 a4 a5 a6 a7 a8))
theorem plcAppF_l5_eq (fuel : Nat) (w0 : Int) (ws : List Int) (w1 e0 n : Int) (K : Ex → St → Option Out) : ∀ (k : Nat) (w2 : Int) (w3 : Bool) (w4 : Nat) (w5 : List Int), lpN qa8 (itX Tryd.prog mode3 T_places fuel 3 28 3 2 (roundK (evC qa1) (evC qa2) (qa4 fuel) #[7] 3876 qa0)) 268435417 qa7 k ⟨[(0, .yl 2), (3, vI w0), (4, vU w2), (6, vW ws), (7, vI w1), (8, vI w0), (9, vB w3), (10, vI w0), (11, .lp [vU e0] 0), (12, vU e0)], [(qa3 n ws), (1, some ⟨26, .agg [.sl 3 1 0 w4], true⟩), (2, none), (3, bL 3 w5)], 4, none⟩ K = plcAppF_l5 fuel w0 ws w1 e0 n (fun y0 y1 y2 y3 y4 => K (.exit 2) ⟨[(0, .yl 2), (3, vI w0), (4, vU y0), (6, vW ws), (7, vI w1), (8, vI w0), (9, vB y1), (10, vI w0), (11, .lp [vU e0] 0), (12, vU e0), (13, vU y0), (14, vB y2)], [(qa3 n ws), (1, some ⟨26, .agg [.sl 3 1 0 y3], true⟩), (2, none), (3, bL 3 y4)], 4, none⟩) k w2 w3 w4 w5
  | 0, _, _, _, _ => rfl
  | k + 1, w2, w3, w4, w5 => by
    unfold plcAppF_l5
    exact (plcAppF_s7_eq fuel k K w2 w5 w4 w3 w0 ws w1 e0 n).trans (congr (congr (Eq.refl (plcAppF_s7 (R := Out) w2 w5 w4 w3 w0 ws w1 e0 n)) (funext fun a0 => funext fun a1 => funext fun a2 => funext fun a3 => plcAppF_l5_eq fuel w0 ws w1 e0 n K k a0 a1 a2 a3)) (rfl))
noncomputable def plcAppF_s8 {R : Type} (w0 : Int) (x0 : Nat) (x1 : List Int) (x2 : Int) (ws : List Int) (w1 : Int) (x3 : Bool) (e0 : Int) (x4 : Bool) (n : Int) (c0 : Int → Nat → List Int → Option R) : Option R :=
  c0 (IntKind.i64.wrap (w0 + 1)) x0 x1
theorem plcAppF_s8_eq (fuel k : Nat) (K : Ex → St → Option Out) (w0 : Int) (x0 : Nat) (x1 : List Int) (x2 : Int) (ws : List Int) (w1 : Int) (x3 : Bool) (e0 : Int) (x4 : Bool) (n : Int) : (kont (itX Tryd.prog mode3 T_places fuel 3 28 3 2 (roundK (evC qa1) (evC qa2) (qa4 fuel) #[7] 3876 qa0)) qa5 [1, 1, 0, 0, 1, 0] 268435417 (rdK qa5 (itX Tryd.prog mode3 T_places fuel 3 28 3 2 (roundK (evC qa1) (evC qa2) (qa4 fuel) #[7] 3876 qa0)) 0 qa9 k K)) (.exit 2) ⟨[(0, .yl 2), (3, vI w0), (4, vU x2), (6, vW ws), (7, vI w1), (8, vI w0), (9, vB x3), (10, vI w0), (11, .lp [vU e0] 0), (12, vU e0), (13, vU x2), (14, vB x4)], [(qa3 n ws), (1, some ⟨26, .agg [.sl 3 1 0 x0], true⟩), (2, none), (3, bL 3 x1)], 4, none⟩ = plcAppF_s8 w0 x0 x1 x2 ws w1 x3 e0 x4 n (fun a0 a1 a2 => lpN qa5 (itX Tryd.prog mode3 T_places fuel 3 28 3 2 (roundK (evC qa1) (evC qa2) (qa4 fuel) #[7] 3876 qa0)) 0 qa9 k ⟨[(0, .yl 2), (6, vW ws), (7, vI w1), (8, vI a0)], [(qa3 n ws), (1, some ⟨26, .agg [.sl 3 1 0 a1], true⟩), (2, none), (3, bL 3 a2)], 4, none⟩ K) := by kernel_rfl
noncomputable def plcAppF_s6 {R : Type} (w0 w1 : Int) (ws : List Int) (w2 : Nat) (w3 : List Int) (n : Int) (c0 : Int → Bool → Nat → List Int → Int → Option R) (c1 : Nat → List Int → Option R) : Option R :=
  br (decide (w0 < w1))
    (bnd (ix ws w0) fun e0 =>
    c0 e0 (decide (w0 < w1)) w2 w3 e0)
    (c1 w2 w3)
theorem plcAppF_s6_eq (fuel k : Nat) (K : Ex → St → Option Out) (w0 w1 : Int) (ws : List Int) (w2 : Nat) (w3 : List Int) (n : Int) : lpN qa5 (itX Tryd.prog mode3 T_places fuel 3 28 3 2 (roundK (evC qa1) (evC qa2) (qa4 fuel) #[7] 3876 qa0)) 0 qa9 (k + 1) ⟨[(0, .yl 2), (6, vW ws), (7, vI w1), (8, vI w0)], [(qa3 n ws), (1, some ⟨26, .agg [.sl 3 1 0 w2], true⟩), (2, none), (3, bL 3 w3)], 4, none⟩ K = plcAppF_s6 w0 w1 ws w2 w3 n (fun a0 a1 a2 a3 e0 => lpN qa8 (itX Tryd.prog mode3 T_places fuel 3 28 3 2 (roundK (evC qa1) (evC qa2) (qa4 fuel) #[7] 3876 qa0)) 268435417 qa7 fuel ⟨[(0, .yl 2), (3, vI w0), (4, vU a0), (6, vW ws), (7, vI w1), (8, vI w0), (9, vB a1), (10, vI w0), (11, .lp [vU e0] 0), (12, vU e0)], [(qa3 n ws), (1, some ⟨26, .agg [.sl 3 1 0 a2], true⟩), (2, none), (3, bL 3 a3)], 4, none⟩ (kont (itX Tryd.prog mode3 T_places fuel 3 28 3 2 (roundK (evC qa1) (evC qa2) (qa4 fuel) #[7] 3876 qa0)) qa5 [1, 1, 0, 0, 1, 0] 268435417 (rdK qa5 (itX Tryd.prog mode3 T_places fuel 3 28 3 2 (roundK (evC qa1) (evC qa2) (qa4 fuel) #[7] 3876 qa0)) 0 qa9 k K))) (fun a4 a5 => K (.exit 0) ⟨[], [(qa3 n ws), (1, some ⟨26, .agg [.sl 3 1 0 a4], true⟩), (2, none), (3, bL 3 a5)], 4, none⟩) := by kernel_rfl
noncomputable def plcAppF_l4 {R : Type} (fuel : Nat) (ws : List Int) (w0 n : Int) (k0 : Nat → List Int → Option R) : Nat → Int → Nat → List Int → Option R
  | 0, _, _, _ => none
  | k + 1, w1, w2, w3 =>
    (plcAppF_s6 w1 w0 ws w2 w3 n (fun a0 a1 a2 a3 e0 => (plcAppF_l5 fuel w1 ws w0 e0 n (fun x0 x1 x2 x3 x4 => (plcAppF_s8 w1 x3 x4 x0 ws w0 x1 e0 x2 n (fun a4 a5 a6 => ( plcAppF_l4 fuel ws w0 n k0 k a4 a5 a6 )))) fuel a0 a1 a2 a3)) (fun a7 a8 => k0 a7 a8))
theorem plcAppF_l4_eq (fuel : Nat) (ws : List Int) (w0 n : Int) (K : Ex → St → Option Out) : ∀ (k : Nat) (w1 : Int) (w2 : Nat) (w3 : List Int), lpN qa5 (itX Tryd.prog mode3 T_places fuel 3 28 3 2 (roundK (evC qa1) (evC qa2) (qa4 fuel) #[7] 3876 qa0)) 0 qa9 k ⟨[(0, .yl 2), (6, vW ws), (7, vI w0), (8, vI w1)], [(qa3 n ws), (1, some ⟨26, .agg [.sl 3 1 0 w2], true⟩), (2, none), (3, bL 3 w3)], 4, none⟩ K = plcAppF_l4 fuel ws w0 n (fun y0 y1 => K (.exit 0) ⟨[], [(qa3 n ws), (1, some ⟨26, .agg [.sl 3 1 0 y0], true⟩), (2, none), (3, bL 3 y1)], 4, none⟩) k w1 w2 w3
  | 0, _, _, _ => rfl
  | k + 1, w1, w2, w3 => by
    unfold plcAppF_l4
    exact (plcAppF_s6_eq fuel k K w1 w0 ws w2 w3 n).trans (congr (congr (Eq.refl (plcAppF_s6 (R := Out) w1 w0 ws w2 w3 n)) (funext fun a0 => funext fun a1 => funext fun a2 => funext fun a3 => funext fun e0 => (plcAppF_l5_eq fuel w1 ws w0 e0 n (kont (itX Tryd.prog mode3 T_places fuel 3 28 3 2 (roundK (evC qa1) (evC qa2) (qa4 fuel) #[7] 3876 qa0)) qa5 [1, 1, 0, 0, 1, 0] 268435417 (rdK qa5 (itX Tryd.prog mode3 T_places fuel 3 28 3 2 (roundK (evC qa1) (evC qa2) (qa4 fuel) #[7] 3876 qa0)) 0 qa9 k K)) fuel a0 a1 a2 a3).trans (congrFun (congrFun (congrFun (congrFun (congrFun (congr (Eq.refl (plcAppF_l5 (R := Out) fuel w1 ws w0 e0 n)) (funext fun x0 => funext fun x1 => funext fun x2 => funext fun x3 => funext fun x4 => (plcAppF_s8_eq fuel k K w1 x3 x4 x0 ws w0 x1 e0 x2 n).trans (congr (Eq.refl (plcAppF_s8 (R := Out) w1 x3 x4 x0 ws w0 x1 e0 x2 n)) (funext fun a4 => funext fun a5 => funext fun a6 => plcAppF_l4_eq fuel ws w0 n K k a4 a5 a6)))) fuel) a0) a1) a2) a3))) (rfl))
noncomputable def plcAppF_s5 {R : Type} (w0 : Int) (x0 : Nat) (x1 : List Int) (x2 : Int) (ws : List Int) (w1 : Int) (x3 : Bool) (e0 : Int) (x4 : Bool) (n : Int) (c0 : Int → Nat → List Int → Option R) : Option R :=
  c0 (IntKind.i64.wrap (w0 + 1)) x0 x1
theorem plcAppF_s5_eq (fuel k : Nat) (K : Ex → St → Option Out) (w0 : Int) (x0 : Nat) (x1 : List Int) (x2 : Int) (ws : List Int) (w1 : Int) (x3 : Bool) (e0 : Int) (x4 : Bool) (n : Int) : (kont (itX Tryd.prog mode3 T_places fuel 3 28 3 2 (roundK (evC qa1) (evC qa2) (qa4 fuel) #[7] 3876 qa0)) qa5 [1, 1, 0, 0, 1, 0] 268435417 (rdK qa5 (itX Tryd.prog mode3 T_places fuel 3 28 3 2 (roundK (evC qa1) (evC qa2) (qa4 fuel) #[7] 3876 qa0)) 0 qa9 k K)) (.exit 2) ⟨[(0, .yl 2), (3, vI w0), (4, vU x2), (6, vW ws), (7, vI w1), (8, vI w0), (9, vB x3), (10, vI w0), (11, .lp [vU e0] 0), (12, vU e0), (13, vU x2), (14, vB x4)], [(qa3 n ws), (1, some ⟨26, .agg [.sl 3 1 0 x0], true⟩), (2, none), (3, bL 3 x1)], 4, none⟩ = plcAppF_s5 w0 x0 x1 x2 ws w1 x3 e0 x4 n (fun a0 a1 a2 => lpN qa5 (itX Tryd.prog mode3 T_places fuel 3 28 3 2 (roundK (evC qa1) (evC qa2) (qa4 fuel) #[7] 3876 qa0)) 0 qa9 k ⟨[(0, .yl 2), (6, vW ws), (7, vI w1), (8, vI a0)], [(qa3 n ws), (1, some ⟨26, .agg [.sl 3 1 0 a1], true⟩), (2, none), (3, bL 3 a2)], 4, none⟩ K) := by kernel_rfl
noncomputable def plcAppF_s9 {R : Type} (w0 w1 e0 : Int) (ws : List Int) (x0 x1 : Bool) (n : Int) (c0 : Int → Int → Option R) : Option R :=
  c0 w0 (IntKind.i64.wrap (w1 + 1))
theorem plcAppF_s9_eq (fuel k : Nat) (K : Ex → St → Option Out) (w0 w1 e0 : Int) (ws : List Int) (x0 x1 : Bool) (n : Int) : (kont (itX Tryd.prog mode3 T_places fuel 3 28 3 2 (roundK (evC qa1) (evC qa2) (qa4 fuel) #[7] 3876 qa0)) qa5 [1, 1, 0, 0, 1, 0] 268435417 (rdK qa5 (itX Tryd.prog mode3 T_places fuel 3 28 3 2 (roundK (evC qa1) (evC qa2) (qa4 fuel) #[7] 3876 qa0)) 0 qa9 k K)) (.exit 2) ⟨[(0, .yl 2), (3, vI w1), (4, vU e0), (6, vW ws), (7, vI w0), (8, vI w1), (9, vB x0), (10, vI w1), (11, .lp [vU e0] 0), (12, vU e0), (13, vU e0), (14, vB x1)], [(qa3 n ws), qa6, (2, none)], 3, none⟩ = plcAppF_s9 w0 w1 e0 ws x0 x1 n (fun a0 a1 => lpN qa5 (itX Tryd.prog mode3 T_places fuel 3 28 3 2 (roundK (evC qa1) (evC qa2) (qa4 fuel) #[7] 3876 qa0)) 0 qa9 k ⟨[(0, .yl 2), (6, vW ws), (7, vI a0), (8, vI a1)], [(qa3 n ws), qa6, (2, none)], 3, none⟩ K) := by kernel_rfl
noncomputable def plcAppF_s2 {R : Type} (w0 w1 : Int) (ws : List Int) (n : Int) (c0 : Bool → Int → Option R) (c1 : Option R) : Option R :=
  br (decide (w0 < w1))
    (bnd (ix ws w0) fun e0 =>
    c0 (decide (w0 < w1)) e0)
    (c1)
theorem plcAppF_s2_eq (fuel k : Nat) (K : Ex → St → Option Out) (w0 w1 : Int) (ws : List Int) (n : Int) : lpN qa5 (itX Tryd.prog mode3 T_places fuel 3 28 3 2 (roundK (evC qa1) (evC qa2) (qa4 fuel) #[7] 3876 qa0)) 0 qa9 (k + 1) ⟨[(0, .yl 2), (6, vW ws), (7, vI w1), (8, vI w0)], [(qa3 n ws), qa6, (2, none)], 3, none⟩ K = plcAppF_s2 w0 w1 ws n (fun a0 e0 => lpN qa8 (itX Tryd.prog mode3 T_places fuel 3 28 3 2 (roundK (evC qa1) (evC qa2) (qa4 fuel) #[7] 3876 qa0)) 268435417 qa7 fuel ⟨[(0, .yl 2), (3, vI w0), (4, vU e0), (6, vW ws), (7, vI w1), (8, vI w0), (9, vB a0), (10, vI w0), (11, .lp [vU e0] 0), (12, vU e0)], [(qa3 n ws), qa6, (2, none)], 3, none⟩ (kont (itX Tryd.prog mode3 T_places fuel 3 28 3 2 (roundK (evC qa1) (evC qa2) (qa4 fuel) #[7] 3876 qa0)) qa5 [1, 1, 0, 0, 1, 0] 268435417 (rdK qa5 (itX Tryd.prog mode3 T_places fuel 3 28 3 2 (roundK (evC qa1) (evC qa2) (qa4 fuel) #[7] 3876 qa0)) 0 qa9 k K))) (K (.exit 0) ⟨[], [(qa3 n ws), qa6, (2, none)], 3, none⟩) := by kernel_rfl
noncomputable def plcAppF_l1 {R : Type} (fuel : Nat) (ws : List Int) (n : Int) (k0 : Nat → List Int → Option R) (k1 : Option R) : Nat → Int → Int → Option R
  | 0, _, _ => none
  | k + 1, w0, w1 =>
    (plcAppF_s2 w1 w0 ws n (fun a0 e0 => (plcAppF_l2 fuel w1 e0 ws w0 n (fun x0 x1 x2 x3 x4 => (plcAppF_s5 w1 x3 x4 x0 ws w0 x1 e0 x2 n (fun a1 a2 a3 => (plcAppF_l4 fuel ws w0 n (fun x5 x6 => k0 x5 x6) k a1 a2 a3)))) (fun x7 x8 => (plcAppF_s9 w0 w1 e0 ws x7 x8 n (fun a4 a5 => ( plcAppF_l1 fuel ws n k0 k1 k a4 a5 )))) fuel a0)) (k1))
theorem plcAppF_l1_eq (fuel : Nat) (ws : List Int) (n : Int) (K : Ex → St → Option Out) : ∀ (k : Nat) (w0 w1 : Int), lpN qa5 (itX Tryd.prog mode3 T_places fuel 3 28 3 2 (roundK (evC qa1) (evC qa2) (qa4 fuel) #[7] 3876 qa0)) 0 qa9 k ⟨[(0, .yl 2), (6, vW ws), (7, vI w0), (8, vI w1)], [(qa3 n ws), qa6, (2, none)], 3, none⟩ K = plcAppF_l1 fuel ws n (fun y0 y1 => K (.exit 0) ⟨[], [(qa3 n ws), (1, some ⟨26, .agg [.sl 3 1 0 y0], true⟩), (2, none), (3, bL 3 y1)], 4, none⟩) (K (.exit 0) ⟨[], [(qa3 n ws), qa6, (2, none)], 3, none⟩) k w0 w1
  | 0, _, _ => rfl
  | k + 1, w0, w1 => by
    unfold plcAppF_l1
    exact (plcAppF_s2_eq fuel k K w1 w0 ws n).trans (congr (congr (Eq.refl (plcAppF_s2 (R := Out) w1 w0 ws n)) (funext fun a0 => funext fun e0 => (plcAppF_l2_eq fuel w1 e0 ws w0 n (kont (itX Tryd.prog mode3 T_places fuel 3 28 3 2 (roundK (evC qa1) (evC qa2) (qa4 fuel) #[7] 3876 qa0)) qa5 [1, 1, 0, 0, 1, 0] 268435417 (rdK qa5 (itX Tryd.prog mode3 T_places fuel 3 28 3 2 (roundK (evC qa1) (evC qa2) (qa4 fuel) #[7] 3876 qa0)) 0 qa9 k K)) fuel a0).trans (congrFun (congrFun (congr (congr (Eq.refl (plcAppF_l2 (R := Out) fuel w1 e0 ws w0 n)) (funext fun x0 => funext fun x1 => funext fun x2 => funext fun x3 => funext fun x4 => (plcAppF_s5_eq fuel k K w1 x3 x4 x0 ws w0 x1 e0 x2 n).trans (congr (Eq.refl (plcAppF_s5 (R := Out) w1 x3 x4 x0 ws w0 x1 e0 x2 n)) (funext fun a1 => funext fun a2 => funext fun a3 => plcAppF_l4_eq fuel ws w0 n K k a1 a2 a3)))) (funext fun x5 => funext fun x6 => (plcAppF_s9_eq fuel k K w0 w1 e0 ws x5 x6 n).trans (congr (Eq.refl (plcAppF_s9 (R := Out) w0 w1 e0 ws x5 x6 n)) (funext fun a4 => funext fun a5 => plcAppF_l1_eq fuel ws n K k a4 a5)))) fuel) a0))) (rfl))
noncomputable def plcAppF_s10 {R : Type} (x0 : Nat) (n : Int) (ws x1 : List Int) (c0 : Nat → Nat → Int → List Int → List Int → Option R) : Option R :=
  c0 0 x0 n ws x1
theorem plcAppF_s10_eq (fuel : Nat)  (x0 : Nat) (n : Int) (ws x1 : List Int) : (kont (itX Tryd.prog mode3 T_places fuel 3 28 3 2 (roundK (evC qa1) (evC qa2) (qa4 fuel) #[7] 3876 qa0)) (bodyOf Tryd.prog 126) [1, 0] 0 (itE (behind ⟨qa0, [(qa3 n ws), qa6], 2, none⟩ (kont (qa4 fuel) (bodyOf Tryd.prog 125) [1, 0, 1, 0] 16 (endK Tryd.prog 2 1 125))))) (.exit 0) ⟨[], [(qa3 n ws), (1, some ⟨26, .agg [.sl 3 1 0 x0], true⟩), (2, none), (3, bL 3 x1)], 4, none⟩ = plcAppF_s10 x0 n ws x1 (fun a0 a1 a2 a3 a4 => some (.sl 1 1 a0 a1, [some ⟨44, .agg [vI a2, vW a3], true⟩, bL 3 a4])) := by kernel_rfl
noncomputable def plcAppF_s11 {R : Type} (n : Int) (ws : List Int) (c0 : Int → List Int → Option R) : Option R :=
  c0 n ws
theorem plcAppF_s11_eq (fuel : Nat)  (n : Int) (ws : List Int) : (kont (itX Tryd.prog mode3 T_places fuel 3 28 3 2 (roundK (evC qa1) (evC qa2) (qa4 fuel) #[7] 3876 qa0)) (bodyOf Tryd.prog 126) [1, 0] 0 (itE (behind ⟨qa0, [(qa3 n ws), qa6], 2, none⟩ (kont (qa4 fuel) (bodyOf Tryd.prog 125) [1, 0, 1, 0] 16 (endK Tryd.prog 2 1 125))))) (.exit 0) ⟨[], [(qa3 n ws), qa6, (2, none)], 3, none⟩ = plcAppF_s11 n ws (fun a0 a1 => some (vN, [some ⟨44, .agg [vI a0, vW a1], true⟩])) := by kernel_rfl
noncomputable def plcAppF_s1 {R : Type} (ws : List Int) (n : Int) (c0 : Int → Int → Option R) : Option R :=
  c0 ((ws.length : Nat) : Int) 0
theorem plcAppF_s1_eq (fuel : Nat)  (ws : List Int) (n : Int) : callN Tryd.prog mode3 T_places fuel 125 [vN, .fn (.func 126) [] [.ptr 0 2 0 0]] [⟨44, .agg [vI n, vW ws], true⟩] = plcAppF_s1 ws n (fun a0 a1 => lpN qa5 (itX Tryd.prog mode3 T_places fuel 3 28 3 2 (roundK (evC qa1) (evC qa2) (qa4 fuel) #[7] 3876 qa0)) 0 qa9 fuel ⟨[(0, .yl 2), (6, vW ws), (7, vI a0), (8, vI a1)], [(qa3 n ws), qa6, (2, none)], 3, none⟩ (kont (itX Tryd.prog mode3 T_places fuel 3 28 3 2 (roundK (evC qa1) (evC qa2) (qa4 fuel) #[7] 3876 qa0)) (bodyOf Tryd.prog 126) [1, 0] 0 (itE (behind ⟨qa0, [(qa3 n ws), qa6], 2, none⟩ (kont (qa4 fuel) (bodyOf Tryd.prog 125) [1, 0, 1, 0] 16 (endK Tryd.prog 2 1 125)))))) := by kernel_rfl
noncomputable def plcAppF {R : Type} (fuel : Nat) (n : Int) (ws : List Int) (r0 : Nat → Nat → Int → List Int → List Int → Option R) (r1 : Int → List Int → Option R) : Option R :=
  (plcAppF_s1 ws n (fun a0 a1 => (plcAppF_l1 fuel ws n (fun x0 x1 => (plcAppF_s10 x0 n ws x1 (fun a2 a3 a4 a5 a6 => r0 a2 a3 a4 a5 a6))) ((plcAppF_s11 n ws (fun a7 a8 => r1 a7 a8))) fuel a0 a1)))
theorem plcAppF_eq (fuel : Nat) (n : Int) (ws : List Int) : callN Tryd.prog mode3 T_places fuel 125 [.s (.slice none 0 0), .fn (.func 126) [] [.ptr 0 2 0 0]] [⟨44, .agg [.s (.int .i64 n), .li .u64 ws], true⟩] = plcAppF fuel n ws (fun z0 z1 z2 z3 z4 => some (.sl 1 1 z0 z1, [some ⟨44, .agg [.s (.int .i64 z2), .li .u64 z3], true⟩, some ⟨3, .li .i64 z4, true⟩])) (fun z0 z1 => some (.s (.slice none 0 0), [some ⟨44, .agg [.s (.int .i64 z0), .li .u64 z1], true⟩])) := by
  unfold plcAppF
  exact (plcAppF_s1_eq fuel  ws n).trans (congr (Eq.refl (plcAppF_s1 (R := Out) ws n)) (funext fun a0 => funext fun a1 => (plcAppF_l1_eq fuel ws n (kont (itX Tryd.prog mode3 T_places fuel 3 28 3 2 (roundK (evC qa1) (evC qa2) (qa4 fuel) #[7] 3876 qa0)) (bodyOf Tryd.prog 126) [1, 0] 0 (itE (behind ⟨qa0, [(qa3 n ws), qa6], 2, none⟩ (kont (qa4 fuel) (bodyOf Tryd.prog 125) [1, 0, 1, 0] 16 (endK Tryd.prog 2 1 125))))) fuel a0 a1).trans (congrFun (congrFun (congrFun (congr (congr (Eq.refl (plcAppF_l1 (R := Out) fuel ws n)) (funext fun x0 => funext fun x1 => (plcAppF_s10_eq fuel  x0 n ws x1))) ((plcAppF_s11_eq fuel  n ws))) fuel) a0) a1)))
theorem tz_at {v k : Nat} (h0 : v ≠ 0) (h : v < 2 ^ 64) (hk : k ≤ 8) : IntKind.i64.wrap (IntKind.i64.wrap ((k : Int) * 64) + tzS (v : Int)) = ((64 * k + Lib.ctz 64 v : Nat) : Int) := by
  obtain ⟨_, _, hc⟩ := parts h0 h
  rw [tzS_eq]
  unfold tzI
  rw [Int.toNat_natCast, wrap_i64 (x := (k : Int) * 64) (by omega) (by omega), wrap_i64 (by omega) (by omega)]
  omega
theorem and_less {v : Nat} (h0 : v ≠ 0) (h : v < 2 ^ 64) : andI .u64 (v : Int) (IntKind.u64.wrap ((v : Int) - 1)) = ((v &&& (v - 1) : Nat) : Int) := by
  have e : (v : Int) - 1 = ((v - 1 : Nat) : Int) := by omega
  rw [e, wrap_u64 (by omega) (by omega), andI_nat (by omega) (by omega) (by omega) (by omega), Int.toNat_natCast, Int.toNat_natCast]
theorem and_lt {v : Nat} (h : v < 2 ^ 64) : v &&& (v - 1) < 2 ^ 64 := Nat.lt_of_le_of_lt Nat.and_le_left h
theorem plcApp_in3 {R : Type} (fuel i : Nat) (hi : i ≤ 8) (ws : List Int) (w73 : Int) (b : Bool) (e n : Int) (k0 : Int → Bool → Nat → List Int → Option R) : ∀ (k v : Nat) (acc : List Int), v < 2 ^ 64 → (bitsAt i v).length < k → acc.length + (bitsAt i v).length ≤ 100000 →
    plcAppF_l3 fuel (i : Int) ws w73 b e n k0 k (v : Int) acc.length acc = k0 0 false (acc ++ bitsAt i v).length (acc ++ bitsAt i v)
  | 0, v, acc, hv, hk, ha => by omega
  | k + 1, v, acc, hv, hk, ha => by
    unfold plcAppF_l3 plcAppF_s4
    rw [br_if]
    by_cases h0 : v = 0
    · subst h0
      rw [if_neg (by decide), bitsAt_zero, List.append_nil]
      rfl
    · have hs := bitsAt_step (k := i) h0 hv
      rw [if_pos (by simp; omega), grd_of (by simp; omega), grd_of (beq_self _), grd_of (okN_of (by omega) (by omega)), tz_at h0 hv hi, and_less h0 hv]
      rw [hs] at hk ha ⊢
      simp only [List.length_cons] at hk ha
      have ih := plcApp_in3 fuel i hi ws w73 b e n k0 k (v &&& (v - 1)) (acc ++ [((64 * i + Lib.ctz 64 v : Nat) : Int)]) (and_lt hv) (by omega) (by simp; omega)
      rw [List.append_assoc] at ih
      exact ih
theorem plcApp_in5 {R : Type} (fuel i : Nat) (hi : i ≤ 8) (ws : List Int) (w73 : Int) (e n : Int) (k0 : Int → Bool → Bool → Nat → List Int → Option R) : ∀ (k v : Nat) (b : Bool) (acc : List Int), v < 2 ^ 64 → (bitsAt i v).length < k → acc.length + (bitsAt i v).length ≤ 100000 →
    plcAppF_l5 fuel (i : Int) ws w73 e n k0 k (v : Int) b acc.length acc = k0 0 b false (acc ++ bitsAt i v).length (acc ++ bitsAt i v)
  | 0, v, b, acc, hv, hk, ha => by omega
  | k + 1, v, b, acc, hv, hk, ha => by
    unfold plcAppF_l5 plcAppF_s7
    rw [br_if]
    by_cases h0 : v = 0
    · subst h0
      rw [if_neg (by decide), bitsAt_zero, List.append_nil]
      rfl
    · have hs := bitsAt_step (k := i) h0 hv
      rw [if_pos (by simp; omega), grd_of (by simp; omega), grd_of (beq_self _), grd_of (okN_of (by omega) (by omega)), tz_at h0 hv hi, and_less h0 hv]
      rw [hs] at hk ha ⊢
      simp only [List.length_cons] at hk ha
      have ih := plcApp_in5 fuel i hi ws w73 e n k0 k (v &&& (v - 1)) b (acc ++ [((64 * i + Lib.ctz 64 v : Nat) : Int)]) (and_lt hv) (by omega) (by simp; omega)
      rw [List.append_assoc] at ih
      exact ih
theorem word_get {ws : List Int} (hok : Ok ws) {i : Nat} (hi : i < ws.length) : ix ws (i : Int) = some (((ws.getD i 0).toNat : Nat) : Int) ∧ (ws.getD i 0).toNat < 2 ^ 64 := by
  have hg := hok.getD i
  refine ⟨?_, by omega⟩
  rw [ix_nat, List.getElem?_eq_getElem hi]
  congr 1
  have : ws.getD i 0 = ws[i] := by rw [List.getD_eq_getElem?_getD, List.getElem?_eq_getElem hi]; rfl
  rw [← this]; omega
theorem plcApp_out4 {R : Type} (fuel : Nat) (hf : 66 ≤ fuel) (ws : List Int) (hok : Ok ws) (hl : ws.length ≤ 8) (n : Int) (k0 : Nat → List Int → Option R) : ∀ (k i : Nat) (acc : List Int), i ≤ ws.length → ws.length < i + k → acc.length ≤ 64 * i →
    plcAppF_l4 fuel ws (ws.length : Int) n k0 k (i : Int) acc.length acc = k0 (acc ++ wordsFrom ws (ws.length - i) i).length (acc ++ wordsFrom ws (ws.length - i) i)
  | 0, i, acc, h1, h2, h3 => by omega
  | k + 1, i, acc, h1, h2, h3 => by
    unfold plcAppF_l4 plcAppF_s6
    rw [br_if]
    by_cases hc : i < ws.length
    · obtain ⟨hg, hlt⟩ := word_get hok hc
      have hb := bitsAt_len i (ws.getD i 0).toNat
      rw [if_pos (by simpa using hc), bnd_of hg]
      dsimp only
      rw [plcApp_in5 fuel i (by omega) ws _ _ n _ fuel _ _ acc hlt (by omega) (by omega)]
      unfold plcAppF_s8
      rw [wrap_i64 (by omega) (by omega), show (i : Int) + 1 = ((i + 1 : Nat) : Int) by omega, show ws.length - i = (ws.length - (i + 1)) + 1 by omega, wordsFrom, ← List.append_assoc]
      exact plcApp_out4 fuel hf ws hok hl n k0 k (i + 1) _ (by omega) (by omega) (by rw [List.length_append]; omega)
    · rw [if_neg (by simpa using hc), show ws.length - i = 0 by omega, wordsFrom, List.append_nil]
theorem plcApp_first {R : Type} (fuel : Nat) (hf : 66 ≤ fuel) (ws : List Int) (hok : Ok ws) (hl : ws.length ≤ 8) (n : Int) (k0 : Nat → List Int → Option R) (k1 : Option R) : ∀ (k i : Nat), i ≤ ws.length → ws.length < i + k →
    plcAppF_l1 fuel ws n k0 k1 k (ws.length : Int) (i : Int) = if wordsFrom ws (ws.length - i) i = [] then k1 else k0 (wordsFrom ws (ws.length - i) i).length (wordsFrom ws (ws.length - i) i)
  | 0, i, h1, h2 => by omega
  | k + 1, i, h1, h2 => by
    unfold plcAppF_l1 plcAppF_s2
    rw [br_if]
    by_cases hc : i < ws.length
    · obtain ⟨hg, hlt⟩ := word_get hok hc
      have hb := bitsAt_len i (ws.getD i 0).toNat
      rw [if_pos (by simpa using hc), bnd_of hg]
      dsimp only
      obtain ⟨f, rfl⟩ : ∃ f, fuel = f + 1 := ⟨fuel - 1, by omega⟩
      unfold plcAppF_l2 plcAppF_s3
      dsimp only
      rw [br_if, show ws.length - i = (ws.length - (i + 1)) + 1 by omega, wordsFrom]
      have hw1 : IntKind.i64.wrap ((i : Int) + 1) = ((i + 1 : Nat) : Int) := by rw [wrap_i64 (by omega) (by omega)]; omega
      clear hg
      generalize (ws.getD i 0).toNat = v at *
      by_cases h0 : v = 0
      · rw [h0, if_neg (by decide), bitsAt_zero, List.nil_append]
        unfold plcAppF_s9
        rw [hw1]
        exact plcApp_first (f + 1) hf ws hok hl n k0 k1 k (i + 1) (by omega) (by omega)
      · have hs := bitsAt_step (k := i) h0 hlt
        rw [if_pos (by simp; omega), grd_of (by simp; omega), tz_at h0 hlt (by omega), and_less h0 hlt]
        rw [hs, List.length_cons] at hb
        have h3 := fun k0 => plcApp_in3 (R := R) (f + 1) i (by omega) ws (ws.length : Int) (decide ((i : Int) < (ws.length : Int))) ((v : Nat) : Int) n k0 f _ [((64 * i + Lib.ctz 64 v : Nat) : Int)] (and_lt hlt) (by omega) (by simp; omega)
        rw [List.singleton_append, ← hs] at h3
        rw [show [((64 * i + Lib.ctz 64 v : Nat) : Int)].length = 1 from rfl] at h3
        rw [h3]
        unfold plcAppF_s5
        rw [hw1, if_neg (by rw [hs]; simp)]
        exact plcApp_out4 (f + 1) hf ws hok hl n k0 k (i + 1) _ (by omega) (by omega) (by rw [hs, List.length_cons]; omega)
    · rw [if_neg (by simpa using hc), show ws.length - i = 0 by omega, wordsFrom]
      simp
theorem plcApp_fact (n : Int) (ws : List Int) (hg : (okW ws && decide (ws.length ≤ 8) && decide (1 ≤ (plS ws).length)) = true) : Fact Tryd.prog gTab 125 [.s (.slice none 0 0), .fn (.func 126) [] [.ptr 0 2 0 0]] [⟨44, .agg [.s (.int .i64 n), .li .u64 ws], true⟩] (.sl 1 1 0 ((plS ws).length), [some ⟨44, .agg [.s (.int .i64 n), .li .u64 ws], true⟩, some ⟨3, .li .i64 (plS ws), true⟩]) := by
  simp only [Bool.and_eq_true, decide_eq_true_eq] at hg
  obtain ⟨⟨h1, h2⟩, h3⟩ := hg
  refine callN_fact hN hM T_places_ok (n := 100) (mode := mode3) ?_
  rw [plcAppF_eq]
  unfold plcAppF plcAppF_s1
  have h := fun k0 k1 => plcApp_first (R := Out) 100 (by omega) ws (okW_iff.1 h1) h2 n k0 k1 100 0 (by omega) (by omega)
  have e : plS ws = wordsFrom ws (ws.length - 0) 0 := by rw [plS_eq]; rfl
  rw [← e, Int.natCast_zero] at h
  dsimp only
  rw [h, if_neg (by intro h; rw [h] at h3; simp at h3)]
  rfl
noncomputable def plcApp_ent : List V → List Blk → Option (Bool × Out)
  | [.s (.slice none 0 0), .fn (.func 126) [] [.ptr 0 2 0 0]], [⟨44, .agg [.s (.int .i64 n), .li .u64 ws], true⟩] => some ((okW ws && decide (ws.length ≤ 8) && decide (1 ≤ (plS ws).length)), (.sl 1 1 0 ((plS ws).length), [some ⟨44, .agg [.s (.int .i64 n), .li .u64 ws], true⟩, some ⟨3, .li .i64 (plS ws), true⟩]))
  | _, _ => none
theorem plcApp_ok : ∀ args bs out, plcApp_ent args bs = some (true, out) → Fact Tryd.prog gTab 125 args bs out := by
  intro args bs out h
  unfold plcApp_ent at h
  split at h
  · rename_i n ws
    simp only [Option.some.injEq, Prod.mk.injEq] at h
    obtain ⟨hg, rfl⟩ := h
    exact plcApp_fact n ws hg
  · cases h
noncomputable def T_plcApp : Tbl := Tbl.cons 125 plcApp_ent T_places
theorem T_plcApp_ok : CallOk Tryd.prog gTab T_plcApp := cons_ok T_places_ok plcApp_ok
/-! slices.Collect[int] -/
noncomputable def plcCollF_s1 {R : Type} (ws : List Int) (n : Int) (c0 : Nat → Nat → Int → List Int → List Int → Option R) : Option R :=
  grd (okW ws && decide (ws.length ≤ 8) && decide (1 ≤ (plS ws).length)) <|
  c0 0 ((plS ws).length) n ws (plS ws)
theorem plcCollF_s1_eq (fuel : Nat)  (ws : List Int) (n : Int) : callN Tryd.prog mode3 T_plcApp fuel 77 [.fn (.func 126) [] [.ptr 0 2 0 0]] [⟨44, .agg [vI n, vW ws], true⟩] = plcCollF_s1 ws n (fun a1 a2 a3 a4 a5 => some (.sl 1 1 a1 a2, [some ⟨44, .agg [vI a3, vW a4], true⟩, bL 3 a5])) := by kernel_rfl
noncomputable def plcCollF {R : Type} (fuel : Nat) (n : Int) (ws : List Int) (r0 : Nat → Nat → Int → List Int → List Int → Option R) : Option R :=
  (plcCollF_s1 ws n (fun a1 a2 a3 a4 a5 => r0 a1 a2 a3 a4 a5))
theorem plcCollF_eq (fuel : Nat) (n : Int) (ws : List Int) : callN Tryd.prog mode3 T_plcApp fuel 77 [.fn (.func 126) [] [.ptr 0 2 0 0]] [⟨44, .agg [.s (.int .i64 n), .li .u64 ws], true⟩] = plcCollF fuel n ws (fun z0 z1 z2 z3 z4 => some (.sl 1 1 z0 z1, [some ⟨44, .agg [.s (.int .i64 z2), .li .u64 z3], true⟩, some ⟨3, .li .i64 z4, true⟩])) := by
  unfold plcCollF
  exact (plcCollF_s1_eq fuel  ws n)
theorem plcColl_fact (n : Int) (ws : List Int) (hg : (okW ws && decide (ws.length ≤ 8) && decide (1 ≤ (plS ws).length)) = true) : Fact Tryd.prog gTab 77 [.fn (.func 126) [] [.ptr 0 2 0 0]] [⟨44, .agg [.s (.int .i64 n), .li .u64 ws], true⟩] (.sl 1 1 0 ((plS ws).length), [some ⟨44, .agg [.s (.int .i64 n), .li .u64 ws], true⟩, some ⟨3, .li .i64 (plS ws), true⟩]) := by
  refine callN_fact hN hM T_plcApp_ok (n := 0) (mode := mode3) ?_
  rw [plcCollF_eq]
  unfold plcCollF plcCollF_s1
  rw [grd_of hg]
noncomputable def plcColl_ent : List V → List Blk → Option (Bool × Out)
  | [.fn (.func 126) [] [.ptr 0 2 0 0]], [⟨44, .agg [.s (.int .i64 n), .li .u64 ws], true⟩] => some ((okW ws && decide (ws.length ≤ 8) && decide (1 ≤ (plS ws).length)), (.sl 1 1 0 ((plS ws).length), [some ⟨44, .agg [.s (.int .i64 n), .li .u64 ws], true⟩, some ⟨3, .li .i64 (plS ws), true⟩]))
  | _, _ => none
theorem plcColl_ok : ∀ args bs out, plcColl_ent args bs = some (true, out) → Fact Tryd.prog gTab 77 args bs out := by
  intro args bs out h
  unfold plcColl_ent at h
  split at h
  · rename_i n ws
    simp only [Option.some.injEq, Prod.mk.injEq] at h
    obtain ⟨hg, rfl⟩ := h
    exact plcColl_fact n ws hg
  · cases h
noncomputable def T_plcColl : Tbl := Tbl.cons 77 plcColl_ent T_plcApp
theorem T_plcColl_ok : CallOk Tryd.prog gTab T_plcColl := cons_ok T_plcApp_ok plcColl_ok
noncomputable def plcAF_s1 {R : Type} (ws : List Int) (n : Int) (c0 : Int → Option R) (c1 : List Int → Int → Option R) : Option R :=
  grd (okW ws) <|
  br (!(rtS n ws))
    (c0 1)
    (grd (okW ws && decide (ws.length ≤ 8) && decide (1 ≤ (plS ws).length)) <|
    c1 (((plS ws).drop 0).take ((plS ws).length)) 0)
theorem plcAF_s1_eq (fuel : Nat)  (ws : List Int) (n : Int) : callN Tryd.prog mode3 T_plcColl fuel 26 [.agg [vI n, vW ws]] [] = plcAF_s1 ws n (fun a1 => some (.tup [vN, vI a1], [])) (fun a2 a3 => some (.tup [vL a2, vI a3], [])) := by kernel_rfl
noncomputable def plcAF {R : Type} (fuel : Nat) (n : Int) (ws : List Int) (r0 : Int → Option R) (r1 : List Int → Int → Option R) : Option R :=
  (plcAF_s1 ws n (fun a1 => r0 a1) (fun a2 a3 => r1 a2 a3))
theorem plcAF_eq (fuel : Nat) (n : Int) (ws : List Int) : callN Tryd.prog mode3 T_plcColl fuel 26 [.agg [.s (.int .i64 n), .li .u64 ws]] [] = plcAF fuel n ws (fun z0 => some (.tup [.s (.slice none 0 0), .s (.int .i64 z0)], [])) (fun z0 z1 => some (.tup [.li .i64 z0, .s (.int .i64 z1)], [])) := by
  unfold plcAF
  exact (plcAF_s1_eq fuel  ws n)
def mode4 : FuncId → Nat := fun f => bif Nat.beq f 77 then 2 else bif Nat.beq f 125 then 2 else bif Nat.beq f 78 then 2 else bif Nat.beq f 26 then 2 else 0
/-! downpour/bitrow.Places -/
noncomputable def PlacesOwnF_s1 {R : Type} (ws : List Int) (n : Int) (c0 : Int → Option R) (c1 : Nat → Nat → Int → List Int → Option R) : Option R :=
  grd (okW ws) <|
  br (!(rtS n ws))
    (c0 1)
    (grd (okW ws && decide (ws.length ≤ 8) && decide (1 ≤ (plS ws).length)) <|
    c1 0 ((plS ws).length) 0 (plS ws))
theorem PlacesOwnF_s1_eq (fuel : Nat)  (ws : List Int) (n : Int) : callN Tryd.prog mode4 T_plcColl fuel 26 [.agg [vI n, vW ws]] [] = PlacesOwnF_s1 ws n (fun a1 => some (.tup [vN, vI a1], [])) (fun a2 a3 a4 a5 => some (.tup [.sl 0 1 a2 a3, vI a4], [bL 3 a5])) := by kernel_rfl
noncomputable def PlacesOwnF {R : Type} (fuel : Nat) (n : Int) (ws : List Int) (r0 : Int → Option R) (r1 : Nat → Nat → Int → List Int → Option R) : Option R :=
  (PlacesOwnF_s1 ws n (fun a1 => r0 a1) (fun a2 a3 a4 a5 => r1 a2 a3 a4 a5))
theorem PlacesOwnF_eq (fuel : Nat) (n : Int) (ws : List Int) : callN Tryd.prog mode4 T_plcColl fuel 26 [.agg [.s (.int .i64 n), .li .u64 ws]] [] = PlacesOwnF fuel n ws (fun z0 => some (.tup [.s (.slice none 0 0), .s (.int .i64 z0)], [])) (fun z0 z1 z2 z3 => some (.tup [.sl 0 1 z0 z1, .s (.int .i64 z2)], [some ⟨3, .li .i64 z3, true⟩])) := by
  unfold PlacesOwnF
  exact (PlacesOwnF_s1_eq fuel  ws n)
theorem rt_len {n : Int} {ws : List Int} (h : rtS n ws = true) : ws.length ≤ 8 := by
  obtain ⟨⟨_, h1⟩, h2, _⟩ := rtS_iff.1 h
  have := nw_le h1
  omega
theorem PlacesOwn_fact (n : Int) (ws : List Int) (hg : (okW ws && rtS n ws && decide (1 ≤ (plS ws).length)) = true) : Fact Tryd.prog gTab 26 [.agg [.s (.int .i64 n), .li .u64 ws]] [] (.tup [.sl 0 1 0 ((plS ws).length), .s (.int .i64 0)], [some ⟨3, .li .i64 (plS ws), true⟩]) := by
  simp only [Bool.and_eq_true, decide_eq_true_eq] at hg
  obtain ⟨⟨h1, h2⟩, h3⟩ := hg
  have hl := rt_len h2
  refine callN_fact hN hM T_plcColl_ok (n := 0) (mode := mode4) ?_
  rw [PlacesOwnF_eq]
  unfold PlacesOwnF PlacesOwnF_s1
  rw [grd_of h1, br_if, if_neg (by simp [h2]), grd_of (by simp [h1]; omega)]
noncomputable def PlacesOwn_ent : List V → List Blk → Option (Bool × Out)
  | [.agg [.s (.int .i64 n), w0]], [] => (asSl (.int .u64) w0).bind fun ws => some ((okW ws && rtS n ws && decide (1 ≤ (plS ws).length)), (.tup [.sl 0 1 0 ((plS ws).length), .s (.int .i64 0)], [some ⟨3, .li .i64 (plS ws), true⟩]))
  | _, _ => none
theorem PlacesOwn_ok : ∀ args bs out, PlacesOwn_ent args bs = some (true, out) → Fact Tryd.prog gTab 26 args bs out := by
  intro args bs out h
  unfold PlacesOwn_ent at h
  split at h
  · rename_i n w0
    obtain ⟨ws, h_ws, h⟩ := Option.bind_eq_some_iff.1 h
    simp only [Option.some.injEq, Prod.mk.injEq] at h
    obtain ⟨hg, rfl⟩ := h
    exact (PlacesOwn_fact n ws hg).args (fun _ _ _ => fun _ h => RVs_two (fun _ h => RV_agg_two (fun _ h => RVs_two (fun _ h => h) (fun _ h => RVs_two (fun _ h => RV_li h_ws h) (fun _ h => h) h) h) h) (fun _ h => h) h)
  · cases h
noncomputable def T_PlacesOwn : Tbl := Tbl.cons 26 PlacesOwn_ent T_plcColl
theorem T_PlacesOwn_ok : CallOk Tryd.prog gTab T_PlacesOwn := cons_ok T_plcColl_ok PlacesOwn_ok
def mode5 : FuncId → Nat := fun f => bif Nat.beq f 77 then 2 else bif Nat.beq f 125 then 2 else bif Nat.beq f 78 then 2 else 0
/-! slices.AppendSeq[[]int,int] -/
noncomputable abbrev qa10 : List (Nat × V) := [(2, .ptr 1 1 0 0), (4, vN), (6, .fn (.func 126) [] [.ptr 0 2 0 0])]
noncomputable abbrev qa11 : Code := (sub (bodyOf Tryd.prog 125) [1, 0, 1, 0, 0])
noncomputable abbrev qa12 : Code := (sub (bodyOf Tryd.prog 125) [1, 0, 1, 0, 1])
noncomputable abbrev qa13 (fuel : Nat) : Ctx Out := (fnX Tryd.prog mode5 T_PlacesOwn fuel 13 1)
noncomputable abbrev qa14 (n : Int) (ws : List Int) : Nat × Option Blk := (0, some ⟨44, .agg [vI n, vW ws], true⟩)
noncomputable abbrev qa15 : Code := (sub (bodyOf Tryd.prog 126) [1, 0, 0])
noncomputable abbrev qa16 : Nat × Option Blk := (1, some ⟨26, .agg [vN], true⟩)
noncomputable abbrev qa17 : List Nat := [0, 3, 4, 6, 7, 8, 9, 10, 11, 12]
noncomputable abbrev qa18 : Code := (sub qa15 [1, 1, 0, 0, 1, 0, 0])
noncomputable def plcApp0F_s4 {R : Type} (w0 : Int) (w1 : List Int) (w2 : Nat) (w3 : Int) (ws : List Int) (w4 : Int) (w5 : Bool) (e0 n : Int) (c0 : Int → Nat → List Int → Option R) (c1 : Int → Bool → Nat → List Int → Option R) : Option R :=
  br (w0 != 0)
    (grd (decide (1 ≤ w0) && decide (w0 < 18446744073709551616)) <|
    grd (Nat.beq w1.length w2) <|
    grd (okN (w2 + 1) 8) <|
    c0 (andI .u64 w0 (IntKind.u64.wrap (w0 - 1))) ((w1 ++ [(IntKind.i64.wrap ((IntKind.i64.wrap (w3 * 64)) + (tzS w0)))]).length) (w1 ++ [(IntKind.i64.wrap ((IntKind.i64.wrap (w3 * 64)) + (tzS w0)))]))
    (c1 w0 (w0 != 0) w2 w1)
theorem plcApp0F_s4_eq (fuel k : Nat) (K : Ex → St → Option Out) (w0 : Int) (w1 : List Int) (w2 : Nat) (w3 : Int) (ws : List Int) (w4 : Int) (w5 : Bool) (e0 n : Int) : lpN qa18 (itX Tryd.prog mode5 T_PlacesOwn fuel 3 28 3 2 (roundK (evC qa11) (evC qa12) (qa13 fuel) #[7] 3876 qa10)) 268435417 qa17 (k + 1) ⟨[(0, .yl 2), (3, vI w3), (4, vU w0), (6, vW ws), (7, vI w4), (8, vI w3), (9, vB w5), (10, vI w3), (11, .lp [vU e0] 0), (12, vU e0)], [(qa14 n ws), (1, some ⟨26, .agg [.sl 3 1 0 w2], true⟩), (2, none), (3, bL 3 w1)], 4, none⟩ K = plcApp0F_s4 w0 w1 w2 w3 ws w4 w5 e0 n (fun a0 a1 a2 => lpN qa18 (itX Tryd.prog mode5 T_PlacesOwn fuel 3 28 3 2 (roundK (evC qa11) (evC qa12) (qa13 fuel) #[7] 3876 qa10)) 268435417 qa17 k ⟨[(0, .yl 2), (3, vI w3), (4, vU a0), (6, vW ws), (7, vI w4), (8, vI w3), (9, vB w5), (10, vI w3), (11, .lp [vU e0] 0), (12, vU e0)], [(qa14 n ws), (1, some ⟨26, .agg [.sl 3 1 0 a1], true⟩), (2, none), (3, bL 3 a2)], 4, none⟩ K) (fun a3 a4 a5 a6 => K (.exit 2) ⟨[(0, .yl 2), (3, vI w3), (4, vU a3), (6, vW ws), (7, vI w4), (8, vI w3), (9, vB w5), (10, vI w3), (11, .lp [vU e0] 0), (12, vU e0), (13, vU a3), (14, vB a4)], [(qa14 n ws), (1, some ⟨26, .agg [.sl 3 1 0 a5], true⟩), (2, none), (3, bL 3 a6)], 4, none⟩) := by kernel_rfl
noncomputable def plcApp0F_l3 {R : Type} (fuel : Nat) (w0 : Int) (ws : List Int) (w1 : Int) (w2 : Bool) (e0 n : Int) (k0 : Int → Bool → Nat → List Int → Option R) : Nat → Int → Nat → List Int → Option R
  | 0, _, _, _ => none
  | k + 1, w3, w4, w5 =>
    (plcApp0F_s4 w3 w5 w4 w0 ws w1 w2 e0 n (fun a0 a1 a2 => ( plcApp0F_l3 fuel w0 ws w1 w2 e0 n k0 k a0 a1 a2 )) (fun a3 a4 a5 a6 => k0 a3 a4 a5 a6))
theorem plcApp0F_l3_eq (fuel : Nat) (w0 : Int) (ws : List Int) (w1 : Int) (w2 : Bool) (e0 n : Int) (K : Ex → St → Option Out) : ∀ (k : Nat) (w3 : Int) (w4 : Nat) (w5 : List Int), lpN qa18 (itX Tryd.prog mode5 T_PlacesOwn fuel 3 28 3 2 (roundK (evC qa11) (evC qa12) (qa13 fuel) #[7] 3876 qa10)) 268435417 qa17 k ⟨[(0, .yl 2), (3, vI w0), (4, vU w3), (6, vW ws), (7, vI w1), (8, vI w0), (9, vB w2), (10, vI w0), (11, .lp [vU e0] 0), (12, vU e0)], [(qa14 n ws), (1, some ⟨26, .agg [.sl 3 1 0 w4], true⟩), (2, none), (3, bL 3 w5)], 4, none⟩ K = plcApp0F_l3 fuel w0 ws w1 w2 e0 n (fun y0 y1 y2 y3 => K (.exit 2) ⟨[(0, .yl 2), (3, vI w0), (4, vU y0), (6, vW ws), (7, vI w1), (8, vI w0), (9, vB w2), (10, vI w0), (11, .lp [vU e0] 0), (12, vU e0), (13, vU y0), (14, vB y1)], [(qa14 n ws), (1, some ⟨26, .agg [.sl 3 1 0 y2], true⟩), (2, none), (3, bL 3 y3)], 4, none⟩) k w3 w4 w5
  | 0, _, _, _ => rfl
  | k + 1, w3, w4, w5 => by
    unfold plcApp0F_l3
    exact (plcApp0F_s4_eq fuel k K w3 w5 w4 w0 ws w1 w2 e0 n).trans (congr (congr (Eq.refl (plcApp0F_s4 (R := Out) w3 w5 w4 w0 ws w1 w2 e0 n)) (funext fun a0 => funext fun a1 => funext fun a2 => plcApp0F_l3_eq fuel w0 ws w1 w2 e0 n K k a0 a1 a2)) (rfl))
noncomputable def plcApp0F_s3 {R : Type} (e0 w0 : Int) (w1 : Bool) (ws : List Int) (w2 n : Int) (c0 : Int → Nat → List Int → Option R) (c1 : Bool → Bool → Option R) : Option R :=
  br (e0 != 0)
    (grd (decide (1 ≤ e0) && decide (e0 < 18446744073709551616)) <|
    c0 (andI .u64 e0 (IntKind.u64.wrap (e0 - 1))) 1 ([(IntKind.i64.wrap ((IntKind.i64.wrap (w0 * 64)) + (tzS e0)))]))
    (c1 w1 (e0 != 0))
theorem plcApp0F_s3_eq (fuel k : Nat) (K : Ex → St → Option Out) (e0 w0 : Int) (w1 : Bool) (ws : List Int) (w2 n : Int) : lpN qa18 (itX Tryd.prog mode5 T_PlacesOwn fuel 3 28 3 2 (roundK (evC qa11) (evC qa12) (qa13 fuel) #[7] 3876 qa10)) 268435417 qa17 (k + 1) ⟨[(0, .yl 2), (3, vI w0), (4, vU e0), (6, vW ws), (7, vI w2), (8, vI w0), (9, vB w1), (10, vI w0), (11, .lp [vU e0] 0), (12, vU e0)], [(qa14 n ws), qa16, (2, none)], 3, none⟩ K = plcApp0F_s3 e0 w0 w1 ws w2 n (fun a0 a1 a2 => lpN qa18 (itX Tryd.prog mode5 T_PlacesOwn fuel 3 28 3 2 (roundK (evC qa11) (evC qa12) (qa13 fuel) #[7] 3876 qa10)) 268435417 qa17 k ⟨[(0, .yl 2), (3, vI w0), (4, vU a0), (6, vW ws), (7, vI w2), (8, vI w0), (9, vB w1), (10, vI w0), (11, .lp [vU e0] 0), (12, vU e0)], [(qa14 n ws), (1, some ⟨26, .agg [.sl 3 1 0 a1], true⟩), (2, none), (3, bL 3 a2)], 4, none⟩ K) (fun a3 a4 => K (.exit 2) ⟨[(0, .yl 2), (3, vI w0), (4, vU e0), (6, vW ws), (7, vI w2), (8, vI w0), (9, vB a3), (10, vI w0), (11, .lp [vU e0] 0), (12, vU e0), (13, vU e0), (14, vB a4)], [(qa14 n ws), qa16, (2, none)], 3, none⟩) := by kernel_rfl
noncomputable def plcApp0F_l2 {R : Type} (fuel : Nat) (w0 e0 : Int) (ws : List Int) (w1 n : Int) (k0 : Int → Bool → Bool → Nat → List Int → Option R) (k1 : Bool → Bool → Option R) : Nat → Bool → Option R
  | 0, _ => none
  | k + 1, w2 =>
    (plcApp0F_s3 e0 w0 w2 ws w1 n (fun a0 a1 a2 => (plcApp0F_l3 fuel w0 ws w1 w2 e0 n (fun x0 x1 x2 x3 => k0 x0 w2 x1 x2 x3) k a0 a1 a2)) (fun a3 a4 => k1 a3 a4))
theorem plcApp0F_l2_eq (fuel : Nat) (w0 e0 : Int) (ws : List Int) (w1 n : Int) (K : Ex → St → Option Out) : ∀ (k : Nat) (w2 : Bool), lpN qa18 (itX Tryd.prog mode5 T_PlacesOwn fuel 3 28 3 2 (roundK (evC qa11) (evC qa12) (qa13 fuel) #[7] 3876 qa10)) 268435417 qa17 k ⟨[(0, .yl 2), (3, vI w0), (4, vU e0), (6, vW ws), (7, vI w1), (8, vI w0), (9, vB w2), (10, vI w0), (11, .lp [vU e0] 0), (12, vU e0)], [(qa14 n ws), qa16, (2, none)], 3, none⟩ K = plcApp0F_l2 fuel w0 e0 ws w1 n (fun y0 y1 y2 y3 y4 => K (.exit 2) ⟨[(0, .yl 2), (3, vI w0), (4, vU y0), (6, vW ws), (7, vI w1), (8, vI w0), (9, vB y1), (10, vI w0), (11, .lp [vU e0] 0), (12, vU e0), (13, vU y0), (14, vB y2)], [(qa14 n ws), (1, some ⟨26, .agg [.sl 3 1 0 y3], true⟩), (2, none), (3, bL 3 y4)], 4, none⟩) (fun y5 y6 => K (.exit 2) ⟨[(0, .yl 2), (3, vI w0), (4, vU e0), (6, vW ws), (7, vI w1), (8, vI w0), (9, vB y5), (10, vI w0), (11, .lp [vU e0] 0), (12, vU e0), (13, vU e0), (14, vB y6)], [(qa14 n ws), qa16, (2, none)], 3, none⟩) k w2
  | 0, _ => rfl
  | k + 1, w2 => by
    unfold plcApp0F_l2
    exact (plcApp0F_s3_eq fuel k K e0 w0 w2 ws w1 n).trans (congr (congr (Eq.refl (plcApp0F_s3 (R := Out) e0 w0 w2 ws w1 n)) (funext fun a0 => funext fun a1 => funext fun a2 => plcApp0F_l3_eq fuel w0 ws w1 w2 e0 n K k a0 a1 a2)) (rfl))
noncomputable def plcApp0F_s7 {R : Type} (w0 : Int) (w1 : List Int) (w2 : Nat) (w3 : Bool) (w4 : Int) (ws : List Int) (w5 e0 n : Int) (c0 : Int → Bool → Nat → List Int → Option R) (c1 : Int → Bool → Bool → Nat → List Int → Option R) : Option R :=
  br (w0 != 0)
    (grd (decide (1 ≤ w0) && decide (w0 < 18446744073709551616)) <|
    grd (Nat.beq w1.length w2) <|
    grd (okN (w2 + 1) 8) <|
    c0 (andI .u64 w0 (IntKind.u64.wrap (w0 - 1))) w3 ((w1 ++ [(IntKind.i64.wrap ((IntKind.i64.wrap (w4 * 64)) + (tzS w0)))]).length) (w1 ++ [(IntKind.i64.wrap ((IntKind.i64.wrap (w4 * 64)) + (tzS w0)))]))
    (c1 w0 w3 (w0 != 0) w2 w1)
theorem plcApp0F_s7_eq (fuel k : Nat) (K : Ex → St → Option Out) (w0 : Int) (w1 : List Int) (w2 : Nat) (w3 : Bool) (w4 : Int) (ws : List Int) (w5 e0 n : Int) : lpN qa18 (itX Tryd.prog mode5 T_PlacesOwn fuel 3 28 3 2 (roundK (evC qa11) (evC qa12) (qa13 fuel) #[7] 3876 qa10)) 268435417 qa17 (k + 1) ⟨[(0, .yl 2), (3, vI w4), (4, vU w0), (6, vW ws), (7, vI w5), (8, vI w4), (9, vB w3), (10, vI w4), (11, .lp [vU e0] 0), (12, vU e0)], [(qa14 n ws), (1, some ⟨26, .agg [.sl 3 1 0 w2], true⟩), (2, none), (3, bL 3 w1)], 4, none⟩ K = plcApp0F_s7 w0 w1 w2 w3 w4 ws w5 e0 n (fun a0 a1 a2 a3 => lpN qa18 (itX Tryd.prog mode5 T_PlacesOwn fuel 3 28 3 2 (roundK (evC qa11) (evC qa12) (qa13 fuel) #[7] 3876 qa10)) 268435417 qa17 k ⟨[(0, .yl 2), (3, vI w4), (4, vU a0), (6, vW ws), (7, vI w5), (8, vI w4), (9, vB a1), (10, vI w4), (11, .lp [vU e0] 0), (12, vU e0)], [(qa14 n ws), (1, some ⟨26, .agg [.sl 3 1 0 a2], true⟩), (2, none), (3, bL 3 a3)], 4, none⟩ K) (fun a4 a5 a6 a7 a8 => K (.exit 2) ⟨[(0, .yl 2), (3, vI w4), (4, vU a4), (6, vW ws), (7, vI w5), (8, vI w4), (9, vB a5), (10, vI w4), (11, .lp [vU e0] 0), (12, vU e0), (13, vU a4), (14, vB a6)], [(qa14 n ws), (1, some ⟨26, .agg [.sl 3 1 0 a7], true⟩), (2, none), (3, bL 3 a8)], 4, none⟩) := by kernel_rfl
noncomputable def plcApp0F_l5 {R : Type} (fuel : Nat) (w0 : Int) (ws : List Int) (w1 e0 n : Int) (k0 : Int → Bool → Bool → Nat → List Int → Option R) : Nat → Int → Bool → Nat → List Int → Option R
  | 0, _, _, _, _ => none
  | k + 1, w2, w3, w4, w5 =>
    (plcApp0F_s7 w2 w5 w4 w3 w0 ws w1 e0 n (fun a0 a1 a2 a3 => ( plcApp0F_l5 fuel w0 ws w1 e0 n k0 k a0 a1 a2 a3 )) (fun a4 a5 a6 a7 a8 => k0 a4 a5 a6 a7 a8))
theorem plcApp0F_l5_eq (fuel : Nat) (w0 : Int) (ws : List Int) (w1 e0 n : Int) (K : Ex → St → Option Out) : ∀ (k : Nat) (w2 : Int) (w3 : Bool) (w4 : Nat) (w5 : List Int), lpN qa18 (itX Tryd.prog mode5 T_PlacesOwn fuel 3 28 3 2 (roundK (evC qa11) (evC qa12) (qa13 fuel) #[7] 3876 qa10)) 268435417 qa17 k ⟨[(0, .yl 2), (3, vI w0), (4, vU w2), (6, vW ws), (7, vI w1), (8, vI w0), (9, vB w3), (10, vI w0), (11, .lp [vU e0] 0), (12, vU e0)], [(qa14 n ws), (1, some ⟨26, .agg [.sl 3 1 0 w4], true⟩), (2, none), (3, bL 3 w5)], 4, none⟩ K = plcApp0F_l5 fuel w0 ws w1 e0 n (fun y0 y1 y2 y3 y4 => K (.exit 2) ⟨[(0, .yl 2), (3, vI w0), (4, vU y0), (6, vW ws), (7, vI w1), (8, vI w0), (9, vB y1), (10, vI w0), (11, .lp [vU e0] 0), (12, vU e0), (13, vU y0), (14, vB y2)], [(qa14 n ws), (1, some ⟨26, .agg [.sl 3 1 0 y3], true⟩), (2, none), (3, bL 3 y4)], 4, none⟩) k w2 w3 w4 w5
  | 0, _, _, _, _ => rfl
  | k + 1, w2, w3, w4, w5 => by
    unfold plcApp0F_l5
    exact (plcApp0F_s7_eq fuel k K w2 w5 w4 w3 w0 ws w1 e0 n).trans (congr (congr (Eq.refl (plcApp0F_s7 (R := Out) w2 w5 w4 w3 w0 ws w1 e0 n)) (funext fun a0 => funext fun a1 => funext fun a2 => funext fun a3 => plcApp0F_l5_eq fuel w0 ws w1 e0 n K k a0 a1 a2 a3)) (rfl))
noncomputable def plcApp0F_s8 {R : Type} (w0 : Int) (x0 : Nat) (x1 : List Int) (x2 : Int) (ws : List Int) (w1 : Int) (x3 : Bool) (e0 : Int) (x4 : Bool) (n : Int) (c0 : Int → Nat → List Int → Option R) : Option R :=
  c0 (IntKind.i64.wrap (w0 + 1)) x0 x1
theorem plcApp0F_s8_eq (fuel k : Nat) (K : Ex → St → Option Out) (w0 : Int) (x0 : Nat) (x1 : List Int) (x2 : Int) (ws : List Int) (w1 : Int) (x3 : Bool) (e0 : Int) (x4 : Bool) (n : Int) : (kont (itX Tryd.prog mode5 T_PlacesOwn fuel 3 28 3 2 (roundK (evC qa11) (evC qa12) (qa13 fuel) #[7] 3876 qa10)) qa15 [1, 1, 0, 0, 1, 0] 268435417 (rdK qa15 (itX Tryd.prog mode5 T_PlacesOwn fuel 3 28 3 2 (roundK (evC qa11) (evC qa12) (qa13 fuel) #[7] 3876 qa10)) 0 [0, 6, 7, 8] k K)) (.exit 2) ⟨[(0, .yl 2), (3, vI w0), (4, vU x2), (6, vW ws), (7, vI w1), (8, vI w0), (9, vB x3), (10, vI w0), (11, .lp [vU e0] 0), (12, vU e0), (13, vU x2), (14, vB x4)], [(qa14 n ws), (1, some ⟨26, .agg [.sl 3 1 0 x0], true⟩), (2, none), (3, bL 3 x1)], 4, none⟩ = plcApp0F_s8 w0 x0 x1 x2 ws w1 x3 e0 x4 n (fun a0 a1 a2 => lpN qa15 (itX Tryd.prog mode5 T_PlacesOwn fuel 3 28 3 2 (roundK (evC qa11) (evC qa12) (qa13 fuel) #[7] 3876 qa10)) 0 [0, 6, 7, 8] k ⟨[(0, .yl 2), (6, vW ws), (7, vI w1), (8, vI a0)], [(qa14 n ws), (1, some ⟨26, .agg [.sl 3 1 0 a1], true⟩), (2, none), (3, bL 3 a2)], 4, none⟩ K) := by kernel_rfl
noncomputable def plcApp0F_s6 {R : Type} (w0 w1 : Int) (ws : List Int) (w2 : Nat) (w3 : List Int) (n : Int) (c0 : Int → Bool → Nat → List Int → Int → Option R) (c1 : Nat → List Int → Option R) : Option R :=
  br (decide (w0 < w1))
    (bnd (ix ws w0) fun e0 =>
    c0 e0 (decide (w0 < w1)) w2 w3 e0)
    (c1 w2 w3)
theorem plcApp0F_s6_eq (fuel k : Nat) (K : Ex → St → Option Out) (w0 w1 : Int) (ws : List Int) (w2 : Nat) (w3 : List Int) (n : Int) : lpN qa15 (itX Tryd.prog mode5 T_PlacesOwn fuel 3 28 3 2 (roundK (evC qa11) (evC qa12) (qa13 fuel) #[7] 3876 qa10)) 0 [0, 6, 7, 8] (k + 1) ⟨[(0, .yl 2), (6, vW ws), (7, vI w1), (8, vI w0)], [(qa14 n ws), (1, some ⟨26, .agg [.sl 3 1 0 w2], true⟩), (2, none), (3, bL 3 w3)], 4, none⟩ K = plcApp0F_s6 w0 w1 ws w2 w3 n (fun a0 a1 a2 a3 e0 => lpN qa18 (itX Tryd.prog mode5 T_PlacesOwn fuel 3 28 3 2 (roundK (evC qa11) (evC qa12) (qa13 fuel) #[7] 3876 qa10)) 268435417 qa17 fuel ⟨[(0, .yl 2), (3, vI w0), (4, vU a0), (6, vW ws), (7, vI w1), (8, vI w0), (9, vB a1), (10, vI w0), (11, .lp [vU e0] 0), (12, vU e0)], [(qa14 n ws), (1, some ⟨26, .agg [.sl 3 1 0 a2], true⟩), (2, none), (3, bL 3 a3)], 4, none⟩ (kont (itX Tryd.prog mode5 T_PlacesOwn fuel 3 28 3 2 (roundK (evC qa11) (evC qa12) (qa13 fuel) #[7] 3876 qa10)) qa15 [1, 1, 0, 0, 1, 0] 268435417 (rdK qa15 (itX Tryd.prog mode5 T_PlacesOwn fuel 3 28 3 2 (roundK (evC qa11) (evC qa12) (qa13 fuel) #[7] 3876 qa10)) 0 [0, 6, 7, 8] k K))) (fun a4 a5 => K (.exit 0) ⟨[], [(qa14 n ws), (1, some ⟨26, .agg [.sl 3 1 0 a4], true⟩), (2, none), (3, bL 3 a5)], 4, none⟩) := by kernel_rfl
noncomputable def plcApp0F_l4 {R : Type} (fuel : Nat) (ws : List Int) (w0 n : Int) (k0 : Nat → List Int → Option R) : Nat → Int → Nat → List Int → Option R
  | 0, _, _, _ => none
  | k + 1, w1, w2, w3 =>
    (plcApp0F_s6 w1 w0 ws w2 w3 n (fun a0 a1 a2 a3 e0 => (plcApp0F_l5 fuel w1 ws w0 e0 n (fun x0 x1 x2 x3 x4 => (plcApp0F_s8 w1 x3 x4 x0 ws w0 x1 e0 x2 n (fun a4 a5 a6 => ( plcApp0F_l4 fuel ws w0 n k0 k a4 a5 a6 )))) fuel a0 a1 a2 a3)) (fun a7 a8 => k0 a7 a8))
theorem plcApp0F_l4_eq (fuel : Nat) (ws : List Int) (w0 n : Int) (K : Ex → St → Option Out) : ∀ (k : Nat) (w1 : Int) (w2 : Nat) (w3 : List Int), lpN qa15 (itX Tryd.prog mode5 T_PlacesOwn fuel 3 28 3 2 (roundK (evC qa11) (evC qa12) (qa13 fuel) #[7] 3876 qa10)) 0 [0, 6, 7, 8] k ⟨[(0, .yl 2), (6, vW ws), (7, vI w0), (8, vI w1)], [(qa14 n ws), (1, some ⟨26, .agg [.sl 3 1 0 w2], true⟩), (2, none), (3, bL 3 w3)], 4, none⟩ K = plcApp0F_l4 fuel ws w0 n (fun y0 y1 => K (.exit 0) ⟨[], [(qa14 n ws), (1, some ⟨26, .agg [.sl 3 1 0 y0], true⟩), (2, none), (3, bL 3 y1)], 4, none⟩) k w1 w2 w3
  | 0, _, _, _ => rfl
  | k + 1, w1, w2, w3 => by
    unfold plcApp0F_l4
    exact (plcApp0F_s6_eq fuel k K w1 w0 ws w2 w3 n).trans (congr (congr (Eq.refl (plcApp0F_s6 (R := Out) w1 w0 ws w2 w3 n)) (funext fun a0 => funext fun a1 => funext fun a2 => funext fun a3 => funext fun e0 => (plcApp0F_l5_eq fuel w1 ws w0 e0 n (kont (itX Tryd.prog mode5 T_PlacesOwn fuel 3 28 3 2 (roundK (evC qa11) (evC qa12) (qa13 fuel) #[7] 3876 qa10)) qa15 [1, 1, 0, 0, 1, 0] 268435417 (rdK qa15 (itX Tryd.prog mode5 T_PlacesOwn fuel 3 28 3 2 (roundK (evC qa11) (evC qa12) (qa13 fuel) #[7] 3876 qa10)) 0 [0, 6, 7, 8] k K)) fuel a0 a1 a2 a3).trans (congrFun (congrFun (congrFun (congrFun (congrFun (congr (Eq.refl (plcApp0F_l5 (R := Out) fuel w1 ws w0 e0 n)) (funext fun x0 => funext fun x1 => funext fun x2 => funext fun x3 => funext fun x4 => (plcApp0F_s8_eq fuel k K w1 x3 x4 x0 ws w0 x1 e0 x2 n).trans (congr (Eq.refl (plcApp0F_s8 (R := Out) w1 x3 x4 x0 ws w0 x1 e0 x2 n)) (funext fun a4 => funext fun a5 => funext fun a6 => plcApp0F_l4_eq fuel ws w0 n K k a4 a5 a6)))) fuel) a0) a1) a2) a3))) (rfl))
noncomputable def plcApp0F_s5 {R : Type} (w0 : Int) (x0 : Nat) (x1 : List Int) (x2 : Int) (ws : List Int) (w1 : Int) (x3 : Bool) (e0 : Int) (x4 : Bool) (n : Int) (c0 : Int → Nat → List Int → Option R) : Option R :=
  c0 (IntKind.i64.wrap (w0 + 1)) x0 x1
theorem plcApp0F_s5_eq (fuel k : Nat) (K : Ex → St → Option Out) (w0 : Int) (x0 : Nat) (x1 : List Int) (x2 : Int) (ws : List Int) (w1 : Int) (x3 : Bool) (e0 : Int) (x4 : Bool) (n : Int) : (kont (itX Tryd.prog mode5 T_PlacesOwn fuel 3 28 3 2 (roundK (evC qa11) (evC qa12) (qa13 fuel) #[7] 3876 qa10)) qa15 [1, 1, 0, 0, 1, 0] 268435417 (rdK qa15 (itX Tryd.prog mode5 T_PlacesOwn fuel 3 28 3 2 (roundK (evC qa11) (evC qa12) (qa13 fuel) #[7] 3876 qa10)) 0 [0, 6, 7, 8] k K)) (.exit 2) ⟨[(0, .yl 2), (3, vI w0), (4, vU x2), (6, vW ws), (7, vI w1), (8, vI w0), (9, vB x3), (10, vI w0), (11, .lp [vU e0] 0), (12, vU e0), (13, vU x2), (14, vB x4)], [(qa14 n ws), (1, some ⟨26, .agg [.sl 3 1 0 x0], true⟩), (2, none), (3, bL 3 x1)], 4, none⟩ = plcApp0F_s5 w0 x0 x1 x2 ws w1 x3 e0 x4 n (fun a0 a1 a2 => lpN qa15 (itX Tryd.prog mode5 T_PlacesOwn fuel 3 28 3 2 (roundK (evC qa11) (evC qa12) (qa13 fuel) #[7] 3876 qa10)) 0 [0, 6, 7, 8] k ⟨[(0, .yl 2), (6, vW ws), (7, vI w1), (8, vI a0)], [(qa14 n ws), (1, some ⟨26, .agg [.sl 3 1 0 a1], true⟩), (2, none), (3, bL 3 a2)], 4, none⟩ K) := by kernel_rfl
noncomputable def plcApp0F_s9 {R : Type} (w0 w1 e0 : Int) (ws : List Int) (x0 x1 : Bool) (n : Int) (c0 : Int → Int → Option R) : Option R :=
  c0 w0 (IntKind.i64.wrap (w1 + 1))
theorem plcApp0F_s9_eq (fuel k : Nat) (K : Ex → St → Option Out) (w0 w1 e0 : Int) (ws : List Int) (x0 x1 : Bool) (n : Int) : (kont (itX Tryd.prog mode5 T_PlacesOwn fuel 3 28 3 2 (roundK (evC qa11) (evC qa12) (qa13 fuel) #[7] 3876 qa10)) qa15 [1, 1, 0, 0, 1, 0] 268435417 (rdK qa15 (itX Tryd.prog mode5 T_PlacesOwn fuel 3 28 3 2 (roundK (evC qa11) (evC qa12) (qa13 fuel) #[7] 3876 qa10)) 0 [0, 6, 7, 8] k K)) (.exit 2) ⟨[(0, .yl 2), (3, vI w1), (4, vU e0), (6, vW ws), (7, vI w0), (8, vI w1), (9, vB x0), (10, vI w1), (11, .lp [vU e0] 0), (12, vU e0), (13, vU e0), (14, vB x1)], [(qa14 n ws), qa16, (2, none)], 3, none⟩ = plcApp0F_s9 w0 w1 e0 ws x0 x1 n (fun a0 a1 => lpN qa15 (itX Tryd.prog mode5 T_PlacesOwn fuel 3 28 3 2 (roundK (evC qa11) (evC qa12) (qa13 fuel) #[7] 3876 qa10)) 0 [0, 6, 7, 8] k ⟨[(0, .yl 2), (6, vW ws), (7, vI a0), (8, vI a1)], [(qa14 n ws), qa16, (2, none)], 3, none⟩ K) := by kernel_rfl
noncomputable def plcApp0F_s2 {R : Type} (w0 w1 : Int) (ws : List Int) (n : Int) (c0 : Bool → Int → Option R) (c1 : Option R) : Option R :=
  br (decide (w0 < w1))
    (bnd (ix ws w0) fun e0 =>
    c0 (decide (w0 < w1)) e0)
    (c1)
theorem plcApp0F_s2_eq (fuel k : Nat) (K : Ex → St → Option Out) (w0 w1 : Int) (ws : List Int) (n : Int) : lpN qa15 (itX Tryd.prog mode5 T_PlacesOwn fuel 3 28 3 2 (roundK (evC qa11) (evC qa12) (qa13 fuel) #[7] 3876 qa10)) 0 [0, 6, 7, 8] (k + 1) ⟨[(0, .yl 2), (6, vW ws), (7, vI w1), (8, vI w0)], [(qa14 n ws), qa16, (2, none)], 3, none⟩ K = plcApp0F_s2 w0 w1 ws n (fun a0 e0 => lpN qa18 (itX Tryd.prog mode5 T_PlacesOwn fuel 3 28 3 2 (roundK (evC qa11) (evC qa12) (qa13 fuel) #[7] 3876 qa10)) 268435417 qa17 fuel ⟨[(0, .yl 2), (3, vI w0), (4, vU e0), (6, vW ws), (7, vI w1), (8, vI w0), (9, vB a0), (10, vI w0), (11, .lp [vU e0] 0), (12, vU e0)], [(qa14 n ws), qa16, (2, none)], 3, none⟩ (kont (itX Tryd.prog mode5 T_PlacesOwn fuel 3 28 3 2 (roundK (evC qa11) (evC qa12) (qa13 fuel) #[7] 3876 qa10)) qa15 [1, 1, 0, 0, 1, 0] 268435417 (rdK qa15 (itX Tryd.prog mode5 T_PlacesOwn fuel 3 28 3 2 (roundK (evC qa11) (evC qa12) (qa13 fuel) #[7] 3876 qa10)) 0 [0, 6, 7, 8] k K))) (K (.exit 0) ⟨[], [(qa14 n ws), qa16, (2, none)], 3, none⟩) := by kernel_rfl
noncomputable def plcApp0F_l1 {R : Type} (fuel : Nat) (ws : List Int) (n : Int) (k0 : Nat → List Int → Option R) (k1 : Option R) : Nat → Int → Int → Option R
  | 0, _, _ => none
  | k + 1, w0, w1 =>
    (plcApp0F_s2 w1 w0 ws n (fun a0 e0 => (plcApp0F_l2 fuel w1 e0 ws w0 n (fun x0 x1 x2 x3 x4 => (plcApp0F_s5 w1 x3 x4 x0 ws w0 x1 e0 x2 n (fun a1 a2 a3 => (plcApp0F_l4 fuel ws w0 n (fun x5 x6 => k0 x5 x6) k a1 a2 a3)))) (fun x7 x8 => (plcApp0F_s9 w0 w1 e0 ws x7 x8 n (fun a4 a5 => ( plcApp0F_l1 fuel ws n k0 k1 k a4 a5 )))) fuel a0)) (k1))
theorem plcApp0F_l1_eq (fuel : Nat) (ws : List Int) (n : Int) (K : Ex → St → Option Out) : ∀ (k : Nat) (w0 w1 : Int), lpN qa15 (itX Tryd.prog mode5 T_PlacesOwn fuel 3 28 3 2 (roundK (evC qa11) (evC qa12) (qa13 fuel) #[7] 3876 qa10)) 0 [0, 6, 7, 8] k ⟨[(0, .yl 2), (6, vW ws), (7, vI w0), (8, vI w1)], [(qa14 n ws), qa16, (2, none)], 3, none⟩ K = plcApp0F_l1 fuel ws n (fun y0 y1 => K (.exit 0) ⟨[], [(qa14 n ws), (1, some ⟨26, .agg [.sl 3 1 0 y0], true⟩), (2, none), (3, bL 3 y1)], 4, none⟩) (K (.exit 0) ⟨[], [(qa14 n ws), qa16, (2, none)], 3, none⟩) k w0 w1
  | 0, _, _ => rfl
  | k + 1, w0, w1 => by
    unfold plcApp0F_l1
    exact (plcApp0F_s2_eq fuel k K w1 w0 ws n).trans (congr (congr (Eq.refl (plcApp0F_s2 (R := Out) w1 w0 ws n)) (funext fun a0 => funext fun e0 => (plcApp0F_l2_eq fuel w1 e0 ws w0 n (kont (itX Tryd.prog mode5 T_PlacesOwn fuel 3 28 3 2 (roundK (evC qa11) (evC qa12) (qa13 fuel) #[7] 3876 qa10)) qa15 [1, 1, 0, 0, 1, 0] 268435417 (rdK qa15 (itX Tryd.prog mode5 T_PlacesOwn fuel 3 28 3 2 (roundK (evC qa11) (evC qa12) (qa13 fuel) #[7] 3876 qa10)) 0 [0, 6, 7, 8] k K)) fuel a0).trans (congrFun (congrFun (congr (congr (Eq.refl (plcApp0F_l2 (R := Out) fuel w1 e0 ws w0 n)) (funext fun x0 => funext fun x1 => funext fun x2 => funext fun x3 => funext fun x4 => (plcApp0F_s5_eq fuel k K w1 x3 x4 x0 ws w0 x1 e0 x2 n).trans (congr (Eq.refl (plcApp0F_s5 (R := Out) w1 x3 x4 x0 ws w0 x1 e0 x2 n)) (funext fun a1 => funext fun a2 => funext fun a3 => plcApp0F_l4_eq fuel ws w0 n K k a1 a2 a3)))) (funext fun x5 => funext fun x6 => (plcApp0F_s9_eq fuel k K w0 w1 e0 ws x5 x6 n).trans (congr (Eq.refl (plcApp0F_s9 (R := Out) w0 w1 e0 ws x5 x6 n)) (funext fun a4 => funext fun a5 => plcApp0F_l1_eq fuel ws n K k a4 a5)))) fuel) a0))) (rfl))
noncomputable def plcApp0F_s10 {R : Type} (x0 : Nat) (n : Int) (ws x1 : List Int) (c0 : Nat → Nat → Int → List Int → List Int → Option R) : Option R :=
  c0 0 x0 n ws x1
theorem plcApp0F_s10_eq (fuel : Nat)  (x0 : Nat) (n : Int) (ws x1 : List Int) : (kont (itX Tryd.prog mode5 T_PlacesOwn fuel 3 28 3 2 (roundK (evC qa11) (evC qa12) (qa13 fuel) #[7] 3876 qa10)) (bodyOf Tryd.prog 126) [1, 0] 0 (itE (behind ⟨qa10, [(qa14 n ws), qa16], 2, none⟩ (kont (qa13 fuel) (bodyOf Tryd.prog 125) [1, 0, 1, 0] 16 (endK Tryd.prog 2 1 125))))) (.exit 0) ⟨[], [(qa14 n ws), (1, some ⟨26, .agg [.sl 3 1 0 x0], true⟩), (2, none), (3, bL 3 x1)], 4, none⟩ = plcApp0F_s10 x0 n ws x1 (fun a0 a1 a2 a3 a4 => some (.sl 1 1 a0 a1, [some ⟨44, .agg [vI a2, vW a3], true⟩, bL 3 a4])) := by kernel_rfl
noncomputable def plcApp0F_s11 {R : Type} (n : Int) (ws : List Int) (c0 : Int → List Int → Option R) : Option R :=
  c0 n ws
theorem plcApp0F_s11_eq (fuel : Nat)  (n : Int) (ws : List Int) : (kont (itX Tryd.prog mode5 T_PlacesOwn fuel 3 28 3 2 (roundK (evC qa11) (evC qa12) (qa13 fuel) #[7] 3876 qa10)) (bodyOf Tryd.prog 126) [1, 0] 0 (itE (behind ⟨qa10, [(qa14 n ws), qa16], 2, none⟩ (kont (qa13 fuel) (bodyOf Tryd.prog 125) [1, 0, 1, 0] 16 (endK Tryd.prog 2 1 125))))) (.exit 0) ⟨[], [(qa14 n ws), qa16, (2, none)], 3, none⟩ = plcApp0F_s11 n ws (fun a0 a1 => some (vN, [some ⟨44, .agg [vI a0, vW a1], true⟩])) := by kernel_rfl
noncomputable def plcApp0F_s1 {R : Type} (ws : List Int) (n : Int) (c0 : Int → Int → Option R) : Option R :=
  c0 ((ws.length : Nat) : Int) 0
theorem plcApp0F_s1_eq (fuel : Nat)  (ws : List Int) (n : Int) : callN Tryd.prog mode5 T_PlacesOwn fuel 125 [vN, .fn (.func 126) [] [.ptr 0 2 0 0]] [⟨44, .agg [vI n, vW ws], true⟩] = plcApp0F_s1 ws n (fun a0 a1 => lpN qa15 (itX Tryd.prog mode5 T_PlacesOwn fuel 3 28 3 2 (roundK (evC qa11) (evC qa12) (qa13 fuel) #[7] 3876 qa10)) 0 [0, 6, 7, 8] fuel ⟨[(0, .yl 2), (6, vW ws), (7, vI a0), (8, vI a1)], [(qa14 n ws), qa16, (2, none)], 3, none⟩ (kont (itX Tryd.prog mode5 T_PlacesOwn fuel 3 28 3 2 (roundK (evC qa11) (evC qa12) (qa13 fuel) #[7] 3876 qa10)) (bodyOf Tryd.prog 126) [1, 0] 0 (itE (behind ⟨qa10, [(qa14 n ws), qa16], 2, none⟩ (kont (qa13 fuel) (bodyOf Tryd.prog 125) [1, 0, 1, 0] 16 (endK Tryd.prog 2 1 125)))))) := by kernel_rfl
noncomputable def plcApp0F {R : Type} (fuel : Nat) (n : Int) (ws : List Int) (r0 : Nat → Nat → Int → List Int → List Int → Option R) (r1 : Int → List Int → Option R) : Option R :=
  (plcApp0F_s1 ws n (fun a0 a1 => (plcApp0F_l1 fuel ws n (fun x0 x1 => (plcApp0F_s10 x0 n ws x1 (fun a2 a3 a4 a5 a6 => r0 a2 a3 a4 a5 a6))) ((plcApp0F_s11 n ws (fun a7 a8 => r1 a7 a8))) fuel a0 a1)))
theorem plcApp0F_eq (fuel : Nat) (n : Int) (ws : List Int) : callN Tryd.prog mode5 T_PlacesOwn fuel 125 [.s (.slice none 0 0), .fn (.func 126) [] [.ptr 0 2 0 0]] [⟨44, .agg [.s (.int .i64 n), .li .u64 ws], true⟩] = plcApp0F fuel n ws (fun z0 z1 z2 z3 z4 => some (.sl 1 1 z0 z1, [some ⟨44, .agg [.s (.int .i64 z2), .li .u64 z3], true⟩, some ⟨3, .li .i64 z4, true⟩])) (fun z0 z1 => some (.s (.slice none 0 0), [some ⟨44, .agg [.s (.int .i64 z0), .li .u64 z1], true⟩])) := by
  unfold plcApp0F
  exact (plcApp0F_s1_eq fuel  ws n).trans (congr (Eq.refl (plcApp0F_s1 (R := Out) ws n)) (funext fun a0 => funext fun a1 => (plcApp0F_l1_eq fuel ws n (kont (itX Tryd.prog mode5 T_PlacesOwn fuel 3 28 3 2 (roundK (evC qa11) (evC qa12) (qa13 fuel) #[7] 3876 qa10)) (bodyOf Tryd.prog 126) [1, 0] 0 (itE (behind ⟨qa10, [(qa14 n ws), qa16], 2, none⟩ (kont (qa13 fuel) (bodyOf Tryd.prog 125) [1, 0, 1, 0] 16 (endK Tryd.prog 2 1 125))))) fuel a0 a1).trans (congrFun (congrFun (congrFun (congr (congr (Eq.refl (plcApp0F_l1 (R := Out) fuel ws n)) (funext fun x0 => funext fun x1 => (plcApp0F_s10_eq fuel  x0 n ws x1))) ((plcApp0F_s11_eq fuel  n ws))) fuel) a0) a1)))
theorem plcApp0_first {R : Type} (fuel : Nat) (hf : 66 ≤ fuel) (ws : List Int) (hok : Ok ws) (hl : ws.length ≤ 8) (n : Int) (k0 : Nat → List Int → Option R) (k1 : Option R) : ∀ (k i : Nat), i ≤ ws.length → ws.length < i + k → wordsFrom ws (ws.length - i) i = [] →
    plcApp0F_l1 fuel ws n k0 k1 k (ws.length : Int) (i : Int) = k1
  | 0, i, h1, h2, h3 => by omega
  | k + 1, i, h1, h2, h3 => by
    unfold plcApp0F_l1 plcApp0F_s2
    rw [br_if]
    by_cases hc : i < ws.length
    · obtain ⟨hg, hlt⟩ := word_get hok hc
      rw [if_pos (by simpa using hc), bnd_of hg]
      dsimp only
      obtain ⟨f, rfl⟩ : ∃ f, fuel = f + 1 := ⟨fuel - 1, by omega⟩
      unfold plcApp0F_l2 plcApp0F_s3
      dsimp only
      rw [show ws.length - i = (ws.length - (i + 1)) + 1 by omega, wordsFrom, List.append_eq_nil_iff] at h3
      rw [br_if]
      have hw1 : IntKind.i64.wrap ((i : Int) + 1) = ((i + 1 : Nat) : Int) := by rw [wrap_i64 (by omega) (by omega)]; omega
      by_cases h0 : (ws.getD i 0).toNat = 0
      · rw [h0, if_neg (by decide)]
        unfold plcApp0F_s9
        rw [hw1]
        exact plcApp0_first (f + 1) hf ws hok hl n k0 k1 k (i + 1) (by omega) (by omega) h3.2
      · have hs := bitsAt_step (k := i) h0 hlt
        rw [hs] at h3
        exact absurd h3.1 (by simp)
    · rw [if_neg (by simpa using hc)]
theorem plcApp0_fact (n : Int) (ws : List Int) (hg : (okW ws && decide (ws.length ≤ 8) && decide ((plS ws).length = 0)) = true) : Fact Tryd.prog gTab 125 [.s (.slice none 0 0), .fn (.func 126) [] [.ptr 0 2 0 0]] [⟨44, .agg [.s (.int .i64 n), .li .u64 ws], true⟩] (.s (.slice none 0 0), [some ⟨44, .agg [.s (.int .i64 n), .li .u64 ws], true⟩]) := by
  simp only [Bool.and_eq_true, decide_eq_true_eq] at hg
  obtain ⟨⟨h1, h2⟩, h3⟩ := hg
  refine callN_fact hN hM T_PlacesOwn_ok (n := 100) (mode := mode5) ?_
  rw [plcApp0F_eq]
  unfold plcApp0F plcApp0F_s1
  have e : wordsFrom ws (ws.length - 0) 0 = [] := by rw [plS_eq] at h3; exact List.eq_nil_of_length_eq_zero h3
  have h := fun k0 k1 => plcApp0_first (R := Out) 100 (by omega) ws (okW_iff.1 h1) h2 n k0 k1 100 0 (by omega) (by omega) e
  rw [Int.natCast_zero] at h
  dsimp only
  rw [h]
  rfl
noncomputable def plcApp0_ent : List V → List Blk → Option (Bool × Out)
  | [.s (.slice none 0 0), .fn (.func 126) [] [.ptr 0 2 0 0]], [⟨44, .agg [.s (.int .i64 n), .li .u64 ws], true⟩] => some ((okW ws && decide (ws.length ≤ 8) && decide ((plS ws).length = 0)), (.s (.slice none 0 0), [some ⟨44, .agg [.s (.int .i64 n), .li .u64 ws], true⟩]))
  | _, _ => none
theorem plcApp0_ok : ∀ args bs out, plcApp0_ent args bs = some (true, out) → Fact Tryd.prog gTab 125 args bs out := by
  intro args bs out h
  unfold plcApp0_ent at h
  split at h
  · rename_i n ws
    simp only [Option.some.injEq, Prod.mk.injEq] at h
    obtain ⟨hg, rfl⟩ := h
    exact plcApp0_fact n ws hg
  · cases h
noncomputable def T_plcApp0 : Tbl := Tbl.cons 125 plcApp0_ent T_PlacesOwn
theorem T_plcApp0_ok : CallOk Tryd.prog gTab T_plcApp0 := cons_ok T_PlacesOwn_ok plcApp0_ok
/-! slices.Collect[int] -/
noncomputable def plcColl0F_s1 {R : Type} (ws : List Int) (n : Int) (c0 : Int → List Int → Option R) : Option R :=
  grd (okW ws && decide (ws.length ≤ 8) && decide ((plS ws).length = 0)) <|
  c0 n ws
theorem plcColl0F_s1_eq (fuel : Nat)  (ws : List Int) (n : Int) : callN Tryd.prog mode5 T_plcApp0 fuel 77 [.fn (.func 126) [] [.ptr 0 2 0 0]] [⟨44, .agg [vI n, vW ws], true⟩] = plcColl0F_s1 ws n (fun a1 a2 => some (vN, [some ⟨44, .agg [vI a1, vW a2], true⟩])) := by kernel_rfl
noncomputable def plcColl0F {R : Type} (fuel : Nat) (n : Int) (ws : List Int) (r0 : Int → List Int → Option R) : Option R :=
  (plcColl0F_s1 ws n (fun a1 a2 => r0 a1 a2))
theorem plcColl0F_eq (fuel : Nat) (n : Int) (ws : List Int) : callN Tryd.prog mode5 T_plcApp0 fuel 77 [.fn (.func 126) [] [.ptr 0 2 0 0]] [⟨44, .agg [.s (.int .i64 n), .li .u64 ws], true⟩] = plcColl0F fuel n ws (fun z0 z1 => some (.s (.slice none 0 0), [some ⟨44, .agg [.s (.int .i64 z0), .li .u64 z1], true⟩])) := by
  unfold plcColl0F
  exact (plcColl0F_s1_eq fuel  ws n)
theorem plcColl0_fact (n : Int) (ws : List Int) (hg : (okW ws && decide (ws.length ≤ 8) && decide ((plS ws).length = 0)) = true) : Fact Tryd.prog gTab 77 [.fn (.func 126) [] [.ptr 0 2 0 0]] [⟨44, .agg [.s (.int .i64 n), .li .u64 ws], true⟩] (.s (.slice none 0 0), [some ⟨44, .agg [.s (.int .i64 n), .li .u64 ws], true⟩]) := by
  refine callN_fact hN hM T_plcApp0_ok (n := 0) (mode := mode5) ?_
  rw [plcColl0F_eq]
  unfold plcColl0F plcColl0F_s1
  rw [grd_of hg]
noncomputable def plcColl0_ent : List V → List Blk → Option (Bool × Out)
  | [.fn (.func 126) [] [.ptr 0 2 0 0]], [⟨44, .agg [.s (.int .i64 n), .li .u64 ws], true⟩] => some ((okW ws && decide (ws.length ≤ 8) && decide ((plS ws).length = 0)), (.s (.slice none 0 0), [some ⟨44, .agg [.s (.int .i64 n), .li .u64 ws], true⟩]))
  | _, _ => none
theorem plcColl0_ok : ∀ args bs out, plcColl0_ent args bs = some (true, out) → Fact Tryd.prog gTab 77 args bs out := by
  intro args bs out h
  unfold plcColl0_ent at h
  split at h
  · rename_i n ws
    simp only [Option.some.injEq, Prod.mk.injEq] at h
    obtain ⟨hg, rfl⟩ := h
    exact plcColl0_fact n ws hg
  · cases h
noncomputable def T_plcColl0 : Tbl := Tbl.cons 77 plcColl0_ent T_plcApp0
theorem T_plcColl0_ok : CallOk Tryd.prog gTab T_plcColl0 := cons_ok T_plcApp0_ok plcColl0_ok
/-! downpour/bitrow.Places -/
noncomputable def PlacesF_s1 {R : Type} (ws : List Int) (n : Int) (c0 : Int → Option R) : Option R :=
  grd (okW ws) <|
  br (!(rtS n ws))
    (c0 1)
    (grd (okW ws && decide (ws.length ≤ 8) && decide ((plS ws).length = 0)) <|
    c0 0)
theorem PlacesF_s1_eq (fuel : Nat)  (ws : List Int) (n : Int) : callN Tryd.prog mode5 T_plcColl0 fuel 26 [.agg [vI n, vW ws]] [] = PlacesF_s1 ws n (fun a1 => some (.tup [vN, vI a1], [])) := by kernel_rfl
noncomputable def PlacesF {R : Type} (fuel : Nat) (n : Int) (ws : List Int) (r0 : Int → Option R) : Option R :=
  (PlacesF_s1 ws n (fun a1 => r0 a1))
theorem PlacesF_eq (fuel : Nat) (n : Int) (ws : List Int) : callN Tryd.prog mode5 T_plcColl0 fuel 26 [.agg [.s (.int .i64 n), .li .u64 ws]] [] = PlacesF fuel n ws (fun z0 => some (.tup [.s (.slice none 0 0), .s (.int .i64 z0)], [])) := by
  unfold PlacesF
  exact (PlacesF_s1_eq fuel  ws n)
theorem Places_fact (n : Int) (ws : List Int) (hg : (okW ws) = true) : Fact Tryd.prog gTab 26 [.agg [.s (.int .i64 n), .li .u64 ws]] [] (.tup [.li .i64 (plcS n ws), .s (.int .i64 (if rtS n ws = true then 0 else 1))], []) := by
  rw [plcS_eq]
  unfold plcI
  have hnil : ∀ e : Int, Fact Tryd.prog gTab 26 [.agg [.s (.int .i64 n), .li .u64 ws]] [] (.tup [.s (.slice none 0 0), .s (.int .i64 e)], []) → Fact Tryd.prog gTab 26 [.agg [.s (.int .i64 n), .li .u64 ws]] [] (.tup [.li .i64 [], .s (.int .i64 e)], []) := fun e h =>
    h.out fun _ _ _ x h => RV_tup_two (fun _ h => RVs_two (fun _ h => RV_nil_li h) (fun _ h => h) h) h
  by_cases hr : rtS n ws = true
  · have hl := rt_len hr
    rw [if_pos hr, if_pos hr]
    by_cases h0 : (plS ws).length = 0
    · rw [List.eq_nil_of_length_eq_zero h0]
      refine hnil 0 ?_
      refine callN_fact hN hM T_plcColl0_ok (n := 0) (mode := mode5) ?_
      rw [PlacesF_eq]
      unfold PlacesF PlacesF_s1
      rw [grd_of hg, br_if, if_neg (by simp [hr]), grd_of (by simp [hg, h0]; omega)]
    · refine callN_fact hN hM T_plcColl_ok (n := 0) (mode := mode3) ?_
      rw [plcAF_eq]
      unfold plcAF plcAF_s1
      rw [grd_of hg, br_if, if_neg (by simp [hr]), grd_of (by simp [hg]; omega)]
      dsimp only
      rw [List.drop_zero, List.take_length]
  · rw [if_neg hr, if_neg hr]
    refine hnil 1 ?_
    refine callN_fact hN hM T_plcColl0_ok (n := 0) (mode := mode5) ?_
    rw [PlacesF_eq]
    unfold PlacesF PlacesF_s1
    rw [grd_of hg, br_if, if_pos (by simp [hr])]
noncomputable def Places_ent : List V → List Blk → Option (Bool × Out)
  | [.agg [.s (.int .i64 n), w0]], [] => (asSl (.int .u64) w0).bind fun ws => some ((okW ws), (.tup [.li .i64 (plcS n ws), .s (.int .i64 (if rtS n ws = true then 0 else 1))], []))
  | _, _ => none
theorem Places_ok : ∀ args bs out, Places_ent args bs = some (true, out) → Fact Tryd.prog gTab 26 args bs out := by
  intro args bs out h
  unfold Places_ent at h
  split at h
  · rename_i n w0
    obtain ⟨ws, h_ws, h⟩ := Option.bind_eq_some_iff.1 h
    simp only [Option.some.injEq, Prod.mk.injEq] at h
    obtain ⟨hg, rfl⟩ := h
    exact (Places_fact n ws hg).args (fun _ _ _ => fun _ h => RVs_two (fun _ h => RV_agg_two (fun _ h => RVs_two (fun _ h => h) (fun _ h => RVs_two (fun _ h => RV_li h_ws h) (fun _ h => h) h) h) h) (fun _ h => h) h)
  · cases h
noncomputable def T_Places : Tbl := Tbl.cons 26 Places_ent T_plcColl0
theorem T_Places_ok : CallOk Tryd.prog gTab T_Places := cons_ok T_plcColl0_ok Places_ok
end Go.Proofs.YtfpdcfgjhkiklaaDoor
