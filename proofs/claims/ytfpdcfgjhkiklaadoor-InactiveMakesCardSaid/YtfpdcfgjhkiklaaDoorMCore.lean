/- Rows, their places, matrices that may be: what each function tells. -/
import Derived.Test.YtfpdcfgjhkiklaaDoorPmTab
import Derived.KernelRfl
import Derived.Test.YtfpdcfgjhkiklaaDoorProg
import Derived.Test.YtfpdcfgjhkiklaaDoorPmPut
import Derived.Test.YtfpdcfgjhkiklaaDoorPlBit
import Derived.Test.YtfpdcfgjhkiklaaDoorPlPop
import Derived.Shelf.Spec.TrailingZeros
set_option autoImplicit false
set_option maxRecDepth 100000
set_option maxHeartbeats 4000000
set_option linter.unusedVariables false
set_option linter.unusedSimpArgs false
namespace Go.Proofs.YtfpdcfgjhkiklaaDoor
open Go Go.PM Go.Proofs Go.Shelf Go.PM.Row Go.PM.Bits Go.PM.Bit
abbrev vN : V := .s (.slice none 0 0)
abbrev vI (x : Int) : V := .s (.int .i64 x)
abbrev vU (x : Int) : V := .s (.int .u64 x)
abbrev vB (x : Bool) : V := .s (.bool x)
abbrev vS (x : ByteArray) : V := .s (.string x)
abbrev vL (l : List Int) : V := .li .i64 l
abbrev vW (l : List Int) : V := .li .u64 l
abbrev bL (t : Nat) (l : List Int) : Option Blk := some ⟨t, .li .i64 l, true⟩
abbrev vR (m : List (Int × List Int)) : V := .lt (.pair (.int .i64) (.sl (.int .u64))) m
def gTab : Glob := fun b => if b = 0 then some (Lib.deBruijn64tab.map fun (n : Nat) => (.int .u8 (n : Int) : Value)) else none
theorem hN : namesOk Tryd.prog = true := by kernel_rfl
theorem hM : Tryd.prog.follows .mixedOrders = true := by kernel_rfl
def mode1 : FuncId → Nat := fun f => bif Nat.beq f 161 then 2 else 0
/-! downpour/bitrow.sized -/
noncomputable def rsizedF_s1 {R : Type} (n : Int) (c0 : Bool → Option R) : Option R :=
  br (decide (n ≥ 0))
    (c0 (decide (n ≤ 512)))
    (c0 false)
theorem rsizedF_s1_eq (fuel : Nat)  (n : Int) : callN Tryd.prog mode1 Tbl.nil fuel 124 [vI n] [] = rsizedF_s1 n (fun a1 => some (vB a1, [])) := by kernel_rfl
noncomputable def rsizedF {R : Type} (fuel : Nat) (n : Int) (r0 : Bool → Option R) : Option R :=
  (rsizedF_s1 n (fun a1 => r0 a1))
theorem rsizedF_eq (fuel : Nat) (n : Int) : callN Tryd.prog mode1 Tbl.nil fuel 124 [.s (.int .i64 n)] [] = rsizedF fuel n (fun z0 => some (.s (.bool z0), [])) := by
  unfold rsizedF
  exact (rsizedF_s1_eq fuel  n)
theorem rsized_fact (n : Int) : Fact Tryd.prog gTab 124 [.s (.int .i64 n)] [] (.s (.bool (szB n)), []) := by
  refine callN_fact hN hM nil_ok (n := 0) (mode := mode1) ?_
  rw [rsizedF_eq]
  unfold rsizedF rsizedF_s1 szB
  rw [br_if]
  by_cases h : 0 ≤ n
  · simp [h]
  · simp [h]
noncomputable def rsized_ent : List V → List Blk → Option (Bool × Out)
  | [.s (.int .i64 n)], [] => some (true, (.s (.bool (szB n)), []))
  | _, _ => none
theorem rsized_ok : ∀ args bs out, rsized_ent args bs = some (true, out) → Fact Tryd.prog gTab 124 args bs out := by
  intro args bs out h
  unfold rsized_ent at h
  split at h
  · rename_i n
    simp only [Option.some.injEq, Prod.mk.injEq] at h
    obtain ⟨_, rfl⟩ := h
    exact rsized_fact n
  · cases h
noncomputable def T_rsized : Tbl := Tbl.cons 124 rsized_ent Tbl.nil
theorem T_rsized_ok : CallOk Tryd.prog gTab T_rsized := cons_ok nil_ok rsized_ok
/-! downpour/bitrow.fresh -/
noncomputable def freshF_s1 {R : Type} (n : Int) (c0 : Int → Nat → Nat → List Int → Option R) : Option R :=
  bnd (divI .quo .i64 (IntKind.i64.wrap ((IntKind.i64.wrap (n + 64)) - 1)) 64) fun v1 =>
  bnd (mkN v1 v1 8) fun n2 =>
  c0 n 0 n2 (List.replicate n2 (0 : Int))
theorem freshF_s1_eq (fuel : Nat)  (n : Int) : callN Tryd.prog mode1 T_rsized fuel 161 [vI n] [] = freshF_s1 n (fun a3 a4 a5 a6 => some (.agg [vI a3, .sl 0 1 a4 a5], [some ⟨79, vW a6, true⟩])) := by kernel_rfl
noncomputable def freshF {R : Type} (fuel : Nat) (n : Int) (r0 : Int → Nat → Nat → List Int → Option R) : Option R :=
  (freshF_s1 n (fun a3 a4 a5 a6 => r0 a3 a4 a5 a6))
theorem freshF_eq (fuel : Nat) (n : Int) : callN Tryd.prog mode1 T_rsized fuel 161 [.s (.int .i64 n)] [] = freshF fuel n (fun z0 z1 z2 z3 => some (.agg [.s (.int .i64 z0), .sl 0 1 z1 z2], [some ⟨79, .li .u64 z3, true⟩])) := by
  unfold freshF
  exact (freshF_s1_eq fuel  n)
theorem count_words {n : Int} (h0 : 0 ≤ n) (h1 : n ≤ 512) : divI .quo .i64 (IntKind.i64.wrap (IntKind.i64.wrap (n + 64) - 1)) 64 = some ((nw n : Nat) : Int) := by
  rw [wrap_i64 (x := n + 64) (by omega) (by omega), wrap_i64 (by omega) (by omega), quo_i64 (by omega) (by omega) (by decide), nw_cast h0]
  congr 2
  omega
theorem fresh_fact (n : Int) (hg : (szB n) = true) : Fact Tryd.prog gTab 161 [.s (.int .i64 n)] [] (.agg [.s (.int .i64 n), .sl 0 1 0 (nw n)], [some ⟨79, .li .u64 (zerosS (nw n)), true⟩]) := by
  obtain ⟨h0, h1⟩ := szB_iff.1 hg
  refine callN_fact hN hM T_rsized_ok (n := 0) (mode := mode1) ?_
  rw [freshF_eq]
  unfold freshF freshF_s1
  have hl := nw_le h1
  rw [count_words h0 h1, bnd_some, bnd_of (mkN_of (by omega) (by omega) (by omega)), Int.toNat_natCast, zerosS_eq]
  rfl
noncomputable def fresh_ent : List V → List Blk → Option (Bool × Out)
  | [.s (.int .i64 n)], [] => some ((szB n), (.agg [.s (.int .i64 n), .sl 0 1 0 (nw n)], [some ⟨79, .li .u64 (zerosS (nw n)), true⟩]))
  | _, _ => none
theorem fresh_ok : ∀ args bs out, fresh_ent args bs = some (true, out) → Fact Tryd.prog gTab 161 args bs out := by
  intro args bs out h
  unfold fresh_ent at h
  split at h
  · rename_i n
    simp only [Option.some.injEq, Prod.mk.injEq] at h
    obtain ⟨hg, rfl⟩ := h
    exact fresh_fact n hg
  · cases h
noncomputable def T_fresh : Tbl := Tbl.cons 161 fresh_ent T_rsized
theorem T_fresh_ok : CallOk Tryd.prog gTab T_fresh := cons_ok T_rsized_ok fresh_ok
/-! downpour/bitrow.Right -/
noncomputable def rightF_s1 {R : Type} (n : Int) (ws : List Int) (c0 : Bool → Option R) : Option R :=
  br (!(szB n))
    (c0 false)
    (bnd (divI .quo .i64 (IntKind.i64.wrap ((IntKind.i64.wrap (n + 64)) - 1)) 64) fun v2 =>
    br (((ws.length : Nat) : Int) != v2)
      (c0 false)
      (bnd (divI .rem .i64 n 64) fun v4 =>
      br (v4 == 0)
        (c0 true)
        (bnd (ix ws (IntKind.i64.wrap (((ws.length : Nat) : Int) - 1))) fun e6 =>
        bnd (divI .rem .i64 n 64) fun v7 =>
        bnd (shfI .shr .u64 e6 v7) fun v8 =>
        c0 (v8 == 0))))
theorem rightF_s1_eq (fuel : Nat)  (n : Int) (ws : List Int) : callN Tryd.prog mode1 T_fresh fuel 76 [.agg [vI n, vW ws]] [] = rightF_s1 n ws (fun a1 => some (vB a1, [])) := by kernel_rfl
noncomputable def rightF {R : Type} (fuel : Nat) (n : Int) (ws : List Int) (r0 : Bool → Option R) : Option R :=
  (rightF_s1 n ws (fun a1 => r0 a1))
theorem rightF_eq (fuel : Nat) (n : Int) (ws : List Int) : callN Tryd.prog mode1 T_fresh fuel 76 [.agg [.s (.int .i64 n), .li .u64 ws]] [] = rightF fuel n ws (fun z0 => some (.s (.bool z0), [])) := by
  unfold rightF
  exact (rightF_s1_eq fuel  n ws)
theorem right_fact (n : Int) (ws : List Int) (hg : (okW ws) = true) : Fact Tryd.prog gTab 76 [.agg [.s (.int .i64 n), .li .u64 ws]] [] (.s (.bool (rtS n ws)), []) := by
  have hok := okW_iff.1 hg
  refine callN_fact hN hM T_fresh_ok (n := 0) (mode := mode1) ?_
  rw [rightF_eq]
  unfold rightF rightF_s1
  by_cases hs : szB n = true
  · obtain ⟨h0, h1⟩ := szB_iff.1 hs
    have hw := nw_cast h0
    rw [hs, br_if, if_neg (by decide), count_words h0 h1, bnd_some, br_if]
    by_cases hl : ws.length = nw n
    · rw [if_neg (by simp [hl]), bnd_of (rem_pos h0 (by decide)), br_if]
      obtain ⟨j, rfl⟩ : ∃ j : Nat, n = (j : Int) := ⟨n.toNat, by omega⟩
      have hlt := val_lt hok
      by_cases hm : (j : Int) % 64 = 0
      · rw [if_pos (by simpa using hm)]
        have : rtS (j : Int) ws = true := rtS_iff.2 ⟨⟨h0, h1⟩, hl, by rw [Int.toNat_natCast]; rwa [show 64 * ws.length = j by omega] at hlt⟩
        rw [this]
      · rw [if_neg (by simpa using hm)]
        have hpos : 0 < ws.length := by omega
        have hi : IntKind.i64.wrap (((ws.length : Nat) : Int) - 1) = ((ws.length - 1 : Nat) : Int) := by rw [wrap_i64 (by omega) (by omega)]; omega
        have hget : ws[ws.length - 1]? = some (ws.getD (ws.length - 1) 0) := by rw [List.getD_eq_getElem?_getD, List.getElem?_eq_getElem (by omega)]; rfl
        have hr := hok.getD (ws.length - 1)
        rw [hi, bnd_of ((ix_nat _ _).trans hget), bnd_of (rem_pos h0 (by decide)), show (j : Int) % 64 = ((j % 64 : Nat) : Int) by omega, bnd_of (shr_nat hr.1 (Nat.mod_lt _ (by decide)))]
        have hli := last_iff hok hpos (n := j) (by omega)
        rw [show j - 64 * (ws.length - 1) = j % 64 by omega] at hli
        refine congrArg (fun b => (some (V.s (.bool b), []) : Option Out)) ?_
        rw [Bool.eq_iff_iff, rtS_iff]
        simp only [beq_iff_eq]
        constructor
        · intro h
          exact ⟨⟨h0, h1⟩, hl, by rw [Int.toNat_natCast]; exact hli.1 (by omega)⟩
        · rintro ⟨_, _, h⟩
          rw [Int.toNat_natCast] at h
          have := hli.2 h
          omega
    · rw [if_pos (by simp; omega)]
      have : rtS n ws = false := by rw [Bool.eq_false_iff]; intro h; exact hl (rtS_iff.1 h).2.1
      rw [this]
  · rw [br_if, if_pos (by simpa using hs)]
    have : rtS n ws = false := by rw [Bool.eq_false_iff]; intro h; exact hs (szB_iff.2 (rtS_iff.1 h).1)
    rw [this]
noncomputable def right_ent : List V → List Blk → Option (Bool × Out)
  | [.agg [.s (.int .i64 n), w0]], [] => (asSl (.int .u64) w0).bind fun ws => some ((okW ws), (.s (.bool (rtS n ws)), []))
  | _, _ => none
theorem right_ok : ∀ args bs out, right_ent args bs = some (true, out) → Fact Tryd.prog gTab 76 args bs out := by
  intro args bs out h
  unfold right_ent at h
  split at h
  · rename_i n w0
    obtain ⟨ws, h_ws, h⟩ := Option.bind_eq_some_iff.1 h
    simp only [Option.some.injEq, Prod.mk.injEq] at h
    obtain ⟨hg, rfl⟩ := h
    exact (right_fact n ws hg).args (fun _ _ _ => fun _ h => RVs_two (fun _ h => RV_agg_two (fun _ h => RVs_two (fun _ h => h) (fun _ h => RVs_two (fun _ h => RV_li h_ws h) (fun _ h => h) h) h) h) (fun _ h => h) h)
  · cases h
noncomputable def T_right : Tbl := Tbl.cons 76 right_ent T_fresh
theorem T_right_ok : CallOk Tryd.prog gTab T_right := cons_ok T_fresh_ok right_ok
def mode2 : FuncId → Nat := fun f => 0
/-! downpour/downpourref01.words -/
noncomputable def refWordsF_s1 {R : Type} (n : Int) (c0 : Int → Option R) : Option R :=
  bnd (divI .quo .i64 (IntKind.i64.wrap (n + 63)) 64) fun v1 =>
  c0 v1
theorem refWordsF_s1_eq (fuel : Nat)  (n : Int) : callN Tryd.prog mode2 T_right fuel 113 [vI n] [] = refWordsF_s1 n (fun a2 => some (vI a2, [])) := by kernel_rfl
noncomputable def refWordsF {R : Type} (fuel : Nat) (n : Int) (r0 : Int → Option R) : Option R :=
  (refWordsF_s1 n (fun a2 => r0 a2))
theorem refWordsF_eq (fuel : Nat) (n : Int) : callN Tryd.prog mode2 T_right fuel 113 [.s (.int .i64 n)] [] = refWordsF fuel n (fun z0 => some (.s (.int .i64 z0), [])) := by
  unfold refWordsF
  exact (refWordsF_s1_eq fuel  n)
theorem refWords_fact (n : Int) (hg : (decide (0 ≤ n) && decide (n ≤ 1000000)) = true) : Fact Tryd.prog gTab 113 [.s (.int .i64 n)] [] (.s (.int .i64 (((nw n : Nat) : Int))), []) := by
  simp only [Bool.and_eq_true, decide_eq_true_eq] at hg
  refine callN_fact hN hM T_right_ok (n := 0) (mode := mode2) ?_
  rw [refWordsF_eq]
  unfold refWordsF refWordsF_s1
  rw [wrap_i64 (by omega) (by omega), bnd_of (quo_i64 (by omega) (by omega) (by decide)), nw_cast hg.1]
noncomputable def refWords_ent : List V → List Blk → Option (Bool × Out)
  | [.s (.int .i64 n)], [] => some ((decide (0 ≤ n) && decide (n ≤ 1000000)), (.s (.int .i64 (((nw n : Nat) : Int))), []))
  | _, _ => none
theorem refWords_ok : ∀ args bs out, refWords_ent args bs = some (true, out) → Fact Tryd.prog gTab 113 args bs out := by
  intro args bs out h
  unfold refWords_ent at h
  split at h
  · rename_i n
    simp only [Option.some.injEq, Prod.mk.injEq] at h
    obtain ⟨hg, rfl⟩ := h
    exact refWords_fact n hg
  · cases h
noncomputable def T_refWords : Tbl := Tbl.cons 113 refWords_ent T_right
theorem T_refWords_ok : CallOk Tryd.prog gTab T_refWords := cons_ok T_right_ok refWords_ok
/-! downpour/downpourref01.In -/
noncomputable def refIn1F_s2 {R : Type} (w4 w3 : Int) (l : List Int) (n : Int) (c0 : Option R) (c1 : Int → Int → Option R) (c2 : Option R) : Option R :=
  br (decide (w4 < w3))
    (bnd (ix l w4) fun e6 =>
    br (e6 == n)
      (c0)
      (c1 w3 (IntKind.i64.wrap (w4 + 1))))
    (c2)
theorem refIn1F_s2_eq (fuel k : Nat) (K : Ex → St → Option Out) (w4 w3 : Int) (l : List Int) (n : Int) : lpN (sub (bodyOf Tryd.prog 64) [1, 0, 1, 0, 0]) (fnX Tryd.prog mode2 T_refWords fuel 17 0) 16 [1, 4, 7, 8, 9] (k + 1) ⟨[(1, vI n), (4, vB false), (7, vL l), (8, vI w3), (9, vI w4)], [], 0, none⟩ K = refIn1F_s2 w4 w3 l n (K .ret ⟨[(4, vB true)], [], 0, none⟩) (fun a7 a8 => lpN (sub (bodyOf Tryd.prog 64) [1, 0, 1, 0, 0]) (fnX Tryd.prog mode2 T_refWords fuel 17 0) 16 [1, 4, 7, 8, 9] k ⟨[(1, vI n), (4, vB false), (7, vL l), (8, vI a7), (9, vI a8)], [], 0, none⟩ K) (K (.exit 0) ⟨[(4, vB false)], [], 0, none⟩) := by kernel_rfl
noncomputable def refIn1F_l1 {R : Type} (fuel : Nat) (n : Int) (l : List Int) (k0 k1 : Option R) : Nat → Int → Int → Option R
  | 0, _, _ => none
  | k + 1, w3, w4 =>
    (refIn1F_s2 w4 w3 l n (k0) (fun a7 a8 => ( refIn1F_l1 fuel n l k0 k1 k a7 a8 )) (k1))
theorem refIn1F_l1_eq (fuel : Nat) (n : Int) (l : List Int) (K : Ex → St → Option Out) : ∀ (k : Nat) (w3 w4 : Int), lpN (sub (bodyOf Tryd.prog 64) [1, 0, 1, 0, 0]) (fnX Tryd.prog mode2 T_refWords fuel 17 0) 16 [1, 4, 7, 8, 9] k ⟨[(1, vI n), (4, vB false), (7, vL l), (8, vI w3), (9, vI w4)], [], 0, none⟩ K = refIn1F_l1 fuel n l (K .ret ⟨[(4, vB true)], [], 0, none⟩) (K (.exit 0) ⟨[(4, vB false)], [], 0, none⟩) k w3 w4
  | 0, _, _ => rfl
  | k + 1, w3, w4 => by
    unfold refIn1F_l1
    exact (refIn1F_s2_eq fuel k K w4 w3 l n).trans (congr (congr (congr (Eq.refl (refIn1F_s2 (R := Out) w4 w3 l n)) (rfl)) (funext fun a7 => funext fun a8 => refIn1F_l1_eq fuel n l K k a7 a8)) (rfl))
noncomputable def refIn1F_s3 {R : Type}  (c0 : Bool → Option R) : Option R :=
  c0 true
theorem refIn1F_s3_eq (fuel : Nat)   : (kont (fnX Tryd.prog mode2 T_refWords fuel 17 0) (bodyOf Tryd.prog 64) [1, 0, 1, 0] 16 (endK Tryd.prog 0 0 64)) .ret ⟨[(4, vB true)], [], 0, none⟩ = refIn1F_s3  (fun a0 => some (vB a0, [])) := by kernel_rfl
noncomputable def refIn1F_s4 {R : Type}  (c0 : Bool → Option R) : Option R :=
  c0 false
theorem refIn1F_s4_eq (fuel : Nat)   : (kont (fnX Tryd.prog mode2 T_refWords fuel 17 0) (bodyOf Tryd.prog 64) [1, 0, 1, 0] 16 (endK Tryd.prog 0 0 64)) (.exit 0) ⟨[(4, vB false)], [], 0, none⟩ = refIn1F_s4  (fun a0 => some (vB a0, [])) := by kernel_rfl
noncomputable def refIn1F_s1 {R : Type} (l : List Int) (n : Int) (c0 : Int → Int → Option R) : Option R :=
  c0 ((l.length : Nat) : Int) 0
theorem refIn1F_s1_eq (fuel : Nat)  (l : List Int) (n : Int) : callN Tryd.prog mode2 T_refWords fuel 64 [vL l, vI n] [] = refIn1F_s1 l n (fun a9 a0 => lpN (sub (bodyOf Tryd.prog 64) [1, 0, 1, 0, 0]) (fnX Tryd.prog mode2 T_refWords fuel 17 0) 16 [1, 4, 7, 8, 9] fuel ⟨[(1, vI n), (4, vB false), (7, vL l), (8, vI a9), (9, vI a0)], [], 0, none⟩ (kont (fnX Tryd.prog mode2 T_refWords fuel 17 0) (bodyOf Tryd.prog 64) [1, 0, 1, 0] 16 (endK Tryd.prog 0 0 64))) := by kernel_rfl
noncomputable def refIn1F {R : Type} (fuel : Nat) (l : List Int) (n : Int) (r0 : Bool → Option R) : Option R :=
  (refIn1F_s1 l n (fun a9 a0 => (refIn1F_l1 fuel n l ((refIn1F_s3 (fun a1 => r0 a1))) ((refIn1F_s4 (fun a2 => r0 a2))) fuel a9 a0)))
theorem refIn1F_eq (fuel : Nat) (l : List Int) (n : Int) : callN Tryd.prog mode2 T_refWords fuel 64 [.li .i64 l, .s (.int .i64 n)] [] = refIn1F fuel l n (fun z0 => some (.s (.bool z0), [])) := by
  unfold refIn1F
  exact (refIn1F_s1_eq fuel  l n).trans (congr (Eq.refl (refIn1F_s1 (R := Out) l n)) (funext fun a9 => funext fun a0 => (refIn1F_l1_eq fuel n l (kont (fnX Tryd.prog mode2 T_refWords fuel 17 0) (bodyOf Tryd.prog 64) [1, 0, 1, 0] 16 (endK Tryd.prog 0 0 64)) fuel a9 a0).trans (congrFun (congrFun (congrFun (congr (congr (Eq.refl (refIn1F_l1 (R := Out) fuel n l)) ((refIn1F_s3_eq fuel  ))) ((refIn1F_s4_eq fuel  ))) fuel) a9) a0)))
theorem refIn1_loop {R : Type} (fuel : Nat) (n : Int) (xs : List Int) (hx : xs.length ≤ 1000000) (k0 k1 : Option R) : ∀ (k j : Nat), j ≤ xs.length → xs.length < j + k → refIn1F_l1 fuel n xs k0 k1 k (xs.length : Int) (j : Int) = if (xs.drop j).contains n = true then k0 else k1
  | 0, j, h1, h2 => by omega
  | k + 1, j, h1, h2 => by
    unfold refIn1F_l1 refIn1F_s2
    rw [br_if]
    by_cases hc : j < xs.length
    · rw [if_pos (by simpa using hc), bnd_of ((ix_nat xs j).trans (List.getElem?_eq_getElem hc)), br_if, List.drop_eq_getElem_cons hc, wrap_i64 (by omega) (by omega), show (j : Int) + 1 = ((j + 1 : Nat) : Int) by omega]
      dsimp only
      rw [refIn1_loop fuel n xs hx k0 k1 k (j + 1) (by omega) (by omega)]
      generalize xs[j] = x
      generalize xs.drop (j + 1) = t
      rw [List.contains_cons]
      by_cases he : x = n
      · simp [he]
      · have he' : ¬ n = x := fun h => he h.symm
        simp [he, he']
    · rw [if_neg (by simpa using hc), List.drop_eq_nil_of_le (by omega)]
      simp
theorem refIn1_fact (l : List Int) (n : Int) (hg : (decide (List.length (α := Int) l ≤ 1000000)) = true) : Fact Tryd.prog gTab 64 [.li .i64 l, .s (.int .i64 n)] [] (.s (.bool (inL l n)), []) := by
  have hl := of_decide_eq_true hg
  refine callN_fact hN hM T_refWords_ok (n := l.length + 1) (mode := mode2) ?_
  rw [refIn1F_eq]
  unfold refIn1F refIn1F_s1
  have := refIn1_loop (R := Out) (l.length + 1) n l hl
  dsimp only
  rw [show (0 : Int) = ((0 : Nat) : Int) from rfl, this _ _ _ _ (by omega) (by omega), List.drop_zero, inL_eq]
  unfold inLI refIn1F_s3 refIn1F_s4
  cases l.contains n <;> rfl
noncomputable def refIn1_ent : List V → List Blk → Option (Bool × Out)
  | [w0, .s (.int .i64 n)], [] => (asSl (.int .i64) w0).bind fun l => some ((decide (List.length (α := Int) l ≤ 1000000)), (.s (.bool (inL l n)), []))
  | _, _ => none
theorem refIn1_ok : ∀ args bs out, refIn1_ent args bs = some (true, out) → Fact Tryd.prog gTab 64 args bs out := by
  intro args bs out h
  unfold refIn1_ent at h
  split at h
  · rename_i w0 n
    obtain ⟨l, h_l, h⟩ := Option.bind_eq_some_iff.1 h
    simp only [Option.some.injEq, Prod.mk.injEq] at h
    obtain ⟨hg, rfl⟩ := h
    exact (refIn1_fact l n hg).args (fun _ _ _ => fun _ h => RVs_two (fun _ h => RV_li h_l h) (fun _ h => h) h)
  · cases h
noncomputable def T_refIn1 : Tbl := Tbl.cons 64 refIn1_ent T_refWords
theorem T_refIn1_ok : CallOk Tryd.prog gTab T_refIn1 := cons_ok T_refWords_ok refIn1_ok
/-! downpour/downpourref01.Bit -/
noncomputable def refBitF_s1 {R : Type} (i : Int) (ws : List Int) (n : Int) (c0 : Int → Option R) : Option R :=
  bnd (divI .quo .i64 i 64) fun v1 =>
  bnd (ix ws v1) fun e2 =>
  bnd (divI .rem .i64 i 64) fun v3 =>
  bnd (shfI .shr .u64 e2 v3) fun v4 =>
  bnd (divI .rem .u64 v4 2) fun v5 =>
  c0 (IntKind.i64.wrap v5)
theorem refBitF_s1_eq (fuel : Nat)  (i : Int) (ws : List Int) (n : Int) : callN Tryd.prog mode2 T_refIn1 fuel 114 [.agg [vI n, vW ws], vI i] [] = refBitF_s1 i ws n (fun a6 => some (vI a6, [])) := by kernel_rfl
noncomputable def refBitF {R : Type} (fuel : Nat) (n : Int) (ws : List Int) (i : Int) (r0 : Int → Option R) : Option R :=
  (refBitF_s1 i ws n (fun a6 => r0 a6))
theorem refBitF_eq (fuel : Nat) (n : Int) (ws : List Int) (i : Int) : callN Tryd.prog mode2 T_refIn1 fuel 114 [.agg [.s (.int .i64 n), .li .u64 ws], .s (.int .i64 i)] [] = refBitF fuel n ws i (fun z0 => some (.s (.int .i64 z0), [])) := by
  unfold refBitF
  exact (refBitF_s1_eq fuel  i ws n)
theorem refBit_fact (n : Int) (ws : List Int) (i : Int) (hg : (okW ws && decide (0 ≤ i) && decide (i < 64 * (ws.length : Int)) && decide (ws.length ≤ 1000000)) = true) : Fact Tryd.prog gTab 114 [.agg [.s (.int .i64 n), .li .u64 ws], .s (.int .i64 i)] [] (.s (.int .i64 (bitS ws i)), []) := by
  simp only [Bool.and_eq_true, decide_eq_true_eq] at hg
  obtain ⟨⟨⟨h1, h2⟩, h3⟩, h4⟩ := hg
  have hok := okW_iff.1 h1
  refine callN_fact hN hM T_refIn1_ok (n := 0) (mode := mode2) ?_
  rw [refBitF_eq]
  unfold refBitF refBitF_s1
  obtain ⟨j, rfl⟩ : ∃ j : Nat, i = (j : Int) := ⟨i.toNat, by omega⟩
  have hj : j / 64 < ws.length := by omega
  have e1 : divI .quo .i64 (j : Int) 64 = some ((j / 64 : Nat) : Int) := by rw [quo_i64 (by omega) (by omega) (by decide)]; norm_cast
  have e2 : divI .rem .i64 (j : Int) 64 = some ((j % 64 : Nat) : Int) := by rw [rem_pos (by omega) (by decide)]; norm_cast
  have e4 : ix ws ((j / 64 : Nat) : Int) = some (ws.getD (j / 64) 0) := by rw [ix_nat, List.getD_eq_getElem?_getD, List.getElem?_eq_getElem hj]; rfl
  have hg := hok.getD (j / 64)
  have hb64 : j % 64 < 64 := Nat.mod_lt _ (by decide)
  have e5 : divI .rem .u64 (((ws.getD (j / 64) 0).toNat / 2 ^ (j % 64) : Nat) : Int) 2 = some (((ws.getD (j / 64) 0).toNat / 2 ^ (j % 64) % 2 : Nat) : Int) := by rw [rem_pos (Int.natCast_nonneg _) (by decide)]; norm_cast
  simp only [e1, bnd_some, e4, e2, shr_nat hg.1 hb64, e5]
  have hw : IntKind.i64.wrap (((ws.getD (j / 64) 0).toNat / 2 ^ (j % 64) % 2 : Nat) : Int) = bitS ws (j : Int) := by
    rw [wrap_i64 (by omega) (by omega), bitS_eq]
    unfold bitI
    rw [Int.toNat_natCast, testBit_val hok, Nat.testBit_eq_decide_div_mod_eq]
    generalize (ws.getD (j / 64) 0).toNat / 2 ^ (j % 64) = q
    by_cases h : q % 2 = 1
    · simp [h]
    · simp [h]; omega
  rw [hw]
noncomputable def refBit_ent : List V → List Blk → Option (Bool × Out)
  | [.agg [.s (.int .i64 n), w0], .s (.int .i64 i)], [] => (asSl (.int .u64) w0).bind fun ws => some ((okW ws && decide (0 ≤ i) && decide (i < 64 * (ws.length : Int)) && decide (ws.length ≤ 1000000)), (.s (.int .i64 (bitS ws i)), []))
  | _, _ => none
theorem refBit_ok : ∀ args bs out, refBit_ent args bs = some (true, out) → Fact Tryd.prog gTab 114 args bs out := by
  intro args bs out h
  unfold refBit_ent at h
  split at h
  · rename_i n w0 i
    obtain ⟨ws, h_ws, h⟩ := Option.bind_eq_some_iff.1 h
    simp only [Option.some.injEq, Prod.mk.injEq] at h
    obtain ⟨hg, rfl⟩ := h
    exact (refBit_fact n ws i hg).args (fun _ _ _ => fun _ h => RVs_two (fun _ h => RV_agg_two (fun _ h => RVs_two (fun _ h => h) (fun _ h => RVs_two (fun _ h => RV_li h_ws h) (fun _ h => h) h) h) h) (fun _ h => h) h)
  · cases h
noncomputable def T_refBit : Tbl := Tbl.cons 114 refBit_ent T_refIn1
theorem T_refBit_ok : CallOk Tryd.prog gTab T_refBit := cons_ok T_refIn1_ok refBit_ok
/-! downpour/downpourref01.Right -/
noncomputable abbrev qa0 (fuel : Nat) : Ctx Out := (fnX Tryd.prog mode2 T_refBit fuel 35 0)
noncomputable def refRightF_s2 {R : Type} (w4 : Int) (ws : List Int) (n : Int) (c0 : Option R) (c1 : Int → Option R) (c2 : Option R) : Option R :=
  br (decide (w4 < (IntKind.i64.wrap (64 * ((ws.length : Nat) : Int)))))
    (grd (okW ws && decide (0 ≤ w4) && decide (w4 < 64 * (ws.length : Int)) && decide (ws.length ≤ 1000000)) <|
    br (((bitS ws w4) : Int) == 1)
      (c0)
      (c1 (IntKind.i64.wrap (w4 + 1))))
    (c2)
theorem refRightF_s2_eq (fuel k : Nat) (K : Ex → St → Option Out) (w4 : Int) (ws : List Int) (n : Int) : lpN (sub (bodyOf Tryd.prog 59) [1, 1, 0, 1, 0, 0]) (qa0 fuel) 4 [1, 2, 3] (k + 1) ⟨[(1, .ptr 0 2 0 0), (2, vB false), (3, vI w4)], [(0, some ⟨44, .agg [vI n, vW ws], true⟩)], 1, none⟩ K = refRightF_s2 w4 ws n (K .ret ⟨[(2, vB false)], [], 0, none⟩) (fun a5 => lpN (sub (bodyOf Tryd.prog 59) [1, 1, 0, 1, 0, 0]) (qa0 fuel) 4 [1, 2, 3] k ⟨[(1, .ptr 0 2 0 0), (2, vB false), (3, vI a5)], [(0, some ⟨44, .agg [vI n, vW ws], true⟩)], 1, none⟩ K) (K (.exit 0) ⟨[(2, vB false)], [], 0, none⟩) := by kernel_rfl
noncomputable def refRightF_l1 {R : Type} (fuel : Nat) (n : Int) (ws : List Int) (k0 k1 : Option R) : Nat → Int → Option R
  | 0, _ => none
  | k + 1, w4 =>
    (refRightF_s2 w4 ws n (k0) (fun a5 => ( refRightF_l1 fuel n ws k0 k1 k a5 )) (k1))
theorem refRightF_l1_eq (fuel : Nat) (n : Int) (ws : List Int) (K : Ex → St → Option Out) : ∀ (k : Nat) (w4 : Int), lpN (sub (bodyOf Tryd.prog 59) [1, 1, 0, 1, 0, 0]) (qa0 fuel) 4 [1, 2, 3] k ⟨[(1, .ptr 0 2 0 0), (2, vB false), (3, vI w4)], [(0, some ⟨44, .agg [vI n, vW ws], true⟩)], 1, none⟩ K = refRightF_l1 fuel n ws (K .ret ⟨[(2, vB false)], [], 0, none⟩) (K (.exit 0) ⟨[(2, vB false)], [], 0, none⟩) k w4
  | 0, _ => rfl
  | k + 1, w4 => by
    unfold refRightF_l1
    exact (refRightF_s2_eq fuel k K w4 ws n).trans (congr (congr (congr (Eq.refl (refRightF_s2 (R := Out) w4 ws n)) (rfl)) (funext fun a5 => refRightF_l1_eq fuel n ws K k a5)) (rfl))
noncomputable def refRightF_s3 {R : Type}  (c0 : Bool → Option R) : Option R :=
  c0 false
theorem refRightF_s3_eq (fuel : Nat)   : (kont (qa0 fuel) (bodyOf Tryd.prog 59) [1, 1, 0, 1, 0] 4 (endK Tryd.prog 0 0 59)) .ret ⟨[(2, vB false)], [], 0, none⟩ = refRightF_s3  (fun a7 => some (vB a7, [])) := by kernel_rfl
noncomputable def refRightF_s4 {R : Type}  (c0 : Bool → Option R) : Option R :=
  c0 true
theorem refRightF_s4_eq (fuel : Nat)   : (kont (qa0 fuel) (bodyOf Tryd.prog 59) [1, 1, 0, 1, 0] 4 (endK Tryd.prog 0 0 59)) (.exit 0) ⟨[(2, vB false)], [], 0, none⟩ = refRightF_s4  (fun a8 => some (vB a8, [])) := by kernel_rfl
noncomputable def refRightF_s1 {R : Type} (n : Int) (ws : List Int) (c0 : Bool → Option R) (c1 : Int → Option R) : Option R :=
  br (decide (n < 0))
    (c0 false)
    (br (decide (n > 512))
      (c0 false)
      (grd (decide (0 ≤ n) && decide (n ≤ 1000000)) <|
      br ((((ws.length : Nat) : Int) : Int) != (((nw n : Nat) : Int)))
        (c0 false)
        (c1 n)))
theorem refRightF_s1_eq (fuel : Nat)  (n : Int) (ws : List Int) : callN Tryd.prog mode2 T_refBit fuel 59 [.agg [vI n, vW ws]] [] = refRightF_s1 n ws (fun a1 => some (vB a1, [])) (fun a6 => lpN (sub (bodyOf Tryd.prog 59) [1, 1, 0, 1, 0, 0]) (qa0 fuel) 4 [1, 2, 3] fuel ⟨[(1, .ptr 0 2 0 0), (2, vB false), (3, vI a6)], [(0, some ⟨44, .agg [vI n, vW ws], true⟩)], 1, none⟩ (kont (qa0 fuel) (bodyOf Tryd.prog 59) [1, 1, 0, 1, 0] 4 (endK Tryd.prog 0 0 59))) := by kernel_rfl
noncomputable def refRightF {R : Type} (fuel : Nat) (n : Int) (ws : List Int) (r0 : Bool → Option R) : Option R :=
  (refRightF_s1 n ws (fun a1 => r0 a1) (fun a6 => (refRightF_l1 fuel n ws ((refRightF_s3 (fun a7 => r0 a7))) ((refRightF_s4 (fun a8 => r0 a8))) fuel a6)))
theorem refRightF_eq (fuel : Nat) (n : Int) (ws : List Int) : callN Tryd.prog mode2 T_refBit fuel 59 [.agg [.s (.int .i64 n), .li .u64 ws]] [] = refRightF fuel n ws (fun z0 => some (.s (.bool z0), [])) := by
  unfold refRightF
  exact (refRightF_s1_eq fuel  n ws).trans (congr (congr (Eq.refl (refRightF_s1 (R := Out) n ws)) (rfl)) (funext fun a6 => (refRightF_l1_eq fuel n ws (kont (qa0 fuel) (bodyOf Tryd.prog 59) [1, 1, 0, 1, 0] 4 (endK Tryd.prog 0 0 59)) fuel a6).trans (congrFun (congrFun (congr (congr (Eq.refl (refRightF_l1 (R := Out) fuel n ws)) ((refRightF_s3_eq fuel  ))) ((refRightF_s4_eq fuel  ))) fuel) a6)))
open Classical in
theorem refRight_loop {R : Type} (fuel : Nat) (n : Int) (ws : List Int) (hok : okW ws = true) (hx : ws.length ≤ 8) (k0 k1 : Option R) : ∀ (k j : Nat), j ≤ 64 * ws.length → 64 * ws.length < j + k → refRightF_l1 fuel n ws k0 k1 k (j : Int) = if ∃ i, j ≤ i ∧ i < 64 * ws.length ∧ (val ws).testBit i = true then k0 else k1
  | 0, j, h1, h2 => by omega
  | k + 1, j, h1, h2 => by
    unfold refRightF_l1 refRightF_s2
    rw [wrap_i64 (x := 64 * ((ws.length : Nat) : Int)) (by omega) (by omega), br_if]
    by_cases hc : j < 64 * ws.length
    · rw [if_pos (by simp; omega), grd_of (by simp [hok]; omega), br_if, wrap_i64 (by omega) (by omega), show (j : Int) + 1 = ((j + 1 : Nat) : Int) by omega, bitS_eq]
      unfold bitI
      rw [Int.toNat_natCast]
      dsimp only
      by_cases hb : (val ws).testBit j = true
      · rw [if_pos (by simp [hb]), if_pos ⟨j, by omega, hc, hb⟩]
      · rw [if_neg (by simp [hb]), refRight_loop fuel n ws hok hx k0 k1 k (j + 1) (by omega) (by omega)]
        have : (∃ i, j + 1 ≤ i ∧ i < 64 * ws.length ∧ (val ws).testBit i = true) ↔ (∃ i, j ≤ i ∧ i < 64 * ws.length ∧ (val ws).testBit i = true) := by
          constructor
          · rintro ⟨i, a, b, c⟩; exact ⟨i, by omega, b, c⟩
          · rintro ⟨i, a, b, c⟩
            have : i ≠ j := by rintro rfl; exact hb c
            exact ⟨i, by omega, b, c⟩
        simp only [this]
    · rw [if_neg (by simp; omega), if_neg (by rintro ⟨i, a, b, _⟩; omega)]
theorem no_bits {v n m : Nat} (hv : v < 2 ^ m) : (¬ ∃ i, n ≤ i ∧ i < m ∧ v.testBit i = true) ↔ v < 2 ^ n := by
  constructor
  · intro h
    refine Nat.lt_pow_two_of_testBit _ fun i hi => ?_
    by_cases him : i < m
    · rw [Bool.eq_false_iff]; exact fun e => h ⟨i, hi, him, e⟩
    · exact Nat.testBit_lt_two_pow (Nat.lt_of_lt_of_le hv (Nat.pow_le_pow_right (by omega) (by omega)))
  · rintro h ⟨i, a, b, c⟩
    rw [Nat.testBit_lt_two_pow (Nat.lt_of_lt_of_le h (Nat.pow_le_pow_right (by omega) a))] at c
    cases c
theorem refRight_fact (n : Int) (ws : List Int) (hg : (okW ws) = true) : Fact Tryd.prog gTab 59 [.agg [.s (.int .i64 n), .li .u64 ws]] [] (.s (.bool (rtS n ws)), []) := by
  have hok := okW_iff.1 hg
  refine callN_fact hN hM T_refBit_ok (n := 600) (mode := mode2) ?_
  rw [refRightF_eq]
  unfold refRightF refRightF_s1
  have hno : ∀ h : ¬ rtS n ws = true, rtS n ws = false := fun h => by rw [Bool.eq_false_iff]; exact h
  rw [br_if, br_if]
  by_cases h0 : n < 0
  · rw [if_pos (by simpa using h0), hno fun h => by have := (rtS_iff.1 h).1.1; omega]
  · rw [if_neg (by simpa using h0)]
    by_cases h1 : n > 512
    · rw [if_pos (by simpa using h1), hno fun h => by have := (rtS_iff.1 h).1.2; omega]
    · rw [if_neg (by simpa using h1), grd_of (by simp; omega), br_if]
      by_cases hl : ws.length = nw n
      · rw [if_neg (by simp [hl])]
        dsimp only
        obtain ⟨j, rfl⟩ : ∃ j : Nat, n = (j : Int) := ⟨n.toNat, by omega⟩
        have hw := nw_cast (n := (j : Int)) (by omega)
        have hloop := refRight_loop (R := Out) 600 (j : Int) ws hg (by omega)
        rw [hloop _ _ 600 j (by omega) (by omega)]
        have hb := no_bits (n := j) (val_lt hok)
        by_cases hc : ∃ i, j ≤ i ∧ i < 64 * ws.length ∧ (val ws).testBit i = true
        · rw [if_pos hc, hno fun h => hb.2 (by have := (rtS_iff.1 h).2.2; rwa [Int.toNat_natCast] at this) hc]
          rfl
        · rw [if_neg hc, rtS_iff.2 ⟨⟨by omega, by omega⟩, hl, by rw [Int.toNat_natCast]; exact hb.1 hc⟩]
          rfl
      · rw [if_pos (by simp; omega), hno fun h => hl (rtS_iff.1 h).2.1]
noncomputable def refRight_ent : List V → List Blk → Option (Bool × Out)
  | [.agg [.s (.int .i64 n), w0]], [] => (asSl (.int .u64) w0).bind fun ws => some ((okW ws), (.s (.bool (rtS n ws)), []))
  | _, _ => none
theorem refRight_ok : ∀ args bs out, refRight_ent args bs = some (true, out) → Fact Tryd.prog gTab 59 args bs out := by
  intro args bs out h
  unfold refRight_ent at h
  split at h
  · rename_i n w0
    obtain ⟨ws, h_ws, h⟩ := Option.bind_eq_some_iff.1 h
    simp only [Option.some.injEq, Prod.mk.injEq] at h
    obtain ⟨hg, rfl⟩ := h
    exact (refRight_fact n ws hg).args (fun _ _ _ => fun _ h => RVs_two (fun _ h => RV_agg_two (fun _ h => RVs_two (fun _ h => h) (fun _ h => RVs_two (fun _ h => RV_li h_ws h) (fun _ h => h) h) h) h) (fun _ h => h) h)
  · cases h
noncomputable def T_refRight : Tbl := Tbl.cons 59 refRight_ent T_refBit
theorem T_refRight_ok : CallOk Tryd.prog gTab T_refRight := cons_ok T_refBit_ok refRight_ok
/-! math/bits.TrailingZeros64 -/
def lays29_ren : Go.Shelf.Ren := ⟨fun | 29 => 127 | n => n, fun | 22 => 79 | 3 => 3 | 4 => 4 | 25 => 191 | 54 => 207 | 0 => 0 | 5 => 5 | n => n, fun | 1 => 0 | n => n⟩
theorem lays29 : Go.Proofs.Lays7.n29 Tryd.prog lays29_ren where
  mixed := by kernel_rfl
  f29 := Tryd.func127.trans (congrArg some (by kernel_rfl))
  t0 := Tryd.underlying0
  a0 := Tryd.isAgg0
  z0 := Tryd.sizeOf0
  v0 := Tryd.zeroValue0
  i0 := by kernel_rfl
  t3 := Tryd.underlying3
  a3 := Tryd.isAgg3
  z3 := Tryd.sizeOf3
  v3 := Tryd.zeroValue3
  i3 := by kernel_rfl
  t4 := Tryd.underlying4
  a4 := Tryd.isAgg4
  z4 := Tryd.sizeOf4
  v4 := Tryd.zeroValue4
  i4 := by kernel_rfl
  t5 := Tryd.underlying5
  a5 := Tryd.isAgg5
  z5 := Tryd.sizeOf5
  v5 := Tryd.zeroValue5
  i5 := by kernel_rfl
  t22 := Tryd.underlying79
  a22 := Tryd.isAgg79
  z22 := Tryd.sizeOf79
  v22 := Tryd.zeroValue79
  i22 := by kernel_rfl
  t25 := Tryd.underlying191
  a25 := Tryd.isAgg191
  z25 := Tryd.sizeOf191
  v25 := Tryd.zeroValue191
  i25 := by kernel_rfl
  t54 := Tryd.underlying207
  a54 := Tryd.isAgg207
  z54 := Tryd.sizeOf207
  g1 := by kernel_rfl
noncomputable def tzI (x : Int) : Int := (Lib.ctz 64 x.toNat : Nat)
noncomputable def tzS : Int → Int := Classical.choose (⟨tzI, rfl⟩ : ∃ f, f = tzI)
theorem tzS_eq : tzS = tzI := Classical.choose_spec (⟨tzI, rfl⟩ : ∃ f, f = tzI)
theorem tz_fact (x : Int) (hg : (decide (1 ≤ x) && decide (x < 18446744073709551616)) = true) : Fact Tryd.prog gTab 127 [.s (.int .u64 x)] [] (.s (.int .i64 (tzS x)), []) := by
  simp only [Bool.and_eq_true, decide_eq_true_eq] at hg
  refine fact_pure (Go.PM.enters_of (by kernel_rfl)) fun w ρ I xs hG hr => ?_
  simp only [RVs, RV] at hr
  obtain ⟨y, r, rfl, rfl, rfl⟩ := hr
  have hT : TabAt 0 Lib.deBruijn64tab w := fun j hj => (hG 0 _ rfl).2 j _ (by
    rw [List.getElem?_map, List.getD_eq_getElem?_getD, List.getElem?_eq_getElem hj]; rfl)
  obtain ⟨n, rfl⟩ : ∃ n : Nat, x = (n : Int) := ⟨x.toNat, by omega⟩
  have h := Any7.bits_TrailingZeros64 lays29 n (by omega) w (fun _ => hT)
  refine h.mono fun e w' ⟨he, hw⟩ => ⟨_, he, hw, ?_⟩
  simp only [RV]
  rw [tzS_eq]
  rfl
noncomputable def tz_ent : List V → List Blk → Option (Bool × Out)
  | [.s (.int .u64 x)], [] => some ((decide (1 ≤ x) && decide (x < 18446744073709551616)), (.s (.int .i64 (tzS x)), []))
  | _, _ => none
theorem tz_ok : ∀ args bs out, tz_ent args bs = some (true, out) → Fact Tryd.prog gTab 127 args bs out := by
  intro args bs out h
  unfold tz_ent at h
  split at h
  · rename_i x
    simp only [Option.some.injEq, Prod.mk.injEq] at h
    obtain ⟨hg, rfl⟩ := h
    exact tz_fact x hg
  · cases h
noncomputable def T_tz : Tbl := Tbl.cons 127 tz_ent T_refRight
theorem T_tz_ok : CallOk Tryd.prog gTab T_tz := cons_ok T_refRight_ok tz_ok
def mode3 : FuncId → Nat := fun f => bif Nat.beq f 77 then 2 else bif Nat.beq f 125 then 2 else bif Nat.beq f 78 then 2 else 0
/-! downpour/bitrow.places -/
noncomputable def placesF_s1 {R : Type} (n : Int) (ws : List Int) (c0 : Nat → Int → List Int → Option R) : Option R :=
  c0 0 n ws
theorem placesF_s1_eq (fuel : Nat)  (n : Int) (ws : List Int) : callN Tryd.prog mode3 T_tz fuel 78 [.agg [vI n, vW ws]] [] = placesF_s1 n ws (fun a1 a2 a3 => some (.fn (.func 126) [] [.ptr 0 2 a1 0], [some ⟨44, .agg [vI a2, vW a3], true⟩])) := by kernel_rfl
noncomputable def placesF {R : Type} (fuel : Nat) (n : Int) (ws : List Int) (r0 : Nat → Int → List Int → Option R) : Option R :=
  (placesF_s1 n ws (fun a1 a2 a3 => r0 a1 a2 a3))
theorem placesF_eq (fuel : Nat) (n : Int) (ws : List Int) : callN Tryd.prog mode3 T_tz fuel 78 [.agg [.s (.int .i64 n), .li .u64 ws]] [] = placesF fuel n ws (fun z0 z1 z2 => some (.fn (.func 126) [] [.ptr 0 2 z0 0], [some ⟨44, .agg [.s (.int .i64 z1), .li .u64 z2], true⟩])) := by
  unfold placesF
  exact (placesF_s1_eq fuel  n ws)
theorem places_fact (n : Int) (ws : List Int) : Fact Tryd.prog gTab 78 [.agg [.s (.int .i64 n), .li .u64 ws]] [] (.fn (.func 126) [] [.ptr 0 2 0 0], [some ⟨44, .agg [.s (.int .i64 n), .li .u64 ws], true⟩]) := by
  refine callN_fact hN hM T_tz_ok (n := 0) (mode := mode3) ?_
  rw [placesF_eq]
  rfl
noncomputable def places_ent : List V → List Blk → Option (Bool × Out)
  | [.agg [.s (.int .i64 n), w0]], [] => (asSl (.int .u64) w0).bind fun ws => some (true, (.fn (.func 126) [] [.ptr 0 2 0 0], [some ⟨44, .agg [.s (.int .i64 n), .li .u64 ws], true⟩]))
  | _, _ => none
theorem places_ok : ∀ args bs out, places_ent args bs = some (true, out) → Fact Tryd.prog gTab 78 args bs out := by
  intro args bs out h
  unfold places_ent at h
  split at h
  · rename_i n w0
    obtain ⟨ws, h_ws, h⟩ := Option.bind_eq_some_iff.1 h
    simp only [Option.some.injEq, Prod.mk.injEq] at h
    obtain ⟨_, rfl⟩ := h
    exact (places_fact n ws).args (fun _ _ _ => fun _ h => RVs_two (fun _ h => RV_agg_two (fun _ h => RVs_two (fun _ h => h) (fun _ h => RVs_two (fun _ h => RV_li h_ws h) (fun _ h => h) h) h) h) (fun _ h => h) h)
  · cases h
noncomputable def T_places : Tbl := Tbl.cons 78 places_ent T_tz
theorem T_places_ok : CallOk Tryd.prog gTab T_places := cons_ok T_tz_ok places_ok
/-! slices.AppendSeq[[]int,int] -/
noncomputable abbrev qa1 : List (Nat × V) := [(2, .ptr 1 1 0 0), (4, vN), (6, .fn (.func 126) [] [.ptr 0 2 0 0])]
noncomputable abbrev qa2 : Code := (sub (bodyOf Tryd.prog 125) [1, 0, 1, 0, 0])
noncomputable abbrev qa3 : Code := (sub (bodyOf Tryd.prog 125) [1, 0, 1, 0, 1])
noncomputable abbrev qa4 (n : Int) (ws : List Int) : Nat × Option Blk := (0, some ⟨44, .agg [vI n, vW ws], true⟩)
noncomputable abbrev qa5 (fuel : Nat) : Ctx Out := (fnX Tryd.prog mode3 T_places fuel 13 1)
noncomputable abbrev qa6 : Code := (sub (bodyOf Tryd.prog 126) [1, 0, 0])
noncomputable abbrev qa7 : Nat × Option Blk := (1, some ⟨26, .agg [vN], true⟩)
noncomputable abbrev qa8 : List Nat := [0, 3, 4, 6, 7, 8, 9, 10, 11, 12]
noncomputable abbrev qa9 : Code := (sub qa6 [1, 1, 0, 0, 1, 0, 0])
noncomputable def plcAppF_s4 {R : Type} (w0 : Int) (w1 : List Int) (w2 : Nat) (w3 : Int) (ws : List Int) (w4 : Int) (w5 : Bool) (e0 n : Int) (c0 : Int → Nat → List Int → Option R) (c1 : Int → Bool → Nat → List Int → Option R) : Option R :=
  br (w0 != 0)
    (grd (decide (1 ≤ w0) && decide (w0 < 18446744073709551616)) <|
    grd (Nat.beq w1.length w2) <|
    grd (okN (w2 + 1) 8) <|
    c0 (andI .u64 w0 (IntKind.u64.wrap (w0 - 1))) ((w1 ++ [(IntKind.i64.wrap ((IntKind.i64.wrap (w3 * 64)) + (tzS w0)))]).length) (w1 ++ [(IntKind.i64.wrap ((IntKind.i64.wrap (w3 * 64)) + (tzS w0)))]))
    (c1 w0 (w0 != 0) w2 w1)
theorem plcAppF_s4_eq (fuel k : Nat) (K : Ex → St → Option Out) (w0 : Int) (w1 : List Int) (w2 : Nat) (w3 : Int) (ws : List Int) (w4 : Int) (w5 : Bool) (e0 n : Int) : lpN qa9 (itX Tryd.prog mode3 T_places fuel 3 28 3 2 (roundK (evC qa2) (evC qa3) (qa5 fuel) #[7] 3876 qa1)) 268435417 qa8 (k + 1) ⟨[(0, .yl 2), (3, vI w3), (4, vU w0), (6, vW ws), (7, vI w4), (8, vI w3), (9, vB w5), (10, vI w3), (11, .lp [vU e0] 0), (12, vU e0)], [(qa4 n ws), (1, some ⟨26, .agg [.sl 3 1 0 w2], true⟩), (2, none), (3, bL 3 w1)], 4, none⟩ K = plcAppF_s4 w0 w1 w2 w3 ws w4 w5 e0 n (fun a0 a1 a2 => lpN qa9 (itX Tryd.prog mode3 T_places fuel 3 28 3 2 (roundK (evC qa2) (evC qa3) (qa5 fuel) #[7] 3876 qa1)) 268435417 qa8 k ⟨[(0, .yl 2), (3, vI w3), (4, vU a0), (6, vW ws), (7, vI w4), (8, vI w3), (9, vB w5), (10, vI w3), (11, .lp [vU e0] 0), (12, vU e0)], [(qa4 n ws), (1, some ⟨26, .agg [.sl 3 1 0 a1], true⟩), (2, none), (3, bL 3 a2)], 4, none⟩ K) (fun a3 a4 a5 a6 => K (.exit 2) ⟨[(0, .yl 2), (3, vI w3), (4, vU a3), (6, vW ws), (7, vI w4), (8, vI w3), (9, vB w5), (10, vI w3), (11, .lp [vU e0] 0), (12, vU e0), (13, vU a3), (14, vB a4)], [(qa4 n ws), (1, some ⟨26, .agg [.sl 3 1 0 a5], true⟩), (2, none), (3, bL 3 a6)], 4, none⟩) := by kernel_rfl
noncomputable def plcAppF_l3 {R : Type} (fuel : Nat) (w0 : Int) (ws : List Int) (w1 : Int) (w2 : Bool) (e0 n : Int) (k0 : Int → Bool → Nat → List Int → Option R) : Nat → Int → Nat → List Int → Option R
  | 0, _, _, _ => none
  | k + 1, w3, w4, w5 =>
    (plcAppF_s4 w3 w5 w4 w0 ws w1 w2 e0 n (fun a0 a1 a2 => ( plcAppF_l3 fuel w0 ws w1 w2 e0 n k0 k a0 a1 a2 )) (fun a3 a4 a5 a6 => k0 a3 a4 a5 a6))
theorem plcAppF_l3_eq (fuel : Nat) (w0 : Int) (ws : List Int) (w1 : Int) (w2 : Bool) (e0 n : Int) (K : Ex → St → Option Out) : ∀ (k : Nat) (w3 : Int) (w4 : Nat) (w5 : List Int), lpN qa9 (itX Tryd.prog mode3 T_places fuel 3 28 3 2 (roundK (evC qa2) (evC qa3) (qa5 fuel) #[7] 3876 qa1)) 268435417 qa8 k ⟨[(0, .yl 2), (3, vI w0), (4, vU w3), (6, vW ws), (7, vI w1), (8, vI w0), (9, vB w2), (10, vI w0), (11, .lp [vU e0] 0), (12, vU e0)], [(qa4 n ws), (1, some ⟨26, .agg [.sl 3 1 0 w4], true⟩), (2, none), (3, bL 3 w5)], 4, none⟩ K = plcAppF_l3 fuel w0 ws w1 w2 e0 n (fun y0 y1 y2 y3 => K (.exit 2) ⟨[(0, .yl 2), (3, vI w0), (4, vU y0), (6, vW ws), (7, vI w1), (8, vI w0), (9, vB w2), (10, vI w0), (11, .lp [vU e0] 0), (12, vU e0), (13, vU y0), (14, vB y1)], [(qa4 n ws), (1, some ⟨26, .agg [.sl 3 1 0 y2], true⟩), (2, none), (3, bL 3 y3)], 4, none⟩) k w3 w4 w5
  | 0, _, _, _ => rfl
  | k + 1, w3, w4, w5 => by
    unfold plcAppF_l3
    exact (plcAppF_s4_eq fuel k K w3 w5 w4 w0 ws w1 w2 e0 n).trans (congr (congr (Eq.refl (plcAppF_s4 (R := Out) w3 w5 w4 w0 ws w1 w2 e0 n)) (funext fun a0 => funext fun a1 => funext fun a2 => plcAppF_l3_eq fuel w0 ws w1 w2 e0 n K k a0 a1 a2)) (rfl))
noncomputable def plcAppF_s3 {R : Type} (e0 w0 : Int) (w1 : Bool) (ws : List Int) (w2 n : Int) (c0 : Int → Nat → List Int → Option R) (c1 : Bool → Bool → Option R) : Option R :=
  br (e0 != 0)
    (grd (decide (1 ≤ e0) && decide (e0 < 18446744073709551616)) <|
    c0 (andI .u64 e0 (IntKind.u64.wrap (e0 - 1))) 1 ([(IntKind.i64.wrap ((IntKind.i64.wrap (w0 * 64)) + (tzS e0)))]))
    (c1 w1 (e0 != 0))
theorem plcAppF_s3_eq (fuel k : Nat) (K : Ex → St → Option Out) (e0 w0 : Int) (w1 : Bool) (ws : List Int) (w2 n : Int) : lpN qa9 (itX Tryd.prog mode3 T_places fuel 3 28 3 2 (roundK (evC qa2) (evC qa3) (qa5 fuel) #[7] 3876 qa1)) 268435417 qa8 (k + 1) ⟨[(0, .yl 2), (3, vI w0), (4, vU e0), (6, vW ws), (7, vI w2), (8, vI w0), (9, vB w1), (10, vI w0), (11, .lp [vU e0] 0), (12, vU e0)], [(qa4 n ws), qa7, (2, none)], 3, none⟩ K = plcAppF_s3 e0 w0 w1 ws w2 n (fun a0 a1 a2 => lpN qa9 (itX Tryd.prog mode3 T_places fuel 3 28 3 2 (roundK (evC qa2) (evC qa3) (qa5 fuel) #[7] 3876 qa1)) 268435417 qa8 k ⟨[(0, .yl 2), (3, vI w0), (4, vU a0), (6, vW ws), (7, vI w2), (8, vI w0), (9, vB w1), (10, vI w0), (11, .lp [vU e0] 0), (12, vU e0)], [(qa4 n ws), (1, some ⟨26, .agg [.sl 3 1 0 a1], true⟩), (2, none), (3, bL 3 a2)], 4, none⟩ K) (fun a3 a4 => K (.exit 2) ⟨[(0, .yl 2), (3, vI w0), (4, vU e0), (6, vW ws), (7, vI w2), (8, vI w0), (9, vB a3), (10, vI w0), (11, .lp [vU e0] 0), (12, vU e0), (13, vU e0), (14, vB a4)], [(qa4 n ws), qa7, (2, none)], 3, none⟩) := by kernel_rfl
noncomputable def plcAppF_l2 {R : Type} (fuel : Nat) (w0 e0 : Int) (ws : List Int) (w1 n : Int) (k0 : Int → Bool → Bool → Nat → List Int → Option R) (k1 : Bool → Bool → Option R) : Nat → Bool → Option R
  | 0, _ => none
  | k + 1, w2 =>
    (plcAppF_s3 e0 w0 w2 ws w1 n (fun a0 a1 a2 => (plcAppF_l3 fuel w0 ws w1 w2 e0 n (fun x0 x1 x2 x3 => k0 x0 w2 x1 x2 x3) k a0 a1 a2)) (fun a3 a4 => k1 a3 a4))
theorem plcAppF_l2_eq (fuel : Nat) (w0 e0 : Int) (ws : List Int) (w1 n : Int) (K : Ex → St → Option Out) : ∀ (k : Nat) (w2 : Bool), lpN qa9 (itX Tryd.prog mode3 T_places fuel 3 28 3 2 (roundK (evC qa2) (evC qa3) (qa5 fuel) #[7] 3876 qa1)) 268435417 qa8 k ⟨[(0, .yl 2), (3, vI w0), (4, vU e0), (6, vW ws), (7, vI w1), (8, vI w0), (9, vB w2), (10, vI w0), (11, .lp [vU e0] 0), (12, vU e0)], [(qa4 n ws), qa7, (2, none)], 3, none⟩ K = plcAppF_l2 fuel w0 e0 ws w1 n (fun y0 y1 y2 y3 y4 => K (.exit 2) ⟨[(0, .yl 2), (3, vI w0), (4, vU y0), (6, vW ws), (7, vI w1), (8, vI w0), (9, vB y1), (10, vI w0), (11, .lp [vU e0] 0), (12, vU e0), (13, vU y0), (14, vB y2)], [(qa4 n ws), (1, some ⟨26, .agg [.sl 3 1 0 y3], true⟩), (2, none), (3, bL 3 y4)], 4, none⟩) (fun y5 y6 => K (.exit 2) ⟨[(0, .yl 2), (3, vI w0), (4, vU e0), (6, vW ws), (7, vI w1), (8, vI w0), (9, vB y5), (10, vI w0), (11, .lp [vU e0] 0), (12, vU e0), (13, vU e0), (14, vB y6)], [(qa4 n ws), qa7, (2, none)], 3, none⟩) k w2
  | 0, _ => rfl
  | k + 1, w2 => by
    unfold plcAppF_l2
    exact (plcAppF_s3_eq fuel k K e0 w0 w2 ws w1 n).trans (congr (congr (Eq.refl (plcAppF_s3 (R := Out) e0 w0 w2 ws w1 n)) (funext fun a0 => funext fun a1 => funext fun a2 => plcAppF_l3_eq fuel w0 ws w1 w2 e0 n K k a0 a1 a2)) (rfl))
noncomputable def plcAppF_s7 {R : Type} (w0 : Int) (w1 : List Int) (w2 : Nat) (w3 : Bool) (w4 : Int) (ws : List Int) (w5 e0 n : Int) (c0 : Int → Bool → Nat → List Int → Option R) (c1 : Int → Bool → Bool → Nat → List Int → Option R) : Option R :=
  br (w0 != 0)
    (grd (decide (1 ≤ w0) && decide (w0 < 18446744073709551616)) <|
    grd (Nat.beq w1.length w2) <|
    grd (okN (w2 + 1) 8) <|
    c0 (andI .u64 w0 (IntKind.u64.wrap (w0 - 1))) w3 ((w1 ++ [(IntKind.i64.wrap ((IntKind.i64.wrap (w4 * 64)) + (tzS w0)))]).length) (w1 ++ [(IntKind.i64.wrap ((IntKind.i64.wrap (w4 * 64)) + (tzS w0)))]))
    (c1 w0 w3 (w0 != 0) w2 w1)
theorem plcAppF_s7_eq (fuel k : Nat) (K : Ex → St → Option Out) (w0 : Int) (w1 : List Int) (w2 : Nat) (w3 : Bool) (w4 : Int) (ws : List Int) (w5 e0 n : Int) : lpN qa9 (itX Tryd.prog mode3 T_places fuel 3 28 3 2 (roundK (evC qa2) (evC qa3) (qa5 fuel) #[7] 3876 qa1)) 268435417 qa8 (k + 1) ⟨[(0, .yl 2), (3, vI w4), (4, vU w0), (6, vW ws), (7, vI w5), (8, vI w4), (9, vB w3), (10, vI w4), (11, .lp [vU e0] 0), (12, vU e0)], [(qa4 n ws), (1, some ⟨26, .agg [.sl 3 1 0 w2], true⟩), (2, none), (3, bL 3 w1)], 4, none⟩ K = plcAppF_s7 w0 w1 w2 w3 w4 ws w5 e0 n (fun a0 a1 a2 a3 => lpN qa9 (itX Tryd.prog mode3 T_places fuel 3 28 3 2 (roundK (evC qa2) (evC qa3) (qa5 fuel) #[7] 3876 qa1)) 268435417 qa8 k ⟨[(0, .yl 2), (3, vI w4), (4, vU a0), (6, vW ws), (7, vI w5), (8, vI w4), (9, vB a1), (10, vI w4), (11, .lp [vU e0] 0), (12, vU e0)], [(qa4 n ws), (1, some ⟨26, .agg [.sl 3 1 0 a2], true⟩), (2, none), (3, bL 3 a3)], 4, none⟩ K) (fun a4 a5 a6 a7 a8 => K (.exit 2) ⟨[(0, .yl 2), (3, vI w4), (4, vU a4), (6, vW ws), (7, vI w5), (8, vI w4), (9, vB a5), (10, vI w4), (11, .lp [vU e0] 0), (12, vU e0), (13, vU a4), (14, vB a6)], [(qa4 n ws), (1, some ⟨26, .agg [.sl 3 1 0 a7], true⟩), (2, none), (3, bL 3 a8)], 4, none⟩) := by kernel_rfl
noncomputable def plcAppF_l5 {R : Type} (fuel : Nat) (w0 : Int) (ws : List Int) (w1 e0 n : Int) (k0 : Int → Bool → Bool → Nat → List Int → Option R) : Nat → Int → Bool → Nat → List Int → Option R
  | 0, _, _, _, _ => none
  | k + 1, w2, w3, w4, w5 =>
    (plcAppF_s7 w2 w5 w4 w3 w0 ws w1 e0 n (fun a0 a1 a2 a3 => ( plcAppF_l5 fuel w0 ws w1 e0 n k0 k a0 a1 a2 a3 )) (fun a4 a5 a6 a7 a8 => k0 a4 a5 a6 a7 a8))
theorem plcAppF_l5_eq (fuel : Nat) (w0 : Int) (ws : List Int) (w1 e0 n : Int) (K : Ex → St → Option Out) : ∀ (k : Nat) (w2 : Int) (w3 : Bool) (w4 : Nat) (w5 : List Int), lpN qa9 (itX Tryd.prog mode3 T_places fuel 3 28 3 2 (roundK (evC qa2) (evC qa3) (qa5 fuel) #[7] 3876 qa1)) 268435417 qa8 k ⟨[(0, .yl 2), (3, vI w0), (4, vU w2), (6, vW ws), (7, vI w1), (8, vI w0), (9, vB w3), (10, vI w0), (11, .lp [vU e0] 0), (12, vU e0)], [(qa4 n ws), (1, some ⟨26, .agg [.sl 3 1 0 w4], true⟩), (2, none), (3, bL 3 w5)], 4, none⟩ K = plcAppF_l5 fuel w0 ws w1 e0 n (fun y0 y1 y2 y3 y4 => K (.exit 2) ⟨[(0, .yl 2), (3, vI w0), (4, vU y0), (6, vW ws), (7, vI w1), (8, vI w0), (9, vB y1), (10, vI w0), (11, .lp [vU e0] 0), (12, vU e0), (13, vU y0), (14, vB y2)], [(qa4 n ws), (1, some ⟨26, .agg [.sl 3 1 0 y3], true⟩), (2, none), (3, bL 3 y4)], 4, none⟩) k w2 w3 w4 w5
  | 0, _, _, _, _ => rfl
  | k + 1, w2, w3, w4, w5 => by
    unfold plcAppF_l5
    exact (plcAppF_s7_eq fuel k K w2 w5 w4 w3 w0 ws w1 e0 n).trans (congr (congr (Eq.refl (plcAppF_s7 (R := Out) w2 w5 w4 w3 w0 ws w1 e0 n)) (funext fun a0 => funext fun a1 => funext fun a2 => funext fun a3 => plcAppF_l5_eq fuel w0 ws w1 e0 n K k a0 a1 a2 a3)) (rfl))
noncomputable def plcAppF_s8 {R : Type} (w0 : Int) (x0 : Nat) (x1 : List Int) (x2 : Int) (ws : List Int) (w1 : Int) (x3 : Bool) (e0 : Int) (x4 : Bool) (n : Int) (c0 : Int → Nat → List Int → Option R) : Option R :=
  c0 (IntKind.i64.wrap (w0 + 1)) x0 x1
theorem plcAppF_s8_eq (fuel k : Nat) (K : Ex → St → Option Out) (w0 : Int) (x0 : Nat) (x1 : List Int) (x2 : Int) (ws : List Int) (w1 : Int) (x3 : Bool) (e0 : Int) (x4 : Bool) (n : Int) : (kont (itX Tryd.prog mode3 T_places fuel 3 28 3 2 (roundK (evC qa2) (evC qa3) (qa5 fuel) #[7] 3876 qa1)) qa6 [1, 1, 0, 0, 1, 0] 268435417 (rdK qa6 (itX Tryd.prog mode3 T_places fuel 3 28 3 2 (roundK (evC qa2) (evC qa3) (qa5 fuel) #[7] 3876 qa1)) 0 [0, 6, 7, 8] k K)) (.exit 2) ⟨[(0, .yl 2), (3, vI w0), (4, vU x2), (6, vW ws), (7, vI w1), (8, vI w0), (9, vB x3), (10, vI w0), (11, .lp [vU e0] 0), (12, vU e0), (13, vU x2), (14, vB x4)], [(qa4 n ws), (1, some ⟨26, .agg [.sl 3 1 0 x0], true⟩), (2, none), (3, bL 3 x1)], 4, none⟩ = plcAppF_s8 w0 x0 x1 x2 ws w1 x3 e0 x4 n (fun a0 a1 a2 => lpN qa6 (itX Tryd.prog mode3 T_places fuel 3 28 3 2 (roundK (evC qa2) (evC qa3) (qa5 fuel) #[7] 3876 qa1)) 0 [0, 6, 7, 8] k ⟨[(0, .yl 2), (6, vW ws), (7, vI w1), (8, vI a0)], [(qa4 n ws), (1, some ⟨26, .agg [.sl 3 1 0 a1], true⟩), (2, none), (3, bL 3 a2)], 4, none⟩ K) := by kernel_rfl
noncomputable def plcAppF_s6 {R : Type} (w0 w1 : Int) (ws : List Int) (w2 : Nat) (w3 : List Int) (n : Int) (c0 : Int → Bool → Nat → List Int → Int → Option R) (c1 : Nat → List Int → Option R) : Option R :=
  br (decide (w0 < w1))
    (bnd (ix ws w0) fun e0 =>
    c0 e0 (decide (w0 < w1)) w2 w3 e0)
    (c1 w2 w3)
theorem plcAppF_s6_eq (fuel k : Nat) (K : Ex → St → Option Out) (w0 w1 : Int) (ws : List Int) (w2 : Nat) (w3 : List Int) (n : Int) : lpN qa6 (itX Tryd.prog mode3 T_places fuel 3 28 3 2 (roundK (evC qa2) (evC qa3) (qa5 fuel) #[7] 3876 qa1)) 0 [0, 6, 7, 8] (k + 1) ⟨[(0, .yl 2), (6, vW ws), (7, vI w1), (8, vI w0)], [(qa4 n ws), (1, some ⟨26, .agg [.sl 3 1 0 w2], true⟩), (2, none), (3, bL 3 w3)], 4, none⟩ K = plcAppF_s6 w0 w1 ws w2 w3 n (fun a0 a1 a2 a3 e0 => lpN qa9 (itX Tryd.prog mode3 T_places fuel 3 28 3 2 (roundK (evC qa2) (evC qa3) (qa5 fuel) #[7] 3876 qa1)) 268435417 qa8 fuel ⟨[(0, .yl 2), (3, vI w0), (4, vU a0), (6, vW ws), (7, vI w1), (8, vI w0), (9, vB a1), (10, vI w0), (11, .lp [vU e0] 0), (12, vU e0)], [(qa4 n ws), (1, some ⟨26, .agg [.sl 3 1 0 a2], true⟩), (2, none), (3, bL 3 a3)], 4, none⟩ (kont (itX Tryd.prog mode3 T_places fuel 3 28 3 2 (roundK (evC qa2) (evC qa3) (qa5 fuel) #[7] 3876 qa1)) qa6 [1, 1, 0, 0, 1, 0] 268435417 (rdK qa6 (itX Tryd.prog mode3 T_places fuel 3 28 3 2 (roundK (evC qa2) (evC qa3) (qa5 fuel) #[7] 3876 qa1)) 0 [0, 6, 7, 8] k K))) (fun a4 a5 => K (.exit 0) ⟨[], [(qa4 n ws), (1, some ⟨26, .agg [.sl 3 1 0 a4], true⟩), (2, none), (3, bL 3 a5)], 4, none⟩) := by kernel_rfl
noncomputable def plcAppF_l4 {R : Type} (fuel : Nat) (ws : List Int) (w0 n : Int) (k0 : Nat → List Int → Option R) : Nat → Int → Nat → List Int → Option R
  | 0, _, _, _ => none
  | k + 1, w1, w2, w3 =>
    (plcAppF_s6 w1 w0 ws w2 w3 n (fun a0 a1 a2 a3 e0 => (plcAppF_l5 fuel w1 ws w0 e0 n (fun x0 x1 x2 x3 x4 => (plcAppF_s8 w1 x3 x4 x0 ws w0 x1 e0 x2 n (fun a4 a5 a6 => ( plcAppF_l4 fuel ws w0 n k0 k a4 a5 a6 )))) fuel a0 a1 a2 a3)) (fun a7 a8 => k0 a7 a8))
theorem plcAppF_l4_eq (fuel : Nat) (ws : List Int) (w0 n : Int) (K : Ex → St → Option Out) : ∀ (k : Nat) (w1 : Int) (w2 : Nat) (w3 : List Int), lpN qa6 (itX Tryd.prog mode3 T_places fuel 3 28 3 2 (roundK (evC qa2) (evC qa3) (qa5 fuel) #[7] 3876 qa1)) 0 [0, 6, 7, 8] k ⟨[(0, .yl 2), (6, vW ws), (7, vI w0), (8, vI w1)], [(qa4 n ws), (1, some ⟨26, .agg [.sl 3 1 0 w2], true⟩), (2, none), (3, bL 3 w3)], 4, none⟩ K = plcAppF_l4 fuel ws w0 n (fun y0 y1 => K (.exit 0) ⟨[], [(qa4 n ws), (1, some ⟨26, .agg [.sl 3 1 0 y0], true⟩), (2, none), (3, bL 3 y1)], 4, none⟩) k w1 w2 w3
  | 0, _, _, _ => rfl
  | k + 1, w1, w2, w3 => by
    unfold plcAppF_l4
    exact (plcAppF_s6_eq fuel k K w1 w0 ws w2 w3 n).trans (congr (congr (Eq.refl (plcAppF_s6 (R := Out) w1 w0 ws w2 w3 n)) (funext fun a0 => funext fun a1 => funext fun a2 => funext fun a3 => funext fun e0 => (plcAppF_l5_eq fuel w1 ws w0 e0 n (kont (itX Tryd.prog mode3 T_places fuel 3 28 3 2 (roundK (evC qa2) (evC qa3) (qa5 fuel) #[7] 3876 qa1)) qa6 [1, 1, 0, 0, 1, 0] 268435417 (rdK qa6 (itX Tryd.prog mode3 T_places fuel 3 28 3 2 (roundK (evC qa2) (evC qa3) (qa5 fuel) #[7] 3876 qa1)) 0 [0, 6, 7, 8] k K)) fuel a0 a1 a2 a3).trans (congrFun (congrFun (congrFun (congrFun (congrFun (congr (Eq.refl (plcAppF_l5 (R := Out) fuel w1 ws w0 e0 n)) (funext fun x0 => funext fun x1 => funext fun x2 => funext fun x3 => funext fun x4 => (plcAppF_s8_eq fuel k K w1 x3 x4 x0 ws w0 x1 e0 x2 n).trans (congr (Eq.refl (plcAppF_s8 (R := Out) w1 x3 x4 x0 ws w0 x1 e0 x2 n)) (funext fun a4 => funext fun a5 => funext fun a6 => plcAppF_l4_eq fuel ws w0 n K k a4 a5 a6)))) fuel) a0) a1) a2) a3))) (rfl))
noncomputable def plcAppF_s5 {R : Type} (w0 : Int) (x0 : Nat) (x1 : List Int) (x2 : Int) (ws : List Int) (w1 : Int) (x3 : Bool) (e0 : Int) (x4 : Bool) (n : Int) (c0 : Int → Nat → List Int → Option R) : Option R :=
  c0 (IntKind.i64.wrap (w0 + 1)) x0 x1
theorem plcAppF_s5_eq (fuel k : Nat) (K : Ex → St → Option Out) (w0 : Int) (x0 : Nat) (x1 : List Int) (x2 : Int) (ws : List Int) (w1 : Int) (x3 : Bool) (e0 : Int) (x4 : Bool) (n : Int) : (kont (itX Tryd.prog mode3 T_places fuel 3 28 3 2 (roundK (evC qa2) (evC qa3) (qa5 fuel) #[7] 3876 qa1)) qa6 [1, 1, 0, 0, 1, 0] 268435417 (rdK qa6 (itX Tryd.prog mode3 T_places fuel 3 28 3 2 (roundK (evC qa2) (evC qa3) (qa5 fuel) #[7] 3876 qa1)) 0 [0, 6, 7, 8] k K)) (.exit 2) ⟨[(0, .yl 2), (3, vI w0), (4, vU x2), (6, vW ws), (7, vI w1), (8, vI w0), (9, vB x3), (10, vI w0), (11, .lp [vU e0] 0), (12, vU e0), (13, vU x2), (14, vB x4)], [(qa4 n ws), (1, some ⟨26, .agg [.sl 3 1 0 x0], true⟩), (2, none), (3, bL 3 x1)], 4, none⟩ = plcAppF_s5 w0 x0 x1 x2 ws w1 x3 e0 x4 n (fun a0 a1 a2 => lpN qa6 (itX Tryd.prog mode3 T_places fuel 3 28 3 2 (roundK (evC qa2) (evC qa3) (qa5 fuel) #[7] 3876 qa1)) 0 [0, 6, 7, 8] k ⟨[(0, .yl 2), (6, vW ws), (7, vI w1), (8, vI a0)], [(qa4 n ws), (1, some ⟨26, .agg [.sl 3 1 0 a1], true⟩), (2, none), (3, bL 3 a2)], 4, none⟩ K) := by kernel_rfl
noncomputable def plcAppF_s9 {R : Type} (w0 w1 e0 : Int) (ws : List Int) (x0 x1 : Bool) (n : Int) (c0 : Int → Int → Option R) : Option R :=
  c0 w0 (IntKind.i64.wrap (w1 + 1))
theorem plcAppF_s9_eq (fuel k : Nat) (K : Ex → St → Option Out) (w0 w1 e0 : Int) (ws : List Int) (x0 x1 : Bool) (n : Int) : (kont (itX Tryd.prog mode3 T_places fuel 3 28 3 2 (roundK (evC qa2) (evC qa3) (qa5 fuel) #[7] 3876 qa1)) qa6 [1, 1, 0, 0, 1, 0] 268435417 (rdK qa6 (itX Tryd.prog mode3 T_places fuel 3 28 3 2 (roundK (evC qa2) (evC qa3) (qa5 fuel) #[7] 3876 qa1)) 0 [0, 6, 7, 8] k K)) (.exit 2) ⟨[(0, .yl 2), (3, vI w1), (4, vU e0), (6, vW ws), (7, vI w0), (8, vI w1), (9, vB x0), (10, vI w1), (11, .lp [vU e0] 0), (12, vU e0), (13, vU e0), (14, vB x1)], [(qa4 n ws), qa7, (2, none)], 3, none⟩ = plcAppF_s9 w0 w1 e0 ws x0 x1 n (fun a0 a1 => lpN qa6 (itX Tryd.prog mode3 T_places fuel 3 28 3 2 (roundK (evC qa2) (evC qa3) (qa5 fuel) #[7] 3876 qa1)) 0 [0, 6, 7, 8] k ⟨[(0, .yl 2), (6, vW ws), (7, vI a0), (8, vI a1)], [(qa4 n ws), qa7, (2, none)], 3, none⟩ K) := by kernel_rfl
noncomputable def plcAppF_s2 {R : Type} (w0 w1 : Int) (ws : List Int) (n : Int) (c0 : Bool → Int → Option R) (c1 : Option R) : Option R :=
  br (decide (w0 < w1))
    (bnd (ix ws w0) fun e0 =>
    c0 (decide (w0 < w1)) e0)
    (c1)
theorem plcAppF_s2_eq (fuel k : Nat) (K : Ex → St → Option Out) (w0 w1 : Int) (ws : List Int) (n : Int) : lpN qa6 (itX Tryd.prog mode3 T_places fuel 3 28 3 2 (roundK (evC qa2) (evC qa3) (qa5 fuel) #[7] 3876 qa1)) 0 [0, 6, 7, 8] (k + 1) ⟨[(0, .yl 2), (6, vW ws), (7, vI w1), (8, vI w0)], [(qa4 n ws), qa7, (2, none)], 3, none⟩ K = plcAppF_s2 w0 w1 ws n (fun a0 e0 => lpN qa9 (itX Tryd.prog mode3 T_places fuel 3 28 3 2 (roundK (evC qa2) (evC qa3) (qa5 fuel) #[7] 3876 qa1)) 268435417 qa8 fuel ⟨[(0, .yl 2), (3, vI w0), (4, vU e0), (6, vW ws), (7, vI w1), (8, vI w0), (9, vB a0), (10, vI w0), (11, .lp [vU e0] 0), (12, vU e0)], [(qa4 n ws), qa7, (2, none)], 3, none⟩ (kont (itX Tryd.prog mode3 T_places fuel 3 28 3 2 (roundK (evC qa2) (evC qa3) (qa5 fuel) #[7] 3876 qa1)) qa6 [1, 1, 0, 0, 1, 0] 268435417 (rdK qa6 (itX Tryd.prog mode3 T_places fuel 3 28 3 2 (roundK (evC qa2) (evC qa3) (qa5 fuel) #[7] 3876 qa1)) 0 [0, 6, 7, 8] k K))) (K (.exit 0) ⟨[], [(qa4 n ws), qa7, (2, none)], 3, none⟩) := by kernel_rfl
noncomputable def plcAppF_l1 {R : Type} (fuel : Nat) (ws : List Int) (n : Int) (k0 : Nat → List Int → Option R) (k1 : Option R) : Nat → Int → Int → Option R
  | 0, _, _ => none
  | k + 1, w0, w1 =>
    (plcAppF_s2 w1 w0 ws n (fun a0 e0 => (plcAppF_l2 fuel w1 e0 ws w0 n (fun x0 x1 x2 x3 x4 => (plcAppF_s5 w1 x3 x4 x0 ws w0 x1 e0 x2 n (fun a1 a2 a3 => (plcAppF_l4 fuel ws w0 n (fun x5 x6 => k0 x5 x6) k a1 a2 a3)))) (fun x7 x8 => (plcAppF_s9 w0 w1 e0 ws x7 x8 n (fun a4 a5 => ( plcAppF_l1 fuel ws n k0 k1 k a4 a5 )))) fuel a0)) (k1))
theorem plcAppF_l1_eq (fuel : Nat) (ws : List Int) (n : Int) (K : Ex → St → Option Out) : ∀ (k : Nat) (w0 w1 : Int), lpN qa6 (itX Tryd.prog mode3 T_places fuel 3 28 3 2 (roundK (evC qa2) (evC qa3) (qa5 fuel) #[7] 3876 qa1)) 0 [0, 6, 7, 8] k ⟨[(0, .yl 2), (6, vW ws), (7, vI w0), (8, vI w1)], [(qa4 n ws), qa7, (2, none)], 3, none⟩ K = plcAppF_l1 fuel ws n (fun y0 y1 => K (.exit 0) ⟨[], [(qa4 n ws), (1, some ⟨26, .agg [.sl 3 1 0 y0], true⟩), (2, none), (3, bL 3 y1)], 4, none⟩) (K (.exit 0) ⟨[], [(qa4 n ws), qa7, (2, none)], 3, none⟩) k w0 w1
  | 0, _, _ => rfl
  | k + 1, w0, w1 => by
    unfold plcAppF_l1
    exact (plcAppF_s2_eq fuel k K w1 w0 ws n).trans (congr (congr (Eq.refl (plcAppF_s2 (R := Out) w1 w0 ws n)) (funext fun a0 => funext fun e0 => (plcAppF_l2_eq fuel w1 e0 ws w0 n (kont (itX Tryd.prog mode3 T_places fuel 3 28 3 2 (roundK (evC qa2) (evC qa3) (qa5 fuel) #[7] 3876 qa1)) qa6 [1, 1, 0, 0, 1, 0] 268435417 (rdK qa6 (itX Tryd.prog mode3 T_places fuel 3 28 3 2 (roundK (evC qa2) (evC qa3) (qa5 fuel) #[7] 3876 qa1)) 0 [0, 6, 7, 8] k K)) fuel a0).trans (congrFun (congrFun (congr (congr (Eq.refl (plcAppF_l2 (R := Out) fuel w1 e0 ws w0 n)) (funext fun x0 => funext fun x1 => funext fun x2 => funext fun x3 => funext fun x4 => (plcAppF_s5_eq fuel k K w1 x3 x4 x0 ws w0 x1 e0 x2 n).trans (congr (Eq.refl (plcAppF_s5 (R := Out) w1 x3 x4 x0 ws w0 x1 e0 x2 n)) (funext fun a1 => funext fun a2 => funext fun a3 => plcAppF_l4_eq fuel ws w0 n K k a1 a2 a3)))) (funext fun x5 => funext fun x6 => (plcAppF_s9_eq fuel k K w0 w1 e0 ws x5 x6 n).trans (congr (Eq.refl (plcAppF_s9 (R := Out) w0 w1 e0 ws x5 x6 n)) (funext fun a4 => funext fun a5 => plcAppF_l1_eq fuel ws n K k a4 a5)))) fuel) a0))) (rfl))
noncomputable def plcAppF_s10 {R : Type} (x0 : Nat) (n : Int) (ws x1 : List Int) (c0 : Nat → Nat → Int → List Int → List Int → Option R) : Option R :=
  c0 0 x0 n ws x1
theorem plcAppF_s10_eq (fuel : Nat)  (x0 : Nat) (n : Int) (ws x1 : List Int) : (kont (itX Tryd.prog mode3 T_places fuel 3 28 3 2 (roundK (evC qa2) (evC qa3) (qa5 fuel) #[7] 3876 qa1)) (bodyOf Tryd.prog 126) [1, 0] 0 (itE (behind ⟨qa1, [(qa4 n ws), qa7], 2, none⟩ (kont (qa5 fuel) (bodyOf Tryd.prog 125) [1, 0, 1, 0] 16 (endK Tryd.prog 2 1 125))))) (.exit 0) ⟨[], [(qa4 n ws), (1, some ⟨26, .agg [.sl 3 1 0 x0], true⟩), (2, none), (3, bL 3 x1)], 4, none⟩ = plcAppF_s10 x0 n ws x1 (fun a0 a1 a2 a3 a4 => some (.sl 1 1 a0 a1, [some ⟨44, .agg [vI a2, vW a3], true⟩, bL 3 a4])) := by kernel_rfl
noncomputable def plcAppF_s11 {R : Type} (n : Int) (ws : List Int) (c0 : Int → List Int → Option R) : Option R :=
  c0 n ws
theorem plcAppF_s11_eq (fuel : Nat)  (n : Int) (ws : List Int) : (kont (itX Tryd.prog mode3 T_places fuel 3 28 3 2 (roundK (evC qa2) (evC qa3) (qa5 fuel) #[7] 3876 qa1)) (bodyOf Tryd.prog 126) [1, 0] 0 (itE (behind ⟨qa1, [(qa4 n ws), qa7], 2, none⟩ (kont (qa5 fuel) (bodyOf Tryd.prog 125) [1, 0, 1, 0] 16 (endK Tryd.prog 2 1 125))))) (.exit 0) ⟨[], [(qa4 n ws), qa7, (2, none)], 3, none⟩ = plcAppF_s11 n ws (fun a0 a1 => some (vN, [some ⟨44, .agg [vI a0, vW a1], true⟩])) := by kernel_rfl
noncomputable def plcAppF_s1 {R : Type} (ws : List Int) (n : Int) (c0 : Int → Int → Option R) : Option R :=
  c0 ((ws.length : Nat) : Int) 0
theorem plcAppF_s1_eq (fuel : Nat)  (ws : List Int) (n : Int) : callN Tryd.prog mode3 T_places fuel 125 [vN, .fn (.func 126) [] [.ptr 0 2 0 0]] [⟨44, .agg [vI n, vW ws], true⟩] = plcAppF_s1 ws n (fun a0 a1 => lpN qa6 (itX Tryd.prog mode3 T_places fuel 3 28 3 2 (roundK (evC qa2) (evC qa3) (qa5 fuel) #[7] 3876 qa1)) 0 [0, 6, 7, 8] fuel ⟨[(0, .yl 2), (6, vW ws), (7, vI a0), (8, vI a1)], [(qa4 n ws), qa7, (2, none)], 3, none⟩ (kont (itX Tryd.prog mode3 T_places fuel 3 28 3 2 (roundK (evC qa2) (evC qa3) (qa5 fuel) #[7] 3876 qa1)) (bodyOf Tryd.prog 126) [1, 0] 0 (itE (behind ⟨qa1, [(qa4 n ws), qa7], 2, none⟩ (kont (qa5 fuel) (bodyOf Tryd.prog 125) [1, 0, 1, 0] 16 (endK Tryd.prog 2 1 125)))))) := by kernel_rfl
noncomputable def plcAppF {R : Type} (fuel : Nat) (n : Int) (ws : List Int) (r0 : Nat → Nat → Int → List Int → List Int → Option R) (r1 : Int → List Int → Option R) : Option R :=
  (plcAppF_s1 ws n (fun a0 a1 => (plcAppF_l1 fuel ws n (fun x0 x1 => (plcAppF_s10 x0 n ws x1 (fun a2 a3 a4 a5 a6 => r0 a2 a3 a4 a5 a6))) ((plcAppF_s11 n ws (fun a7 a8 => r1 a7 a8))) fuel a0 a1)))
theorem plcAppF_eq (fuel : Nat) (n : Int) (ws : List Int) : callN Tryd.prog mode3 T_places fuel 125 [.s (.slice none 0 0), .fn (.func 126) [] [.ptr 0 2 0 0]] [⟨44, .agg [.s (.int .i64 n), .li .u64 ws], true⟩] = plcAppF fuel n ws (fun z0 z1 z2 z3 z4 => some (.sl 1 1 z0 z1, [some ⟨44, .agg [.s (.int .i64 z2), .li .u64 z3], true⟩, some ⟨3, .li .i64 z4, true⟩])) (fun z0 z1 => some (.s (.slice none 0 0), [some ⟨44, .agg [.s (.int .i64 z0), .li .u64 z1], true⟩])) := by
  unfold plcAppF
  exact (plcAppF_s1_eq fuel  ws n).trans (congr (Eq.refl (plcAppF_s1 (R := Out) ws n)) (funext fun a0 => funext fun a1 => (plcAppF_l1_eq fuel ws n (kont (itX Tryd.prog mode3 T_places fuel 3 28 3 2 (roundK (evC qa2) (evC qa3) (qa5 fuel) #[7] 3876 qa1)) (bodyOf Tryd.prog 126) [1, 0] 0 (itE (behind ⟨qa1, [(qa4 n ws), qa7], 2, none⟩ (kont (qa5 fuel) (bodyOf Tryd.prog 125) [1, 0, 1, 0] 16 (endK Tryd.prog 2 1 125))))) fuel a0 a1).trans (congrFun (congrFun (congrFun (congr (congr (Eq.refl (plcAppF_l1 (R := Out) fuel ws n)) (funext fun x0 => funext fun x1 => (plcAppF_s10_eq fuel  x0 n ws x1))) ((plcAppF_s11_eq fuel  n ws))) fuel) a0) a1)))
theorem tz_at {v k : Nat} (h0 : v ≠ 0) (h : v < 2 ^ 64) (hk : k ≤ 8) : IntKind.i64.wrap (IntKind.i64.wrap ((k : Int) * 64) + tzS (v : Int)) = ((64 * k + Lib.ctz 64 v : Nat) : Int) := by
  obtain ⟨_, _, hc⟩ := parts h0 h
  rw [tzS_eq]
  unfold tzI
  rw [Int.toNat_natCast, wrap_i64 (x := (k : Int) * 64) (by omega) (by omega), wrap_i64 (by omega) (by omega)]
  omega
theorem and_less {v : Nat} (h0 : v ≠ 0) (h : v < 2 ^ 64) : andI .u64 (v : Int) (IntKind.u64.wrap ((v : Int) - 1)) = ((v &&& (v - 1) : Nat) : Int) := by
  have e : (v : Int) - 1 = ((v - 1 : Nat) : Int) := by omega
  rw [e, wrap_u64 (by omega) (by omega), andI_nat (by omega) (by omega) (by omega) (by omega), Int.toNat_natCast, Int.toNat_natCast]
theorem and_lt {v : Nat} (h : v < 2 ^ 64) : v &&& (v - 1) < 2 ^ 64 := Nat.lt_of_le_of_lt Nat.and_le_left h
theorem plcApp_in3 {R : Type} (fuel i : Nat) (hi : i ≤ 8) (ws : List Int) (w73 : Int) (b : Bool) (e n : Int) (k0 : Int → Bool → Nat → List Int → Option R) : ∀ (k v : Nat) (acc : List Int), v < 2 ^ 64 → (bitsAt i v).length < k → acc.length + (bitsAt i v).length ≤ 100000 →
    plcAppF_l3 fuel (i : Int) ws w73 b e n k0 k (v : Int) acc.length acc = k0 0 false (acc ++ bitsAt i v).length (acc ++ bitsAt i v)
  | 0, v, acc, hv, hk, ha => by omega
  | k + 1, v, acc, hv, hk, ha => by
    unfold plcAppF_l3 plcAppF_s4
    rw [br_if]
    by_cases h0 : v = 0
    · subst h0
      rw [if_neg (by decide), bitsAt_zero, List.append_nil]
      rfl
    · have hs := bitsAt_step (k := i) h0 hv
      rw [if_pos (by simp; omega), grd_of (by simp; omega), grd_of (beq_self _), grd_of (okN_of (by omega) (by omega)), tz_at h0 hv hi, and_less h0 hv]
      rw [hs] at hk ha ⊢
      simp only [List.length_cons] at hk ha
      have ih := plcApp_in3 fuel i hi ws w73 b e n k0 k (v &&& (v - 1)) (acc ++ [((64 * i + Lib.ctz 64 v : Nat) : Int)]) (and_lt hv) (by omega) (by simp; omega)
      rw [List.append_assoc] at ih
      exact ih
theorem plcApp_in5 {R : Type} (fuel i : Nat) (hi : i ≤ 8) (ws : List Int) (w73 : Int) (e n : Int) (k0 : Int → Bool → Bool → Nat → List Int → Option R) : ∀ (k v : Nat) (b : Bool) (acc : List Int), v < 2 ^ 64 → (bitsAt i v).length < k → acc.length + (bitsAt i v).length ≤ 100000 →
    plcAppF_l5 fuel (i : Int) ws w73 e n k0 k (v : Int) b acc.length acc = k0 0 b false (acc ++ bitsAt i v).length (acc ++ bitsAt i v)
  | 0, v, b, acc, hv, hk, ha => by omega
  | k + 1, v, b, acc, hv, hk, ha => by
    unfold plcAppF_l5 plcAppF_s7
    rw [br_if]
    by_cases h0 : v = 0
    · subst h0
      rw [if_neg (by decide), bitsAt_zero, List.append_nil]
      rfl
    · have hs := bitsAt_step (k := i) h0 hv
      rw [if_pos (by simp; omega), grd_of (by simp; omega), grd_of (beq_self _), grd_of (okN_of (by omega) (by omega)), tz_at h0 hv hi, and_less h0 hv]
      rw [hs] at hk ha ⊢
      simp only [List.length_cons] at hk ha
      have ih := plcApp_in5 fuel i hi ws w73 e n k0 k (v &&& (v - 1)) b (acc ++ [((64 * i + Lib.ctz 64 v : Nat) : Int)]) (and_lt hv) (by omega) (by simp; omega)
      rw [List.append_assoc] at ih
      exact ih
theorem word_get {ws : List Int} (hok : Ok ws) {i : Nat} (hi : i < ws.length) : ix ws (i : Int) = some (((ws.getD i 0).toNat : Nat) : Int) ∧ (ws.getD i 0).toNat < 2 ^ 64 := by
  have hg := hok.getD i
  refine ⟨?_, by omega⟩
  rw [ix_nat, List.getElem?_eq_getElem hi]
  congr 1
  have : ws.getD i 0 = ws[i] := by rw [List.getD_eq_getElem?_getD, List.getElem?_eq_getElem hi]; rfl
  rw [← this]; omega
theorem plcApp_out4 {R : Type} (fuel : Nat) (hf : 66 ≤ fuel) (ws : List Int) (hok : Ok ws) (hl : ws.length ≤ 8) (n : Int) (k0 : Nat → List Int → Option R) : ∀ (k i : Nat) (acc : List Int), i ≤ ws.length → ws.length < i + k → acc.length ≤ 64 * i →
    plcAppF_l4 fuel ws (ws.length : Int) n k0 k (i : Int) acc.length acc = k0 (acc ++ wordsFrom ws (ws.length - i) i).length (acc ++ wordsFrom ws (ws.length - i) i)
  | 0, i, acc, h1, h2, h3 => by omega
  | k + 1, i, acc, h1, h2, h3 => by
    unfold plcAppF_l4 plcAppF_s6
    rw [br_if]
    by_cases hc : i < ws.length
    · obtain ⟨hg, hlt⟩ := word_get hok hc
      have hb := bitsAt_len i (ws.getD i 0).toNat
      rw [if_pos (by simpa using hc), bnd_of hg]
      dsimp only
      rw [plcApp_in5 fuel i (by omega) ws _ _ n _ fuel _ _ acc hlt (by omega) (by omega)]
      unfold plcAppF_s8
      rw [wrap_i64 (by omega) (by omega), show (i : Int) + 1 = ((i + 1 : Nat) : Int) by omega, show ws.length - i = (ws.length - (i + 1)) + 1 by omega, wordsFrom, ← List.append_assoc]
      exact plcApp_out4 fuel hf ws hok hl n k0 k (i + 1) _ (by omega) (by omega) (by rw [List.length_append]; omega)
    · rw [if_neg (by simpa using hc), show ws.length - i = 0 by omega, wordsFrom, List.append_nil]
theorem plcApp_first {R : Type} (fuel : Nat) (hf : 66 ≤ fuel) (ws : List Int) (hok : Ok ws) (hl : ws.length ≤ 8) (n : Int) (k0 : Nat → List Int → Option R) (k1 : Option R) : ∀ (k i : Nat), i ≤ ws.length → ws.length < i + k →
    plcAppF_l1 fuel ws n k0 k1 k (ws.length : Int) (i : Int) = if wordsFrom ws (ws.length - i) i = [] then k1 else k0 (wordsFrom ws (ws.length - i) i).length (wordsFrom ws (ws.length - i) i)
  | 0, i, h1, h2 => by omega
  | k + 1, i, h1, h2 => by
    unfold plcAppF_l1 plcAppF_s2
    rw [br_if]
    by_cases hc : i < ws.length
    · obtain ⟨hg, hlt⟩ := word_get hok hc
      have hb := bitsAt_len i (ws.getD i 0).toNat
      rw [if_pos (by simpa using hc), bnd_of hg]
      dsimp only
      obtain ⟨f, rfl⟩ : ∃ f, fuel = f + 1 := ⟨fuel - 1, by omega⟩
      unfold plcAppF_l2 plcAppF_s3
      dsimp only
      rw [br_if, show ws.length - i = (ws.length - (i + 1)) + 1 by omega, wordsFrom]
      have hw1 : IntKind.i64.wrap ((i : Int) + 1) = ((i + 1 : Nat) : Int) := by rw [wrap_i64 (by omega) (by omega)]; omega
      clear hg
      generalize (ws.getD i 0).toNat = v at *
      by_cases h0 : v = 0
      · rw [h0, if_neg (by decide), bitsAt_zero, List.nil_append]
        unfold plcAppF_s9
        rw [hw1]
        exact plcApp_first (f + 1) hf ws hok hl n k0 k1 k (i + 1) (by omega) (by omega)
      · have hs := bitsAt_step (k := i) h0 hlt
        rw [if_pos (by simp; omega), grd_of (by simp; omega), tz_at h0 hlt (by omega), and_less h0 hlt]
        rw [hs, List.length_cons] at hb
        have h3 := fun k0 => plcApp_in3 (R := R) (f + 1) i (by omega) ws (ws.length : Int) (decide ((i : Int) < (ws.length : Int))) ((v : Nat) : Int) n k0 f _ [((64 * i + Lib.ctz 64 v : Nat) : Int)] (and_lt hlt) (by omega) (by simp; omega)
        rw [List.singleton_append, ← hs] at h3
        rw [show [((64 * i + Lib.ctz 64 v : Nat) : Int)].length = 1 from rfl] at h3
        rw [h3]
        unfold plcAppF_s5
        rw [hw1, if_neg (by rw [hs]; simp)]
        exact plcApp_out4 (f + 1) hf ws hok hl n k0 k (i + 1) _ (by omega) (by omega) (by rw [hs, List.length_cons]; omega)
    · rw [if_neg (by simpa using hc), show ws.length - i = 0 by omega, wordsFrom]
      simp
theorem plcApp_fact (n : Int) (ws : List Int) (hg : (okW ws && decide (ws.length ≤ 8) && decide (1 ≤ (plS ws).length)) = true) : Fact Tryd.prog gTab 125 [.s (.slice none 0 0), .fn (.func 126) [] [.ptr 0 2 0 0]] [⟨44, .agg [.s (.int .i64 n), .li .u64 ws], true⟩] (.sl 1 1 0 ((plS ws).length), [some ⟨44, .agg [.s (.int .i64 n), .li .u64 ws], true⟩, some ⟨3, .li .i64 (plS ws), true⟩]) := by
  simp only [Bool.and_eq_true, decide_eq_true_eq] at hg
  obtain ⟨⟨h1, h2⟩, h3⟩ := hg
  refine callN_fact hN hM T_places_ok (n := 100) (mode := mode3) ?_
  rw [plcAppF_eq]
  unfold plcAppF plcAppF_s1
  have h := fun k0 k1 => plcApp_first (R := Out) 100 (by omega) ws (okW_iff.1 h1) h2 n k0 k1 100 0 (by omega) (by omega)
  have e : plS ws = wordsFrom ws (ws.length - 0) 0 := by rw [plS_eq]; rfl
  rw [← e, Int.natCast_zero] at h
  dsimp only
  rw [h, if_neg (by intro h; rw [h] at h3; simp at h3)]
  rfl
noncomputable def plcApp_ent : List V → List Blk → Option (Bool × Out)
  | [.s (.slice none 0 0), .fn (.func 126) [] [.ptr 0 2 0 0]], [⟨44, .agg [.s (.int .i64 n), .li .u64 ws], true⟩] => some ((okW ws && decide (ws.length ≤ 8) && decide (1 ≤ (plS ws).length)), (.sl 1 1 0 ((plS ws).length), [some ⟨44, .agg [.s (.int .i64 n), .li .u64 ws], true⟩, some ⟨3, .li .i64 (plS ws), true⟩]))
  | _, _ => none
theorem plcApp_ok : ∀ args bs out, plcApp_ent args bs = some (true, out) → Fact Tryd.prog gTab 125 args bs out := by
  intro args bs out h
  unfold plcApp_ent at h
  split at h
  · rename_i n ws
    simp only [Option.some.injEq, Prod.mk.injEq] at h
    obtain ⟨hg, rfl⟩ := h
    exact plcApp_fact n ws hg
  · cases h
noncomputable def T_plcApp : Tbl := Tbl.cons 125 plcApp_ent T_places
theorem T_plcApp_ok : CallOk Tryd.prog gTab T_plcApp := cons_ok T_places_ok plcApp_ok
/-! slices.Collect[int] -/
noncomputable def plcCollF_s1 {R : Type} (ws : List Int) (n : Int) (c0 : Nat → Nat → Int → List Int → List Int → Option R) : Option R :=
  grd (okW ws && decide (ws.length ≤ 8) && decide (1 ≤ (plS ws).length)) <|
  c0 0 ((plS ws).length) n ws (plS ws)
theorem plcCollF_s1_eq (fuel : Nat)  (ws : List Int) (n : Int) : callN Tryd.prog mode3 T_plcApp fuel 77 [.fn (.func 126) [] [.ptr 0 2 0 0]] [⟨44, .agg [vI n, vW ws], true⟩] = plcCollF_s1 ws n (fun a1 a2 a3 a4 a5 => some (.sl 1 1 a1 a2, [some ⟨44, .agg [vI a3, vW a4], true⟩, bL 3 a5])) := by kernel_rfl
noncomputable def plcCollF {R : Type} (fuel : Nat) (n : Int) (ws : List Int) (r0 : Nat → Nat → Int → List Int → List Int → Option R) : Option R :=
  (plcCollF_s1 ws n (fun a1 a2 a3 a4 a5 => r0 a1 a2 a3 a4 a5))
theorem plcCollF_eq (fuel : Nat) (n : Int) (ws : List Int) : callN Tryd.prog mode3 T_plcApp fuel 77 [.fn (.func 126) [] [.ptr 0 2 0 0]] [⟨44, .agg [.s (.int .i64 n), .li .u64 ws], true⟩] = plcCollF fuel n ws (fun z0 z1 z2 z3 z4 => some (.sl 1 1 z0 z1, [some ⟨44, .agg [.s (.int .i64 z2), .li .u64 z3], true⟩, some ⟨3, .li .i64 z4, true⟩])) := by
  unfold plcCollF
  exact (plcCollF_s1_eq fuel  ws n)
theorem plcColl_fact (n : Int) (ws : List Int) (hg : (okW ws && decide (ws.length ≤ 8) && decide (1 ≤ (plS ws).length)) = true) : Fact Tryd.prog gTab 77 [.fn (.func 126) [] [.ptr 0 2 0 0]] [⟨44, .agg [.s (.int .i64 n), .li .u64 ws], true⟩] (.sl 1 1 0 ((plS ws).length), [some ⟨44, .agg [.s (.int .i64 n), .li .u64 ws], true⟩, some ⟨3, .li .i64 (plS ws), true⟩]) := by
  refine callN_fact hN hM T_plcApp_ok (n := 0) (mode := mode3) ?_
  rw [plcCollF_eq]
  unfold plcCollF plcCollF_s1
  rw [grd_of hg]
noncomputable def plcColl_ent : List V → List Blk → Option (Bool × Out)
  | [.fn (.func 126) [] [.ptr 0 2 0 0]], [⟨44, .agg [.s (.int .i64 n), .li .u64 ws], true⟩] => some ((okW ws && decide (ws.length ≤ 8) && decide (1 ≤ (plS ws).length)), (.sl 1 1 0 ((plS ws).length), [some ⟨44, .agg [.s (.int .i64 n), .li .u64 ws], true⟩, some ⟨3, .li .i64 (plS ws), true⟩]))
  | _, _ => none
theorem plcColl_ok : ∀ args bs out, plcColl_ent args bs = some (true, out) → Fact Tryd.prog gTab 77 args bs out := by
  intro args bs out h
  unfold plcColl_ent at h
  split at h
  · rename_i n ws
    simp only [Option.some.injEq, Prod.mk.injEq] at h
    obtain ⟨hg, rfl⟩ := h
    exact plcColl_fact n ws hg
  · cases h
noncomputable def T_plcColl : Tbl := Tbl.cons 77 plcColl_ent T_plcApp
theorem T_plcColl_ok : CallOk Tryd.prog gTab T_plcColl := cons_ok T_plcApp_ok plcColl_ok
noncomputable def plcAF_s1 {R : Type} (ws : List Int) (n : Int) (c0 : Int → Option R) (c1 : List Int → Int → Option R) : Option R :=
  grd (okW ws) <|
  br (!(rtS n ws))
    (c0 1)
    (grd (okW ws && decide (ws.length ≤ 8) && decide (1 ≤ (plS ws).length)) <|
    c1 (((plS ws).drop 0).take ((plS ws).length)) 0)
theorem plcAF_s1_eq (fuel : Nat)  (ws : List Int) (n : Int) : callN Tryd.prog mode3 T_plcColl fuel 26 [.agg [vI n, vW ws]] [] = plcAF_s1 ws n (fun a1 => some (.tup [vN, vI a1], [])) (fun a2 a3 => some (.tup [vL a2, vI a3], [])) := by kernel_rfl
noncomputable def plcAF {R : Type} (fuel : Nat) (n : Int) (ws : List Int) (r0 : Int → Option R) (r1 : List Int → Int → Option R) : Option R :=
  (plcAF_s1 ws n (fun a1 => r0 a1) (fun a2 a3 => r1 a2 a3))
theorem plcAF_eq (fuel : Nat) (n : Int) (ws : List Int) : callN Tryd.prog mode3 T_plcColl fuel 26 [.agg [.s (.int .i64 n), .li .u64 ws]] [] = plcAF fuel n ws (fun z0 => some (.tup [.s (.slice none 0 0), .s (.int .i64 z0)], [])) (fun z0 z1 => some (.tup [.li .i64 z0, .s (.int .i64 z1)], [])) := by
  unfold plcAF
  exact (plcAF_s1_eq fuel  ws n)
def mode4 : FuncId → Nat := fun f => bif Nat.beq f 77 then 2 else bif Nat.beq f 125 then 2 else bif Nat.beq f 78 then 2 else bif Nat.beq f 26 then 2 else 0
/-! downpour/bitrow.Places -/
noncomputable def PlacesOwnF_s1 {R : Type} (ws : List Int) (n : Int) (c0 : Int → Option R) (c1 : Nat → Nat → Int → List Int → Option R) : Option R :=
  grd (okW ws) <|
  br (!(rtS n ws))
    (c0 1)
    (grd (okW ws && decide (ws.length ≤ 8) && decide (1 ≤ (plS ws).length)) <|
    c1 0 ((plS ws).length) 0 (plS ws))
theorem PlacesOwnF_s1_eq (fuel : Nat)  (ws : List Int) (n : Int) : callN Tryd.prog mode4 T_plcColl fuel 26 [.agg [vI n, vW ws]] [] = PlacesOwnF_s1 ws n (fun a1 => some (.tup [vN, vI a1], [])) (fun a2 a3 a4 a5 => some (.tup [.sl 0 1 a2 a3, vI a4], [bL 3 a5])) := by kernel_rfl
noncomputable def PlacesOwnF {R : Type} (fuel : Nat) (n : Int) (ws : List Int) (r0 : Int → Option R) (r1 : Nat → Nat → Int → List Int → Option R) : Option R :=
  (PlacesOwnF_s1 ws n (fun a1 => r0 a1) (fun a2 a3 a4 a5 => r1 a2 a3 a4 a5))
theorem PlacesOwnF_eq (fuel : Nat) (n : Int) (ws : List Int) : callN Tryd.prog mode4 T_plcColl fuel 26 [.agg [.s (.int .i64 n), .li .u64 ws]] [] = PlacesOwnF fuel n ws (fun z0 => some (.tup [.s (.slice none 0 0), .s (.int .i64 z0)], [])) (fun z0 z1 z2 z3 => some (.tup [.sl 0 1 z0 z1, .s (.int .i64 z2)], [some ⟨3, .li .i64 z3, true⟩])) := by
  unfold PlacesOwnF
  exact (PlacesOwnF_s1_eq fuel  ws n)
theorem rt_len {n : Int} {ws : List Int} (h : rtS n ws = true) : ws.length ≤ 8 := by
  obtain ⟨⟨_, h1⟩, h2, _⟩ := rtS_iff.1 h
  have := nw_le h1
  omega
theorem PlacesOwn_fact (n : Int) (ws : List Int) (hg : (okW ws && rtS n ws && decide (1 ≤ (plS ws).length)) = true) : Fact Tryd.prog gTab 26 [.agg [.s (.int .i64 n), .li .u64 ws]] [] (.tup [.sl 0 1 0 ((plS ws).length), .s (.int .i64 0)], [some ⟨3, .li .i64 (plS ws), true⟩]) := by
  simp only [Bool.and_eq_true, decide_eq_true_eq] at hg
  obtain ⟨⟨h1, h2⟩, h3⟩ := hg
  have hl := rt_len h2
  refine callN_fact hN hM T_plcColl_ok (n := 0) (mode := mode4) ?_
  rw [PlacesOwnF_eq]
  unfold PlacesOwnF PlacesOwnF_s1
  rw [grd_of h1, br_if, if_neg (by simp [h2]), grd_of (by simp [h1]; omega)]
noncomputable def PlacesOwn_ent : List V → List Blk → Option (Bool × Out)
  | [.agg [.s (.int .i64 n), w0]], [] => (asSl (.int .u64) w0).bind fun ws => some ((okW ws && rtS n ws && decide (1 ≤ (plS ws).length)), (.tup [.sl 0 1 0 ((plS ws).length), .s (.int .i64 0)], [some ⟨3, .li .i64 (plS ws), true⟩]))
  | _, _ => none
theorem PlacesOwn_ok : ∀ args bs out, PlacesOwn_ent args bs = some (true, out) → Fact Tryd.prog gTab 26 args bs out := by
  intro args bs out h
  unfold PlacesOwn_ent at h
  split at h
  · rename_i n w0
    obtain ⟨ws, h_ws, h⟩ := Option.bind_eq_some_iff.1 h
    simp only [Option.some.injEq, Prod.mk.injEq] at h
    obtain ⟨hg, rfl⟩ := h
    exact (PlacesOwn_fact n ws hg).args (fun _ _ _ => fun _ h => RVs_two (fun _ h => RV_agg_two (fun _ h => RVs_two (fun _ h => h) (fun _ h => RVs_two (fun _ h => RV_li h_ws h) (fun _ h => h) h) h) h) (fun _ h => h) h)
  · cases h
noncomputable def T_PlacesOwn : Tbl := Tbl.cons 26 PlacesOwn_ent T_plcColl
theorem T_PlacesOwn_ok : CallOk Tryd.prog gTab T_PlacesOwn := cons_ok T_plcColl_ok PlacesOwn_ok
def mode5 : FuncId → Nat := fun f => bif Nat.beq f 77 then 2 else bif Nat.beq f 125 then 2 else bif Nat.beq f 78 then 2 else 0
/-! slices.AppendSeq[[]int,int] -/
noncomputable abbrev qa10 : List (Nat × V) := [(2, .ptr 1 1 0 0), (4, vN), (6, .fn (.func 126) [] [.ptr 0 2 0 0])]
noncomputable abbrev qa11 : Code := (sub (bodyOf Tryd.prog 125) [1, 0, 1, 0, 0])
noncomputable abbrev qa12 : Code := (sub (bodyOf Tryd.prog 125) [1, 0, 1, 0, 1])
noncomputable abbrev qa13 (fuel : Nat) : Ctx Out := (fnX Tryd.prog mode5 T_PlacesOwn fuel 13 1)
noncomputable abbrev qa14 (n : Int) (ws : List Int) : Nat × Option Blk := (0, some ⟨44, .agg [vI n, vW ws], true⟩)
noncomputable abbrev qa15 : Code := (sub (bodyOf Tryd.prog 126) [1, 0, 0])
noncomputable abbrev qa16 : Nat × Option Blk := (1, some ⟨26, .agg [vN], true⟩)
noncomputable abbrev qa17 : List Nat := [0, 3, 4, 6, 7, 8, 9, 10, 11, 12]
noncomputable abbrev qa18 : Code := (sub qa15 [1, 1, 0, 0, 1, 0, 0])
noncomputable def plcApp0F_s4 {R : Type} (w0 : Int) (w1 : List Int) (w2 : Nat) (w3 : Int) (ws : List Int) (w4 : Int) (w5 : Bool) (e0 n : Int) (c0 : Int → Nat → List Int → Option R) (c1 : Int → Bool → Nat → List Int → Option R) : Option R :=
  br (w0 != 0)
    (grd (decide (1 ≤ w0) && decide (w0 < 18446744073709551616)) <|
    grd (Nat.beq w1.length w2) <|
    grd (okN (w2 + 1) 8) <|
    c0 (andI .u64 w0 (IntKind.u64.wrap (w0 - 1))) ((w1 ++ [(IntKind.i64.wrap ((IntKind.i64.wrap (w3 * 64)) + (tzS w0)))]).length) (w1 ++ [(IntKind.i64.wrap ((IntKind.i64.wrap (w3 * 64)) + (tzS w0)))]))
    (c1 w0 (w0 != 0) w2 w1)
theorem plcApp0F_s4_eq (fuel k : Nat) (K : Ex → St → Option Out) (w0 : Int) (w1 : List Int) (w2 : Nat) (w3 : Int) (ws : List Int) (w4 : Int) (w5 : Bool) (e0 n : Int) : lpN qa18 (itX Tryd.prog mode5 T_PlacesOwn fuel 3 28 3 2 (roundK (evC qa11) (evC qa12) (qa13 fuel) #[7] 3876 qa10)) 268435417 qa17 (k + 1) ⟨[(0, .yl 2), (3, vI w3), (4, vU w0), (6, vW ws), (7, vI w4), (8, vI w3), (9, vB w5), (10, vI w3), (11, .lp [vU e0] 0), (12, vU e0)], [(qa14 n ws), (1, some ⟨26, .agg [.sl 3 1 0 w2], true⟩), (2, none), (3, bL 3 w1)], 4, none⟩ K = plcApp0F_s4 w0 w1 w2 w3 ws w4 w5 e0 n (fun a0 a1 a2 => lpN qa18 (itX Tryd.prog mode5 T_PlacesOwn fuel 3 28 3 2 (roundK (evC qa11) (evC qa12) (qa13 fuel) #[7] 3876 qa10)) 268435417 qa17 k ⟨[(0, .yl 2), (3, vI w3), (4, vU a0), (6, vW ws), (7, vI w4), (8, vI w3), (9, vB w5), (10, vI w3), (11, .lp [vU e0] 0), (12, vU e0)], [(qa14 n ws), (1, some ⟨26, .agg [.sl 3 1 0 a1], true⟩), (2, none), (3, bL 3 a2)], 4, none⟩ K) (fun a3 a4 a5 a6 => K (.exit 2) ⟨[(0, .yl 2), (3, vI w3), (4, vU a3), (6, vW ws), (7, vI w4), (8, vI w3), (9, vB w5), (10, vI w3), (11, .lp [vU e0] 0), (12, vU e0), (13, vU a3), (14, vB a4)], [(qa14 n ws), (1, some ⟨26, .agg [.sl 3 1 0 a5], true⟩), (2, none), (3, bL 3 a6)], 4, none⟩) := by kernel_rfl
noncomputable def plcApp0F_l3 {R : Type} (fuel : Nat) (w0 : Int) (ws : List Int) (w1 : Int) (w2 : Bool) (e0 n : Int) (k0 : Int → Bool → Nat → List Int → Option R) : Nat → Int → Nat → List Int → Option R
  | 0, _, _, _ => none
  | k + 1, w3, w4, w5 =>
    (plcApp0F_s4 w3 w5 w4 w0 ws w1 w2 e0 n (fun a0 a1 a2 => ( plcApp0F_l3 fuel w0 ws w1 w2 e0 n k0 k a0 a1 a2 )) (fun a3 a4 a5 a6 => k0 a3 a4 a5 a6))
theorem plcApp0F_l3_eq (fuel : Nat) (w0 : Int) (ws : List Int) (w1 : Int) (w2 : Bool) (e0 n : Int) (K : Ex → St → Option Out) : ∀ (k : Nat) (w3 : Int) (w4 : Nat) (w5 : List Int), lpN qa18 (itX Tryd.prog mode5 T_PlacesOwn fuel 3 28 3 2 (roundK (evC qa11) (evC qa12) (qa13 fuel) #[7] 3876 qa10)) 268435417 qa17 k ⟨[(0, .yl 2), (3, vI w0), (4, vU w3), (6, vW ws), (7, vI w1), (8, vI w0), (9, vB w2), (10, vI w0), (11, .lp [vU e0] 0), (12, vU e0)], [(qa14 n ws), (1, some ⟨26, .agg [.sl 3 1 0 w4], true⟩), (2, none), (3, bL 3 w5)], 4, none⟩ K = plcApp0F_l3 fuel w0 ws w1 w2 e0 n (fun y0 y1 y2 y3 => K (.exit 2) ⟨[(0, .yl 2), (3, vI w0), (4, vU y0), (6, vW ws), (7, vI w1), (8, vI w0), (9, vB w2), (10, vI w0), (11, .lp [vU e0] 0), (12, vU e0), (13, vU y0), (14, vB y1)], [(qa14 n ws), (1, some ⟨26, .agg [.sl 3 1 0 y2], true⟩), (2, none), (3, bL 3 y3)], 4, none⟩) k w3 w4 w5
  | 0, _, _, _ => rfl
  | k + 1, w3, w4, w5 => by
    unfold plcApp0F_l3
    exact (plcApp0F_s4_eq fuel k K w3 w5 w4 w0 ws w1 w2 e0 n).trans (congr (congr (Eq.refl (plcApp0F_s4 (R := Out) w3 w5 w4 w0 ws w1 w2 e0 n)) (funext fun a0 => funext fun a1 => funext fun a2 => plcApp0F_l3_eq fuel w0 ws w1 w2 e0 n K k a0 a1 a2)) (rfl))
noncomputable def plcApp0F_s3 {R : Type} (e0 w0 : Int) (w1 : Bool) (ws : List Int) (w2 n : Int) (c0 : Int → Nat → List Int → Option R) (c1 : Bool → Bool → Option R) : Option R :=
  br (e0 != 0)
    (grd (decide (1 ≤ e0) && decide (e0 < 18446744073709551616)) <|
    c0 (andI .u64 e0 (IntKind.u64.wrap (e0 - 1))) 1 ([(IntKind.i64.wrap ((IntKind.i64.wrap (w0 * 64)) + (tzS e0)))]))
    (c1 w1 (e0 != 0))
theorem plcApp0F_s3_eq (fuel k : Nat) (K : Ex → St → Option Out) (e0 w0 : Int) (w1 : Bool) (ws : List Int) (w2 n : Int) : lpN qa18 (itX Tryd.prog mode5 T_PlacesOwn fuel 3 28 3 2 (roundK (evC qa11) (evC qa12) (qa13 fuel) #[7] 3876 qa10)) 268435417 qa17 (k + 1) ⟨[(0, .yl 2), (3, vI w0), (4, vU e0), (6, vW ws), (7, vI w2), (8, vI w0), (9, vB w1), (10, vI w0), (11, .lp [vU e0] 0), (12, vU e0)], [(qa14 n ws), qa16, (2, none)], 3, none⟩ K = plcApp0F_s3 e0 w0 w1 ws w2 n (fun a0 a1 a2 => lpN qa18 (itX Tryd.prog mode5 T_PlacesOwn fuel 3 28 3 2 (roundK (evC qa11) (evC qa12) (qa13 fuel) #[7] 3876 qa10)) 268435417 qa17 k ⟨[(0, .yl 2), (3, vI w0), (4, vU a0), (6, vW ws), (7, vI w2), (8, vI w0), (9, vB w1), (10, vI w0), (11, .lp [vU e0] 0), (12, vU e0)], [(qa14 n ws), (1, some ⟨26, .agg [.sl 3 1 0 a1], true⟩), (2, none), (3, bL 3 a2)], 4, none⟩ K) (fun a3 a4 => K (.exit 2) ⟨[(0, .yl 2), (3, vI w0), (4, vU e0), (6, vW ws), (7, vI w2), (8, vI w0), (9, vB a3), (10, vI w0), (11, .lp [vU e0] 0), (12, vU e0), (13, vU e0), (14, vB a4)], [(qa14 n ws), qa16, (2, none)], 3, none⟩) := by kernel_rfl
noncomputable def plcApp0F_l2 {R : Type} (fuel : Nat) (w0 e0 : Int) (ws : List Int) (w1 n : Int) (k0 : Int → Bool → Bool → Nat → List Int → Option R) (k1 : Bool → Bool → Option R) : Nat → Bool → Option R
  | 0, _ => none
  | k + 1, w2 =>
    (plcApp0F_s3 e0 w0 w2 ws w1 n (fun a0 a1 a2 => (plcApp0F_l3 fuel w0 ws w1 w2 e0 n (fun x0 x1 x2 x3 => k0 x0 w2 x1 x2 x3) k a0 a1 a2)) (fun a3 a4 => k1 a3 a4))
theorem plcApp0F_l2_eq (fuel : Nat) (w0 e0 : Int) (ws : List Int) (w1 n : Int) (K : Ex → St → Option Out) : ∀ (k : Nat) (w2 : Bool), lpN qa18 (itX Tryd.prog mode5 T_PlacesOwn fuel 3 28 3 2 (roundK (evC qa11) (evC qa12) (qa13 fuel) #[7] 3876 qa10)) 268435417 qa17 k ⟨[(0, .yl 2), (3, vI w0), (4, vU e0), (6, vW ws), (7, vI w1), (8, vI w0), (9, vB w2), (10, vI w0), (11, .lp [vU e0] 0), (12, vU e0)], [(qa14 n ws), qa16, (2, none)], 3, none⟩ K = plcApp0F_l2 fuel w0 e0 ws w1 n (fun y0 y1 y2 y3 y4 => K (.exit 2) ⟨[(0, .yl 2), (3, vI w0), (4, vU y0), (6, vW ws), (7, vI w1), (8, vI w0), (9, vB y1), (10, vI w0), (11, .lp [vU e0] 0), (12, vU e0), (13, vU y0), (14, vB y2)], [(qa14 n ws), (1, some ⟨26, .agg [.sl 3 1 0 y3], true⟩), (2, none), (3, bL 3 y4)], 4, none⟩) (fun y5 y6 => K (.exit 2) ⟨[(0, .yl 2), (3, vI w0), (4, vU e0), (6, vW ws), (7, vI w1), (8, vI w0), (9, vB y5), (10, vI w0), (11, .lp [vU e0] 0), (12, vU e0), (13, vU e0), (14, vB y6)], [(qa14 n ws), qa16, (2, none)], 3, none⟩) k w2
  | 0, _ => rfl
  | k + 1, w2 => by
    unfold plcApp0F_l2
    exact (plcApp0F_s3_eq fuel k K e0 w0 w2 ws w1 n).trans (congr (congr (Eq.refl (plcApp0F_s3 (R := Out) e0 w0 w2 ws w1 n)) (funext fun a0 => funext fun a1 => funext fun a2 => plcApp0F_l3_eq fuel w0 ws w1 w2 e0 n K k a0 a1 a2)) (rfl))
noncomputable def plcApp0F_s7 {R : Type} (w0 : Int) (w1 : List Int) (w2 : Nat) (w3 : Bool) (w4 : Int) (ws : List Int) (w5 e0 n : Int) (c0 : Int → Bool → Nat → List Int → Option R) (c1 : Int → Bool → Bool → Nat → List Int → Option R) : Option R :=
  br (w0 != 0)
    (grd (decide (1 ≤ w0) && decide (w0 < 18446744073709551616)) <|
    grd (Nat.beq w1.length w2) <|
    grd (okN (w2 + 1) 8) <|
    c0 (andI .u64 w0 (IntKind.u64.wrap (w0 - 1))) w3 ((w1 ++ [(IntKind.i64.wrap ((IntKind.i64.wrap (w4 * 64)) + (tzS w0)))]).length) (w1 ++ [(IntKind.i64.wrap ((IntKind.i64.wrap (w4 * 64)) + (tzS w0)))]))
    (c1 w0 w3 (w0 != 0) w2 w1)
theorem plcApp0F_s7_eq (fuel k : Nat) (K : Ex → St → Option Out) (w0 : Int) (w1 : List Int) (w2 : Nat) (w3 : Bool) (w4 : Int) (ws : List Int) (w5 e0 n : Int) : lpN qa18 (itX Tryd.prog mode5 T_PlacesOwn fuel 3 28 3 2 (roundK (evC qa11) (evC qa12) (qa13 fuel) #[7] 3876 qa10)) 268435417 qa17 (k + 1) ⟨[(0, .yl 2), (3, vI w4), (4, vU w0), (6, vW ws), (7, vI w5), (8, vI w4), (9, vB w3), (10, vI w4), (11, .lp [vU e0] 0), (12, vU e0)], [(qa14 n ws), (1, some ⟨26, .agg [.sl 3 1 0 w2], true⟩), (2, none), (3, bL 3 w1)], 4, none⟩ K = plcApp0F_s7 w0 w1 w2 w3 w4 ws w5 e0 n (fun a0 a1 a2 a3 => lpN qa18 (itX Tryd.prog mode5 T_PlacesOwn fuel 3 28 3 2 (roundK (evC qa11) (evC qa12) (qa13 fuel) #[7] 3876 qa10)) 268435417 qa17 k ⟨[(0, .yl 2), (3, vI w4), (4, vU a0), (6, vW ws), (7, vI w5), (8, vI w4), (9, vB a1), (10, vI w4), (11, .lp [vU e0] 0), (12, vU e0)], [(qa14 n ws), (1, some ⟨26, .agg [.sl 3 1 0 a2], true⟩), (2, none), (3, bL 3 a3)], 4, none⟩ K) (fun a4 a5 a6 a7 a8 => K (.exit 2) ⟨[(0, .yl 2), (3, vI w4), (4, vU a4), (6, vW ws), (7, vI w5), (8, vI w4), (9, vB a5), (10, vI w4), (11, .lp [vU e0] 0), (12, vU e0), (13, vU a4), (14, vB a6)], [(qa14 n ws), (1, some ⟨26, .agg [.sl 3 1 0 a7], true⟩), (2, none), (3, bL 3 a8)], 4, none⟩) := by kernel_rfl
noncomputable def plcApp0F_l5 {R : Type} (fuel : Nat) (w0 : Int) (ws : List Int) (w1 e0 n : Int) (k0 : Int → Bool → Bool → Nat → List Int → Option R) : Nat → Int → Bool → Nat → List Int → Option R
  | 0, _, _, _, _ => none
  | k + 1, w2, w3, w4, w5 =>
    (plcApp0F_s7 w2 w5 w4 w3 w0 ws w1 e0 n (fun a0 a1 a2 a3 => ( plcApp0F_l5 fuel w0 ws w1 e0 n k0 k a0 a1 a2 a3 )) (fun a4 a5 a6 a7 a8 => k0 a4 a5 a6 a7 a8))
theorem plcApp0F_l5_eq (fuel : Nat) (w0 : Int) (ws : List Int) (w1 e0 n : Int) (K : Ex → St → Option Out) : ∀ (k : Nat) (w2 : Int) (w3 : Bool) (w4 : Nat) (w5 : List Int), lpN qa18 (itX Tryd.prog mode5 T_PlacesOwn fuel 3 28 3 2 (roundK (evC qa11) (evC qa12) (qa13 fuel) #[7] 3876 qa10)) 268435417 qa17 k ⟨[(0, .yl 2), (3, vI w0), (4, vU w2), (6, vW ws), (7, vI w1), (8, vI w0), (9, vB w3), (10, vI w0), (11, .lp [vU e0] 0), (12, vU e0)], [(qa14 n ws), (1, some ⟨26, .agg [.sl 3 1 0 w4], true⟩), (2, none), (3, bL 3 w5)], 4, none⟩ K = plcApp0F_l5 fuel w0 ws w1 e0 n (fun y0 y1 y2 y3 y4 => K (.exit 2) ⟨[(0, .yl 2), (3, vI w0), (4, vU y0), (6, vW ws), (7, vI w1), (8, vI w0), (9, vB y1), (10, vI w0), (11, .lp [vU e0] 0), (12, vU e0), (13, vU y0), (14, vB y2)], [(qa14 n ws), (1, some ⟨26, .agg [.sl 3 1 0 y3], true⟩), (2, none), (3, bL 3 y4)], 4, none⟩) k w2 w3 w4 w5
  | 0, _, _, _, _ => rfl
  | k + 1, w2, w3, w4, w5 => by
    unfold plcApp0F_l5
    exact (plcApp0F_s7_eq fuel k K w2 w5 w4 w3 w0 ws w1 e0 n).trans (congr (congr (Eq.refl (plcApp0F_s7 (R := Out) w2 w5 w4 w3 w0 ws w1 e0 n)) (funext fun a0 => funext fun a1 => funext fun a2 => funext fun a3 => plcApp0F_l5_eq fuel w0 ws w1 e0 n K k a0 a1 a2 a3)) (rfl))
noncomputable def plcApp0F_s8 {R : Type} (w0 : Int) (x0 : Nat) (x1 : List Int) (x2 : Int) (ws : List Int) (w1 : Int) (x3 : Bool) (e0 : Int) (x4 : Bool) (n : Int) (c0 : Int → Nat → List Int → Option R) : Option R :=
  c0 (IntKind.i64.wrap (w0 + 1)) x0 x1
theorem plcApp0F_s8_eq (fuel k : Nat) (K : Ex → St → Option Out) (w0 : Int) (x0 : Nat) (x1 : List Int) (x2 : Int) (ws : List Int) (w1 : Int) (x3 : Bool) (e0 : Int) (x4 : Bool) (n : Int) : (kont (itX Tryd.prog mode5 T_PlacesOwn fuel 3 28 3 2 (roundK (evC qa11) (evC qa12) (qa13 fuel) #[7] 3876 qa10)) qa15 [1, 1, 0, 0, 1, 0] 268435417 (rdK qa15 (itX Tryd.prog mode5 T_PlacesOwn fuel 3 28 3 2 (roundK (evC qa11) (evC qa12) (qa13 fuel) #[7] 3876 qa10)) 0 [0, 6, 7, 8] k K)) (.exit 2) ⟨[(0, .yl 2), (3, vI w0), (4, vU x2), (6, vW ws), (7, vI w1), (8, vI w0), (9, vB x3), (10, vI w0), (11, .lp [vU e0] 0), (12, vU e0), (13, vU x2), (14, vB x4)], [(qa14 n ws), (1, some ⟨26, .agg [.sl 3 1 0 x0], true⟩), (2, none), (3, bL 3 x1)], 4, none⟩ = plcApp0F_s8 w0 x0 x1 x2 ws w1 x3 e0 x4 n (fun a0 a1 a2 => lpN qa15 (itX Tryd.prog mode5 T_PlacesOwn fuel 3 28 3 2 (roundK (evC qa11) (evC qa12) (qa13 fuel) #[7] 3876 qa10)) 0 [0, 6, 7, 8] k ⟨[(0, .yl 2), (6, vW ws), (7, vI w1), (8, vI a0)], [(qa14 n ws), (1, some ⟨26, .agg [.sl 3 1 0 a1], true⟩), (2, none), (3, bL 3 a2)], 4, none⟩ K) := by kernel_rfl
noncomputable def plcApp0F_s6 {R : Type} (w0 w1 : Int) (ws : List Int) (w2 : Nat) (w3 : List Int) (n : Int) (c0 : Int → Bool → Nat → List Int → Int → Option R) (c1 : Nat → List Int → Option R) : Option R :=
  br (decide (w0 < w1))
    (bnd (ix ws w0) fun e0 =>
    c0 e0 (decide (w0 < w1)) w2 w3 e0)
    (c1 w2 w3)
theorem plcApp0F_s6_eq (fuel k : Nat) (K : Ex → St → Option Out) (w0 w1 : Int) (ws : List Int) (w2 : Nat) (w3 : List Int) (n : Int) : lpN qa15 (itX Tryd.prog mode5 T_PlacesOwn fuel 3 28 3 2 (roundK (evC qa11) (evC qa12) (qa13 fuel) #[7] 3876 qa10)) 0 [0, 6, 7, 8] (k + 1) ⟨[(0, .yl 2), (6, vW ws), (7, vI w1), (8, vI w0)], [(qa14 n ws), (1, some ⟨26, .agg [.sl 3 1 0 w2], true⟩), (2, none), (3, bL 3 w3)], 4, none⟩ K = plcApp0F_s6 w0 w1 ws w2 w3 n (fun a0 a1 a2 a3 e0 => lpN qa18 (itX Tryd.prog mode5 T_PlacesOwn fuel 3 28 3 2 (roundK (evC qa11) (evC qa12) (qa13 fuel) #[7] 3876 qa10)) 268435417 qa17 fuel ⟨[(0, .yl 2), (3, vI w0), (4, vU a0), (6, vW ws), (7, vI w1), (8, vI w0), (9, vB a1), (10, vI w0), (11, .lp [vU e0] 0), (12, vU e0)], [(qa14 n ws), (1, some ⟨26, .agg [.sl 3 1 0 a2], true⟩), (2, none), (3, bL 3 a3)], 4, none⟩ (kont (itX Tryd.prog mode5 T_PlacesOwn fuel 3 28 3 2 (roundK (evC qa11) (evC qa12) (qa13 fuel) #[7] 3876 qa10)) qa15 [1, 1, 0, 0, 1, 0] 268435417 (rdK qa15 (itX Tryd.prog mode5 T_PlacesOwn fuel 3 28 3 2 (roundK (evC qa11) (evC qa12) (qa13 fuel) #[7] 3876 qa10)) 0 [0, 6, 7, 8] k K))) (fun a4 a5 => K (.exit 0) ⟨[], [(qa14 n ws), (1, some ⟨26, .agg [.sl 3 1 0 a4], true⟩), (2, none), (3, bL 3 a5)], 4, none⟩) := by kernel_rfl
noncomputable def plcApp0F_l4 {R : Type} (fuel : Nat) (ws : List Int) (w0 n : Int) (k0 : Nat → List Int → Option R) : Nat → Int → Nat → List Int → Option R
  | 0, _, _, _ => none
  | k + 1, w1, w2, w3 =>
    (plcApp0F_s6 w1 w0 ws w2 w3 n (fun a0 a1 a2 a3 e0 => (plcApp0F_l5 fuel w1 ws w0 e0 n (fun x0 x1 x2 x3 x4 => (plcApp0F_s8 w1 x3 x4 x0 ws w0 x1 e0 x2 n (fun a4 a5 a6 => ( plcApp0F_l4 fuel ws w0 n k0 k a4 a5 a6 )))) fuel a0 a1 a2 a3)) (fun a7 a8 => k0 a7 a8))
theorem plcApp0F_l4_eq (fuel : Nat) (ws : List Int) (w0 n : Int) (K : Ex → St → Option Out) : ∀ (k : Nat) (w1 : Int) (w2 : Nat) (w3 : List Int), lpN qa15 (itX Tryd.prog mode5 T_PlacesOwn fuel 3 28 3 2 (roundK (evC qa11) (evC qa12) (qa13 fuel) #[7] 3876 qa10)) 0 [0, 6, 7, 8] k ⟨[(0, .yl 2), (6, vW ws), (7, vI w0), (8, vI w1)], [(qa14 n ws), (1, some ⟨26, .agg [.sl 3 1 0 w2], true⟩), (2, none), (3, bL 3 w3)], 4, none⟩ K = plcApp0F_l4 fuel ws w0 n (fun y0 y1 => K (.exit 0) ⟨[], [(qa14 n ws), (1, some ⟨26, .agg [.sl 3 1 0 y0], true⟩), (2, none), (3, bL 3 y1)], 4, none⟩) k w1 w2 w3
  | 0, _, _, _ => rfl
  | k + 1, w1, w2, w3 => by
    unfold plcApp0F_l4
    exact (plcApp0F_s6_eq fuel k K w1 w0 ws w2 w3 n).trans (congr (congr (Eq.refl (plcApp0F_s6 (R := Out) w1 w0 ws w2 w3 n)) (funext fun a0 => funext fun a1 => funext fun a2 => funext fun a3 => funext fun e0 => (plcApp0F_l5_eq fuel w1 ws w0 e0 n (kont (itX Tryd.prog mode5 T_PlacesOwn fuel 3 28 3 2 (roundK (evC qa11) (evC qa12) (qa13 fuel) #[7] 3876 qa10)) qa15 [1, 1, 0, 0, 1, 0] 268435417 (rdK qa15 (itX Tryd.prog mode5 T_PlacesOwn fuel 3 28 3 2 (roundK (evC qa11) (evC qa12) (qa13 fuel) #[7] 3876 qa10)) 0 [0, 6, 7, 8] k K)) fuel a0 a1 a2 a3).trans (congrFun (congrFun (congrFun (congrFun (congrFun (congr (Eq.refl (plcApp0F_l5 (R := Out) fuel w1 ws w0 e0 n)) (funext fun x0 => funext fun x1 => funext fun x2 => funext fun x3 => funext fun x4 => (plcApp0F_s8_eq fuel k K w1 x3 x4 x0 ws w0 x1 e0 x2 n).trans (congr (Eq.refl (plcApp0F_s8 (R := Out) w1 x3 x4 x0 ws w0 x1 e0 x2 n)) (funext fun a4 => funext fun a5 => funext fun a6 => plcApp0F_l4_eq fuel ws w0 n K k a4 a5 a6)))) fuel) a0) a1) a2) a3))) (rfl))
noncomputable def plcApp0F_s5 {R : Type} (w0 : Int) (x0 : Nat) (x1 : List Int) (x2 : Int) (ws : List Int) (w1 : Int) (x3 : Bool) (e0 : Int) (x4 : Bool) (n : Int) (c0 : Int → Nat → List Int → Option R) : Option R :=
  c0 (IntKind.i64.wrap (w0 + 1)) x0 x1
theorem plcApp0F_s5_eq (fuel k : Nat) (K : Ex → St → Option Out) (w0 : Int) (x0 : Nat) (x1 : List Int) (x2 : Int) (ws : List Int) (w1 : Int) (x3 : Bool) (e0 : Int) (x4 : Bool) (n : Int) : (kont (itX Tryd.prog mode5 T_PlacesOwn fuel 3 28 3 2 (roundK (evC qa11) (evC qa12) (qa13 fuel) #[7] 3876 qa10)) qa15 [1, 1, 0, 0, 1, 0] 268435417 (rdK qa15 (itX Tryd.prog mode5 T_PlacesOwn fuel 3 28 3 2 (roundK (evC qa11) (evC qa12) (qa13 fuel) #[7] 3876 qa10)) 0 [0, 6, 7, 8] k K)) (.exit 2) ⟨[(0, .yl 2), (3, vI w0), (4, vU x2), (6, vW ws), (7, vI w1), (8, vI w0), (9, vB x3), (10, vI w0), (11, .lp [vU e0] 0), (12, vU e0), (13, vU x2), (14, vB x4)], [(qa14 n ws), (1, some ⟨26, .agg [.sl 3 1 0 x0], true⟩), (2, none), (3, bL 3 x1)], 4, none⟩ = plcApp0F_s5 w0 x0 x1 x2 ws w1 x3 e0 x4 n (fun a0 a1 a2 => lpN qa15 (itX Tryd.prog mode5 T_PlacesOwn fuel 3 28 3 2 (roundK (evC qa11) (evC qa12) (qa13 fuel) #[7] 3876 qa10)) 0 [0, 6, 7, 8] k ⟨[(0, .yl 2), (6, vW ws), (7, vI w1), (8, vI a0)], [(qa14 n ws), (1, some ⟨26, .agg [.sl 3 1 0 a1], true⟩), (2, none), (3, bL 3 a2)], 4, none⟩ K) := by kernel_rfl
noncomputable def plcApp0F_s9 {R : Type} (w0 w1 e0 : Int) (ws : List Int) (x0 x1 : Bool) (n : Int) (c0 : Int → Int → Option R) : Option R :=
  c0 w0 (IntKind.i64.wrap (w1 + 1))
theorem plcApp0F_s9_eq (fuel k : Nat) (K : Ex → St → Option Out) (w0 w1 e0 : Int) (ws : List Int) (x0 x1 : Bool) (n : Int) : (kont (itX Tryd.prog mode5 T_PlacesOwn fuel 3 28 3 2 (roundK (evC qa11) (evC qa12) (qa13 fuel) #[7] 3876 qa10)) qa15 [1, 1, 0, 0, 1, 0] 268435417 (rdK qa15 (itX Tryd.prog mode5 T_PlacesOwn fuel 3 28 3 2 (roundK (evC qa11) (evC qa12) (qa13 fuel) #[7] 3876 qa10)) 0 [0, 6, 7, 8] k K)) (.exit 2) ⟨[(0, .yl 2), (3, vI w1), (4, vU e0), (6, vW ws), (7, vI w0), (8, vI w1), (9, vB x0), (10, vI w1), (11, .lp [vU e0] 0), (12, vU e0), (13, vU e0), (14, vB x1)], [(qa14 n ws), qa16, (2, none)], 3, none⟩ = plcApp0F_s9 w0 w1 e0 ws x0 x1 n (fun a0 a1 => lpN qa15 (itX Tryd.prog mode5 T_PlacesOwn fuel 3 28 3 2 (roundK (evC qa11) (evC qa12) (qa13 fuel) #[7] 3876 qa10)) 0 [0, 6, 7, 8] k ⟨[(0, .yl 2), (6, vW ws), (7, vI a0), (8, vI a1)], [(qa14 n ws), qa16, (2, none)], 3, none⟩ K) := by kernel_rfl
noncomputable def plcApp0F_s2 {R : Type} (w0 w1 : Int) (ws : List Int) (n : Int) (c0 : Bool → Int → Option R) (c1 : Option R) : Option R :=
  br (decide (w0 < w1))
    (bnd (ix ws w0) fun e0 =>
    c0 (decide (w0 < w1)) e0)
    (c1)
theorem plcApp0F_s2_eq (fuel k : Nat) (K : Ex → St → Option Out) (w0 w1 : Int) (ws : List Int) (n : Int) : lpN qa15 (itX Tryd.prog mode5 T_PlacesOwn fuel 3 28 3 2 (roundK (evC qa11) (evC qa12) (qa13 fuel) #[7] 3876 qa10)) 0 [0, 6, 7, 8] (k + 1) ⟨[(0, .yl 2), (6, vW ws), (7, vI w1), (8, vI w0)], [(qa14 n ws), qa16, (2, none)], 3, none⟩ K = plcApp0F_s2 w0 w1 ws n (fun a0 e0 => lpN qa18 (itX Tryd.prog mode5 T_PlacesOwn fuel 3 28 3 2 (roundK (evC qa11) (evC qa12) (qa13 fuel) #[7] 3876 qa10)) 268435417 qa17 fuel ⟨[(0, .yl 2), (3, vI w0), (4, vU e0), (6, vW ws), (7, vI w1), (8, vI w0), (9, vB a0), (10, vI w0), (11, .lp [vU e0] 0), (12, vU e0)], [(qa14 n ws), qa16, (2, none)], 3, none⟩ (kont (itX Tryd.prog mode5 T_PlacesOwn fuel 3 28 3 2 (roundK (evC qa11) (evC qa12) (qa13 fuel) #[7] 3876 qa10)) qa15 [1, 1, 0, 0, 1, 0] 268435417 (rdK qa15 (itX Tryd.prog mode5 T_PlacesOwn fuel 3 28 3 2 (roundK (evC qa11) (evC qa12) (qa13 fuel) #[7] 3876 qa10)) 0 [0, 6, 7, 8] k K))) (K (.exit 0) ⟨[], [(qa14 n ws), qa16, (2, none)], 3, none⟩) := by kernel_rfl
noncomputable def plcApp0F_l1 {R : Type} (fuel : Nat) (ws : List Int) (n : Int) (k0 : Nat → List Int → Option R) (k1 : Option R) : Nat → Int → Int → Option R
  | 0, _, _ => none
  | k + 1, w0, w1 =>
    (plcApp0F_s2 w1 w0 ws n (fun a0 e0 => (plcApp0F_l2 fuel w1 e0 ws w0 n (fun x0 x1 x2 x3 x4 => (plcApp0F_s5 w1 x3 x4 x0 ws w0 x1 e0 x2 n (fun a1 a2 a3 => (plcApp0F_l4 fuel ws w0 n (fun x5 x6 => k0 x5 x6) k a1 a2 a3)))) (fun x7 x8 => (plcApp0F_s9 w0 w1 e0 ws x7 x8 n (fun a4 a5 => ( plcApp0F_l1 fuel ws n k0 k1 k a4 a5 )))) fuel a0)) (k1))
theorem plcApp0F_l1_eq (fuel : Nat) (ws : List Int) (n : Int) (K : Ex → St → Option Out) : ∀ (k : Nat) (w0 w1 : Int), lpN qa15 (itX Tryd.prog mode5 T_PlacesOwn fuel 3 28 3 2 (roundK (evC qa11) (evC qa12) (qa13 fuel) #[7] 3876 qa10)) 0 [0, 6, 7, 8] k ⟨[(0, .yl 2), (6, vW ws), (7, vI w0), (8, vI w1)], [(qa14 n ws), qa16, (2, none)], 3, none⟩ K = plcApp0F_l1 fuel ws n (fun y0 y1 => K (.exit 0) ⟨[], [(qa14 n ws), (1, some ⟨26, .agg [.sl 3 1 0 y0], true⟩), (2, none), (3, bL 3 y1)], 4, none⟩) (K (.exit 0) ⟨[], [(qa14 n ws), qa16, (2, none)], 3, none⟩) k w0 w1
  | 0, _, _ => rfl
  | k + 1, w0, w1 => by
    unfold plcApp0F_l1
    exact (plcApp0F_s2_eq fuel k K w1 w0 ws n).trans (congr (congr (Eq.refl (plcApp0F_s2 (R := Out) w1 w0 ws n)) (funext fun a0 => funext fun e0 => (plcApp0F_l2_eq fuel w1 e0 ws w0 n (kont (itX Tryd.prog mode5 T_PlacesOwn fuel 3 28 3 2 (roundK (evC qa11) (evC qa12) (qa13 fuel) #[7] 3876 qa10)) qa15 [1, 1, 0, 0, 1, 0] 268435417 (rdK qa15 (itX Tryd.prog mode5 T_PlacesOwn fuel 3 28 3 2 (roundK (evC qa11) (evC qa12) (qa13 fuel) #[7] 3876 qa10)) 0 [0, 6, 7, 8] k K)) fuel a0).trans (congrFun (congrFun (congr (congr (Eq.refl (plcApp0F_l2 (R := Out) fuel w1 e0 ws w0 n)) (funext fun x0 => funext fun x1 => funext fun x2 => funext fun x3 => funext fun x4 => (plcApp0F_s5_eq fuel k K w1 x3 x4 x0 ws w0 x1 e0 x2 n).trans (congr (Eq.refl (plcApp0F_s5 (R := Out) w1 x3 x4 x0 ws w0 x1 e0 x2 n)) (funext fun a1 => funext fun a2 => funext fun a3 => plcApp0F_l4_eq fuel ws w0 n K k a1 a2 a3)))) (funext fun x5 => funext fun x6 => (plcApp0F_s9_eq fuel k K w0 w1 e0 ws x5 x6 n).trans (congr (Eq.refl (plcApp0F_s9 (R := Out) w0 w1 e0 ws x5 x6 n)) (funext fun a4 => funext fun a5 => plcApp0F_l1_eq fuel ws n K k a4 a5)))) fuel) a0))) (rfl))
noncomputable def plcApp0F_s10 {R : Type} (x0 : Nat) (n : Int) (ws x1 : List Int) (c0 : Nat → Nat → Int → List Int → List Int → Option R) : Option R :=
  c0 0 x0 n ws x1
theorem plcApp0F_s10_eq (fuel : Nat)  (x0 : Nat) (n : Int) (ws x1 : List Int) : (kont (itX Tryd.prog mode5 T_PlacesOwn fuel 3 28 3 2 (roundK (evC qa11) (evC qa12) (qa13 fuel) #[7] 3876 qa10)) (bodyOf Tryd.prog 126) [1, 0] 0 (itE (behind ⟨qa10, [(qa14 n ws), qa16], 2, none⟩ (kont (qa13 fuel) (bodyOf Tryd.prog 125) [1, 0, 1, 0] 16 (endK Tryd.prog 2 1 125))))) (.exit 0) ⟨[], [(qa14 n ws), (1, some ⟨26, .agg [.sl 3 1 0 x0], true⟩), (2, none), (3, bL 3 x1)], 4, none⟩ = plcApp0F_s10 x0 n ws x1 (fun a0 a1 a2 a3 a4 => some (.sl 1 1 a0 a1, [some ⟨44, .agg [vI a2, vW a3], true⟩, bL 3 a4])) := by kernel_rfl
noncomputable def plcApp0F_s11 {R : Type} (n : Int) (ws : List Int) (c0 : Int → List Int → Option R) : Option R :=
  c0 n ws
theorem plcApp0F_s11_eq (fuel : Nat)  (n : Int) (ws : List Int) : (kont (itX Tryd.prog mode5 T_PlacesOwn fuel 3 28 3 2 (roundK (evC qa11) (evC qa12) (qa13 fuel) #[7] 3876 qa10)) (bodyOf Tryd.prog 126) [1, 0] 0 (itE (behind ⟨qa10, [(qa14 n ws), qa16], 2, none⟩ (kont (qa13 fuel) (bodyOf Tryd.prog 125) [1, 0, 1, 0] 16 (endK Tryd.prog 2 1 125))))) (.exit 0) ⟨[], [(qa14 n ws), qa16, (2, none)], 3, none⟩ = plcApp0F_s11 n ws (fun a0 a1 => some (vN, [some ⟨44, .agg [vI a0, vW a1], true⟩])) := by kernel_rfl
noncomputable def plcApp0F_s1 {R : Type} (ws : List Int) (n : Int) (c0 : Int → Int → Option R) : Option R :=
  c0 ((ws.length : Nat) : Int) 0
theorem plcApp0F_s1_eq (fuel : Nat)  (ws : List Int) (n : Int) : callN Tryd.prog mode5 T_PlacesOwn fuel 125 [vN, .fn (.func 126) [] [.ptr 0 2 0 0]] [⟨44, .agg [vI n, vW ws], true⟩] = plcApp0F_s1 ws n (fun a0 a1 => lpN qa15 (itX Tryd.prog mode5 T_PlacesOwn fuel 3 28 3 2 (roundK (evC qa11) (evC qa12) (qa13 fuel) #[7] 3876 qa10)) 0 [0, 6, 7, 8] fuel ⟨[(0, .yl 2), (6, vW ws), (7, vI a0), (8, vI a1)], [(qa14 n ws), qa16, (2, none)], 3, none⟩ (kont (itX Tryd.prog mode5 T_PlacesOwn fuel 3 28 3 2 (roundK (evC qa11) (evC qa12) (qa13 fuel) #[7] 3876 qa10)) (bodyOf Tryd.prog 126) [1, 0] 0 (itE (behind ⟨qa10, [(qa14 n ws), qa16], 2, none⟩ (kont (qa13 fuel) (bodyOf Tryd.prog 125) [1, 0, 1, 0] 16 (endK Tryd.prog 2 1 125)))))) := by kernel_rfl
noncomputable def plcApp0F {R : Type} (fuel : Nat) (n : Int) (ws : List Int) (r0 : Nat → Nat → Int → List Int → List Int → Option R) (r1 : Int → List Int → Option R) : Option R :=
  (plcApp0F_s1 ws n (fun a0 a1 => (plcApp0F_l1 fuel ws n (fun x0 x1 => (plcApp0F_s10 x0 n ws x1 (fun a2 a3 a4 a5 a6 => r0 a2 a3 a4 a5 a6))) ((plcApp0F_s11 n ws (fun a7 a8 => r1 a7 a8))) fuel a0 a1)))
theorem plcApp0F_eq (fuel : Nat) (n : Int) (ws : List Int) : callN Tryd.prog mode5 T_PlacesOwn fuel 125 [.s (.slice none 0 0), .fn (.func 126) [] [.ptr 0 2 0 0]] [⟨44, .agg [.s (.int .i64 n), .li .u64 ws], true⟩] = plcApp0F fuel n ws (fun z0 z1 z2 z3 z4 => some (.sl 1 1 z0 z1, [some ⟨44, .agg [.s (.int .i64 z2), .li .u64 z3], true⟩, some ⟨3, .li .i64 z4, true⟩])) (fun z0 z1 => some (.s (.slice none 0 0), [some ⟨44, .agg [.s (.int .i64 z0), .li .u64 z1], true⟩])) := by
  unfold plcApp0F
  exact (plcApp0F_s1_eq fuel  ws n).trans (congr (Eq.refl (plcApp0F_s1 (R := Out) ws n)) (funext fun a0 => funext fun a1 => (plcApp0F_l1_eq fuel ws n (kont (itX Tryd.prog mode5 T_PlacesOwn fuel 3 28 3 2 (roundK (evC qa11) (evC qa12) (qa13 fuel) #[7] 3876 qa10)) (bodyOf Tryd.prog 126) [1, 0] 0 (itE (behind ⟨qa10, [(qa14 n ws), qa16], 2, none⟩ (kont (qa13 fuel) (bodyOf Tryd.prog 125) [1, 0, 1, 0] 16 (endK Tryd.prog 2 1 125))))) fuel a0 a1).trans (congrFun (congrFun (congrFun (congr (congr (Eq.refl (plcApp0F_l1 (R := Out) fuel ws n)) (funext fun x0 => funext fun x1 => (plcApp0F_s10_eq fuel  x0 n ws x1))) ((plcApp0F_s11_eq fuel  n ws))) fuel) a0) a1)))
theorem plcApp0_first {R : Type} (fuel : Nat) (hf : 66 ≤ fuel) (ws : List Int) (hok : Ok ws) (hl : ws.length ≤ 8) (n : Int) (k0 : Nat → List Int → Option R) (k1 : Option R) : ∀ (k i : Nat), i ≤ ws.length → ws.length < i + k → wordsFrom ws (ws.length - i) i = [] →
    plcApp0F_l1 fuel ws n k0 k1 k (ws.length : Int) (i : Int) = k1
  | 0, i, h1, h2, h3 => by omega
  | k + 1, i, h1, h2, h3 => by
    unfold plcApp0F_l1 plcApp0F_s2
    rw [br_if]
    by_cases hc : i < ws.length
    · obtain ⟨hg, hlt⟩ := word_get hok hc
      rw [if_pos (by simpa using hc), bnd_of hg]
      dsimp only
      obtain ⟨f, rfl⟩ : ∃ f, fuel = f + 1 := ⟨fuel - 1, by omega⟩
      unfold plcApp0F_l2 plcApp0F_s3
      dsimp only
      rw [show ws.length - i = (ws.length - (i + 1)) + 1 by omega, wordsFrom, List.append_eq_nil_iff] at h3
      rw [br_if]
      have hw1 : IntKind.i64.wrap ((i : Int) + 1) = ((i + 1 : Nat) : Int) := by rw [wrap_i64 (by omega) (by omega)]; omega
      by_cases h0 : (ws.getD i 0).toNat = 0
      · rw [h0, if_neg (by decide)]
        unfold plcApp0F_s9
        rw [hw1]
        exact plcApp0_first (f + 1) hf ws hok hl n k0 k1 k (i + 1) (by omega) (by omega) h3.2
      · have hs := bitsAt_step (k := i) h0 hlt
        rw [hs] at h3
        exact absurd h3.1 (by simp)
    · rw [if_neg (by simpa using hc)]
theorem plcApp0_fact (n : Int) (ws : List Int) (hg : (okW ws && decide (ws.length ≤ 8) && decide ((plS ws).length = 0)) = true) : Fact Tryd.prog gTab 125 [.s (.slice none 0 0), .fn (.func 126) [] [.ptr 0 2 0 0]] [⟨44, .agg [.s (.int .i64 n), .li .u64 ws], true⟩] (.s (.slice none 0 0), [some ⟨44, .agg [.s (.int .i64 n), .li .u64 ws], true⟩]) := by
  simp only [Bool.and_eq_true, decide_eq_true_eq] at hg
  obtain ⟨⟨h1, h2⟩, h3⟩ := hg
  refine callN_fact hN hM T_PlacesOwn_ok (n := 100) (mode := mode5) ?_
  rw [plcApp0F_eq]
  unfold plcApp0F plcApp0F_s1
  have e : wordsFrom ws (ws.length - 0) 0 = [] := by rw [plS_eq] at h3; exact List.eq_nil_of_length_eq_zero h3
  have h := fun k0 k1 => plcApp0_first (R := Out) 100 (by omega) ws (okW_iff.1 h1) h2 n k0 k1 100 0 (by omega) (by omega) e
  rw [Int.natCast_zero] at h
  dsimp only
  rw [h]
  rfl
noncomputable def plcApp0_ent : List V → List Blk → Option (Bool × Out)
  | [.s (.slice none 0 0), .fn (.func 126) [] [.ptr 0 2 0 0]], [⟨44, .agg [.s (.int .i64 n), .li .u64 ws], true⟩] => some ((okW ws && decide (ws.length ≤ 8) && decide ((plS ws).length = 0)), (.s (.slice none 0 0), [some ⟨44, .agg [.s (.int .i64 n), .li .u64 ws], true⟩]))
  | _, _ => none
theorem plcApp0_ok : ∀ args bs out, plcApp0_ent args bs = some (true, out) → Fact Tryd.prog gTab 125 args bs out := by
  intro args bs out h
  unfold plcApp0_ent at h
  split at h
  · rename_i n ws
    simp only [Option.some.injEq, Prod.mk.injEq] at h
    obtain ⟨hg, rfl⟩ := h
    exact plcApp0_fact n ws hg
  · cases h
noncomputable def T_plcApp0 : Tbl := Tbl.cons 125 plcApp0_ent T_PlacesOwn
theorem T_plcApp0_ok : CallOk Tryd.prog gTab T_plcApp0 := cons_ok T_PlacesOwn_ok plcApp0_ok
/-! slices.Collect[int] -/
noncomputable def plcColl0F_s1 {R : Type} (ws : List Int) (n : Int) (c0 : Int → List Int → Option R) : Option R :=
  grd (okW ws && decide (ws.length ≤ 8) && decide ((plS ws).length = 0)) <|
  c0 n ws
theorem plcColl0F_s1_eq (fuel : Nat)  (ws : List Int) (n : Int) : callN Tryd.prog mode5 T_plcApp0 fuel 77 [.fn (.func 126) [] [.ptr 0 2 0 0]] [⟨44, .agg [vI n, vW ws], true⟩] = plcColl0F_s1 ws n (fun a1 a2 => some (vN, [some ⟨44, .agg [vI a1, vW a2], true⟩])) := by kernel_rfl
noncomputable def plcColl0F {R : Type} (fuel : Nat) (n : Int) (ws : List Int) (r0 : Int → List Int → Option R) : Option R :=
  (plcColl0F_s1 ws n (fun a1 a2 => r0 a1 a2))
theorem plcColl0F_eq (fuel : Nat) (n : Int) (ws : List Int) : callN Tryd.prog mode5 T_plcApp0 fuel 77 [.fn (.func 126) [] [.ptr 0 2 0 0]] [⟨44, .agg [.s (.int .i64 n), .li .u64 ws], true⟩] = plcColl0F fuel n ws (fun z0 z1 => some (.s (.slice none 0 0), [some ⟨44, .agg [.s (.int .i64 z0), .li .u64 z1], true⟩])) := by
  unfold plcColl0F
  exact (plcColl0F_s1_eq fuel  ws n)
theorem plcColl0_fact (n : Int) (ws : List Int) (hg : (okW ws && decide (ws.length ≤ 8) && decide ((plS ws).length = 0)) = true) : Fact Tryd.prog gTab 77 [.fn (.func 126) [] [.ptr 0 2 0 0]] [⟨44, .agg [.s (.int .i64 n), .li .u64 ws], true⟩] (.s (.slice none 0 0), [some ⟨44, .agg [.s (.int .i64 n), .li .u64 ws], true⟩]) := by
  refine callN_fact hN hM T_plcApp0_ok (n := 0) (mode := mode5) ?_
  rw [plcColl0F_eq]
  unfold plcColl0F plcColl0F_s1
  rw [grd_of hg]
noncomputable def plcColl0_ent : List V → List Blk → Option (Bool × Out)
  | [.fn (.func 126) [] [.ptr 0 2 0 0]], [⟨44, .agg [.s (.int .i64 n), .li .u64 ws], true⟩] => some ((okW ws && decide (ws.length ≤ 8) && decide ((plS ws).length = 0)), (.s (.slice none 0 0), [some ⟨44, .agg [.s (.int .i64 n), .li .u64 ws], true⟩]))
  | _, _ => none
theorem plcColl0_ok : ∀ args bs out, plcColl0_ent args bs = some (true, out) → Fact Tryd.prog gTab 77 args bs out := by
  intro args bs out h
  unfold plcColl0_ent at h
  split at h
  · rename_i n ws
    simp only [Option.some.injEq, Prod.mk.injEq] at h
    obtain ⟨hg, rfl⟩ := h
    exact plcColl0_fact n ws hg
  · cases h
noncomputable def T_plcColl0 : Tbl := Tbl.cons 77 plcColl0_ent T_plcApp0
theorem T_plcColl0_ok : CallOk Tryd.prog gTab T_plcColl0 := cons_ok T_plcApp0_ok plcColl0_ok
/-! downpour/bitrow.Places -/
noncomputable def PlacesF_s1 {R : Type} (ws : List Int) (n : Int) (c0 : Int → Option R) : Option R :=
  grd (okW ws) <|
  br (!(rtS n ws))
    (c0 1)
    (grd (okW ws && decide (ws.length ≤ 8) && decide ((plS ws).length = 0)) <|
    c0 0)
theorem PlacesF_s1_eq (fuel : Nat)  (ws : List Int) (n : Int) : callN Tryd.prog mode5 T_plcColl0 fuel 26 [.agg [vI n, vW ws]] [] = PlacesF_s1 ws n (fun a1 => some (.tup [vN, vI a1], [])) := by kernel_rfl
noncomputable def PlacesF {R : Type} (fuel : Nat) (n : Int) (ws : List Int) (r0 : Int → Option R) : Option R :=
  (PlacesF_s1 ws n (fun a1 => r0 a1))
theorem PlacesF_eq (fuel : Nat) (n : Int) (ws : List Int) : callN Tryd.prog mode5 T_plcColl0 fuel 26 [.agg [.s (.int .i64 n), .li .u64 ws]] [] = PlacesF fuel n ws (fun z0 => some (.tup [.s (.slice none 0 0), .s (.int .i64 z0)], [])) := by
  unfold PlacesF
  exact (PlacesF_s1_eq fuel  ws n)
theorem Places_fact (n : Int) (ws : List Int) (hg : (okW ws) = true) : Fact Tryd.prog gTab 26 [.agg [.s (.int .i64 n), .li .u64 ws]] [] (.tup [.li .i64 (plcS n ws), .s (.int .i64 (if rtS n ws = true then 0 else 1))], []) := by
  rw [plcS_eq]
  unfold plcI
  have hnil : ∀ e : Int, Fact Tryd.prog gTab 26 [.agg [.s (.int .i64 n), .li .u64 ws]] [] (.tup [.s (.slice none 0 0), .s (.int .i64 e)], []) → Fact Tryd.prog gTab 26 [.agg [.s (.int .i64 n), .li .u64 ws]] [] (.tup [.li .i64 [], .s (.int .i64 e)], []) := fun e h =>
    h.out fun _ _ _ x h => RV_tup_two (fun _ h => RVs_two (fun _ h => RV_nil_li h) (fun _ h => h) h) h
  by_cases hr : rtS n ws = true
  · have hl := rt_len hr
    rw [if_pos hr, if_pos hr]
    by_cases h0 : (plS ws).length = 0
    · rw [List.eq_nil_of_length_eq_zero h0]
      refine hnil 0 ?_
      refine callN_fact hN hM T_plcColl0_ok (n := 0) (mode := mode5) ?_
      rw [PlacesF_eq]
      unfold PlacesF PlacesF_s1
      rw [grd_of hg, br_if, if_neg (by simp [hr]), grd_of (by simp [hg, h0]; omega)]
    · refine callN_fact hN hM T_plcColl_ok (n := 0) (mode := mode3) ?_
      rw [plcAF_eq]
      unfold plcAF plcAF_s1
      rw [grd_of hg, br_if, if_neg (by simp [hr]), grd_of (by simp [hg]; omega)]
      dsimp only
      rw [List.drop_zero, List.take_length]
  · rw [if_neg hr, if_neg hr]
    refine hnil 1 ?_
    refine callN_fact hN hM T_plcColl0_ok (n := 0) (mode := mode5) ?_
    rw [PlacesF_eq]
    unfold PlacesF PlacesF_s1
    rw [grd_of hg, br_if, if_pos (by simp [hr])]
noncomputable def Places_ent : List V → List Blk → Option (Bool × Out)
  | [.agg [.s (.int .i64 n), w0]], [] => (asSl (.int .u64) w0).bind fun ws => some ((okW ws), (.tup [.li .i64 (plcS n ws), .s (.int .i64 (if rtS n ws = true then 0 else 1))], []))
  | _, _ => none
theorem Places_ok : ∀ args bs out, Places_ent args bs = some (true, out) → Fact Tryd.prog gTab 26 args bs out := by
  intro args bs out h
  unfold Places_ent at h
  split at h
  · rename_i n w0
    obtain ⟨ws, h_ws, h⟩ := Option.bind_eq_some_iff.1 h
    simp only [Option.some.injEq, Prod.mk.injEq] at h
    obtain ⟨hg, rfl⟩ := h
    exact (Places_fact n ws hg).args (fun _ _ _ => fun _ h => RVs_two (fun _ h => RV_agg_two (fun _ h => RVs_two (fun _ h => h) (fun _ h => RVs_two (fun _ h => RV_li h_ws h) (fun _ h => h) h) h) h) (fun _ h => h) h)
  · cases h
noncomputable def T_Places : Tbl := Tbl.cons 26 Places_ent T_plcColl0
theorem T_Places_ok : CallOk Tryd.prog gTab T_Places := cons_ok T_plcColl0_ok Places_ok
def mode6 : FuncId → Nat := fun f => bif Nat.beq f 161 then 2 else 0
/-! Counts, the other's bits, first places. -/
def popI (x : Int) : Int := ((Pop.cnt 64 x.toNat : Nat) : Int)
noncomputable def popS : Int → Int := Classical.choose (⟨popI, rfl⟩ : ∃ f, f = popI)
theorem popS_eq : popS = popI := Classical.choose_spec (⟨popI, rfl⟩ : ∃ f, f = popI)
noncomputable def xorEI (n : Int) (a : List Int) (m : Int) (b : List Int) : Int := if rtS n a = true ∧ rtS m b = true then (if n = m then 0 else 2) else 1
noncomputable def xorE : Int → List Int → Int → List Int → Int := Classical.choose (⟨xorEI, rfl⟩ : ∃ f, f = xorEI)
theorem xorE_eq : xorE = xorEI := Classical.choose_spec (⟨xorEI, rfl⟩ : ∃ f, f = xorEI)
noncomputable def xorNI (n : Int) (a : List Int) (m : Int) (b : List Int) : Int := if xorE n a m b = 0 then n else 0
noncomputable def xorN : Int → List Int → Int → List Int → Int := Classical.choose (⟨xorNI, rfl⟩ : ∃ f, f = xorNI)
theorem xorN_eq : xorN = xorNI := Classical.choose_spec (⟨xorNI, rfl⟩ : ∃ f, f = xorNI)
noncomputable def xorWI (n : Int) (a : List Int) (m : Int) (b : List Int) : List Int := if xorE n a m b = 0 then a.zipWith (fun x y => xorI .u64 x y) b else []
noncomputable def xorW : Int → List Int → Int → List Int → List Int := Classical.choose (⟨xorWI, rfl⟩ : ∃ f, f = xorWI)
theorem xorW_eq : xorW = xorWI := Classical.choose_spec (⟨xorWI, rfl⟩ : ∃ f, f = xorWI)
noncomputable def fstI (n : Int) (ws : List Int) : Int := if rtS n ws = true then (plS ws).headD 0 else 0
noncomputable def fstS : Int → List Int → Int := Classical.choose (⟨fstI, rfl⟩ : ∃ f, f = fstI)
theorem fstS_eq : fstS = fstI := Classical.choose_spec (⟨fstI, rfl⟩ : ∃ f, f = fstI)
noncomputable def fstEI (n : Int) (ws : List Int) : Int := if rtS n ws = true then (if (plS ws).length = 0 then 4 else 0) else 1
noncomputable def fstE : Int → List Int → Int := Classical.choose (⟨fstEI, rfl⟩ : ∃ f, f = fstEI)
theorem fstE_eq : fstE = fstEI := Classical.choose_spec (⟨fstEI, rfl⟩ : ∃ f, f = fstEI)
def plcRI (n : Int) (ws : List Int) : List Int := plc (val ws) n.toNat
noncomputable def plcR : Int → List Int → List Int := Classical.choose (⟨plcRI, rfl⟩ : ∃ f, f = plcRI)
theorem plcR_eq : plcR = plcRI := Classical.choose_spec (⟨plcRI, rfl⟩ : ∃ f, f = plcRI)
theorem plc_length (v n : Nat) : (plc v n).length = Pop.cnt n v := by
  induction n with
  | zero => simp [plc, Pop.cnt]
  | succ n ih =>
    rw [plc_succ, List.length_append, ih, Pop.cnt_snoc]
    by_cases h : v.testBit n = true
    · rw [if_pos h, if_pos h]; rfl
    · rw [if_neg h, if_neg h]; rfl
theorem plc_head {v n : Nat} (h : plc v n ≠ []) : 0 ≤ (plc v n).headD 0 ∧ (plc v n).headD 0 < (n : Int) := by
  cases hl : plc v n with
  | nil => exact absurd hl h
  | cons x t =>
    obtain ⟨i, h1, h2, rfl⟩ := (mem_plc v n x).1 (by rw [hl]; exact List.mem_cons_self)
    show (0 : Int) ≤ (i : Int) ∧ (i : Int) < (n : Int)
    omega
theorem pl_val {n : Int} {ws : List Int} (hok : okW ws = true) (h : rtS n ws = true) : plS ws = plcR n ws := by rw [pl_plc hok h, plcR_eq]; rfl
theorem rt_lens {n : Int} {ws : List Int} (h : rtS n ws = true) : ws.length = nw n := (rtS_iff.1 h).2.1
theorem rt_le {n : Int} {ws : List Int} (h : rtS n ws = true) : ws.length ≤ 8 := by rw [rt_lens h]; exact nw_le (rtS_iff.1 h).1.2
theorem rt_lt {n : Int} {ws : List Int} (h : rtS n ws = true) : val ws < 2 ^ n.toNat := (rtS_iff.1 h).2.2
theorem zw_getD {a b : List Int} (hl : a.length = b.length) {j : Nat} (hj : j < a.length) : (a.zipWith (fun x y => xorI .u64 x y) b).getD j 0 = xorI .u64 (a.getD j 0) (b.getD j 0) := by
  rw [List.getD_eq_getElem?_getD, List.getElem?_zipWith, List.getElem?_eq_getElem hj, List.getElem?_eq_getElem (by omega), List.getD_eq_getElem?_getD, List.getD_eq_getElem?_getD, List.getElem?_eq_getElem hj, List.getElem?_eq_getElem (by omega)]
  rfl
theorem xorE_ok {n m : Int} {a b : List Int} (h : rtS n a = true) (g : rtS m b = true) (e : n = m) : xorE n a m b = 0 := by rw [xorE_eq]; unfold xorEI; rw [if_pos ⟨h, g⟩, if_pos e]
/-- The xor of two rows that may be. -/
theorem xor_val {n m : Int} {a b : List Int} (ha : okW a = true) (hb : okW b = true) (h : rtS n a = true) (g : rtS m b = true) (e : n = m) : Ok (xorW n a m b) ∧ val (xorW n a m b) = val a ^^^ val b ∧ (xorW n a m b).length = nw n := by
  have hl : a.length = b.length := by rw [rt_lens h, rt_lens g, e]
  have hz : (a.zipWith (fun x y => xorI .u64 x y) b).length = a.length := by rw [List.length_zipWith]; omega
  rw [xorW_eq]; unfold xorWI
  rw [if_pos (xorE_ok h g e)]
  have := val_zip (f := fun x y => x ^^^ y) (g := fun x y => x ^^ y) (fun x y i => Nat.testBit_xor ..) (fun x y hx hy => Nat.xor_lt_two_pow hx hy) rfl (okW_iff.1 ha) (okW_iff.1 hb) hl _ hz (fun j hj => by
    rw [zw_getD hl hj]
    have h1 := (okW_iff.1 ha).getD j
    have h2 := (okW_iff.1 hb).getD j
    exact xorI_nat h1.1 h1.2 h2.1 h2.2)
  exact ⟨this.1, this.2, by rw [hz]; exact rt_lens h⟩
theorem xor_rt {n m : Int} {a b : List Int} (ha : okW a = true) (hb : okW b = true) (h : rtS n a = true) (g : rtS m b = true) (e : n = m) : okW (xorW n a m b) = true ∧ rtS n (xorW n a m b) = true ∧ xorN n a m b = n := by
  obtain ⟨h1, h2, h3⟩ := xor_val ha hb h g e
  subst e
  refine ⟨okW_iff.2 h1, rtS_iff.2 ⟨(rtS_iff.1 h).1, h3, ?_⟩, ?_⟩
  · rw [h2]; exact Nat.xor_lt_two_pow (rt_lt h) (rt_lt g)
  · rw [xorN_eq]; unfold xorNI; rw [if_pos (xorE_ok h g rfl)]
def mode7 : FuncId → Nat := fun f => bif Nat.beq f 78 then 2 else 0
def mode8 : FuncId → Nat := fun f => 0
/-! downpour/downpourref01.Places -/
noncomputable abbrev qa19 (fuel : Nat) : Ctx Out := (fnX Tryd.prog mode8 T_Places fuel 21 0)
noncomputable abbrev qa20 : Code := (sub (bodyOf Tryd.prog 115) [1, 1, 0, 1, 0, 0])
noncomputable def refPlacesF_s2 {R : Type} (w2 n : Int) (ws w3 : List Int) (w1 : Nat) (c0 c1 : Nat → Int → List Int → Option R) (c2 : Nat → List Int → Option R) : Option R :=
  br (decide (w2 < n))
    (grd (okW ws && decide (0 ≤ w2) && decide (w2 < 64 * (ws.length : Int)) && decide (ws.length ≤ 1000000)) <|
    br (((bitS ws w2) : Int) == 1)
      (grd (Nat.beq w3.length w1) <|
      grd (okN (w1 + 1) 8) <|
      c0 ((w3 ++ [w2]).length) (IntKind.i64.wrap (w2 + 1)) (w3 ++ [w2]))
      (c1 w1 (IntKind.i64.wrap (w2 + 1)) w3))
    (c2 w1 w3)
theorem refPlacesF_s2_eq (fuel k : Nat) (K : Ex → St → Option Out) (w2 n : Int) (ws w3 : List Int) (w1 : Nat) : lpN qa20 (qa19 fuel) 1048588 [1, 2, 3, 4] (k + 1) ⟨[(1, .ptr 0 2 0 0), (2, vN), (3, .sl 1 1 0 w1), (4, vI w2)], [(0, some ⟨44, .agg [vI n, vW ws], true⟩), (1, bL 3 w3)], 2, none⟩ K = refPlacesF_s2 w2 n ws w3 w1 (fun a6 a7 a8 => lpN qa20 (qa19 fuel) 1048588 [1, 2, 3, 4] k ⟨[(1, .ptr 0 2 0 0), (2, vN), (3, .sl 1 1 0 a6), (4, vI a7)], [(0, some ⟨44, .agg [vI n, vW ws], true⟩), (1, bL 3 a8)], 2, none⟩ K) (fun a9 a0 a1 => lpN qa20 (qa19 fuel) 1048588 [1, 2, 3, 4] k ⟨[(1, .ptr 0 2 0 0), (2, vN), (3, .sl 1 1 0 a9), (4, vI a0)], [(0, some ⟨44, .agg [vI n, vW ws], true⟩), (1, bL 3 a1)], 2, none⟩ K) (fun a2 a3 => K (.exit 0) ⟨[(2, vN), (3, .sl 0 1 0 a2)], [(0, bL 3 a3)], 1, none⟩) := by kernel_rfl
noncomputable def refPlacesF_l1 {R : Type} (fuel : Nat) (n : Int) (ws : List Int) (k0 : Nat → List Int → Option R) : Nat → Nat → Int → List Int → Option R
  | 0, _, _, _ => none
  | k + 1, w1, w2, w3 =>
    (refPlacesF_s2 w2 n ws w3 w1 (fun a6 a7 a8 => ( refPlacesF_l1 fuel n ws k0 k a6 a7 a8 )) (fun a9 a0 a1 => ( refPlacesF_l1 fuel n ws k0 k a9 a0 a1 )) (fun a2 a3 => k0 a2 a3))
theorem refPlacesF_l1_eq (fuel : Nat) (n : Int) (ws : List Int) (K : Ex → St → Option Out) : ∀ (k w1 : Nat) (w2 : Int) (w3 : List Int), lpN qa20 (qa19 fuel) 1048588 [1, 2, 3, 4] k ⟨[(1, .ptr 0 2 0 0), (2, vN), (3, .sl 1 1 0 w1), (4, vI w2)], [(0, some ⟨44, .agg [vI n, vW ws], true⟩), (1, bL 3 w3)], 2, none⟩ K = refPlacesF_l1 fuel n ws (fun y4 y5 => K (.exit 0) ⟨[(2, vN), (3, .sl 0 1 0 y4)], [(0, bL 3 y5)], 1, none⟩) k w1 w2 w3
  | 0, _, _, _ => rfl
  | k + 1, w1, w2, w3 => by
    unfold refPlacesF_l1
    exact (refPlacesF_s2_eq fuel k K w2 n ws w3 w1).trans (congr (congr (congr (Eq.refl (refPlacesF_s2 (R := Out) w2 n ws w3 w1)) (funext fun a6 => funext fun a7 => funext fun a8 => refPlacesF_l1_eq fuel n ws K k a6 a7 a8)) (funext fun a9 => funext fun a0 => funext fun a1 => refPlacesF_l1_eq fuel n ws K k a9 a0 a1)) (rfl))
noncomputable def refPlacesF_s3 {R : Type} (x0 : List Int) (x1 : Nat) (c0 : List Int → Option R) : Option R :=
  c0 ((x0.drop 0).take x1)
theorem refPlacesF_s3_eq (fuel : Nat)  (x0 : List Int) (x1 : Nat) : (kont (qa19 fuel) (bodyOf Tryd.prog 115) [1, 1, 0, 1, 0] 4 (endK Tryd.prog 0 0 115)) (.exit 0) ⟨[(2, vN), (3, .sl 0 1 0 x1)], [(0, bL 3 x0)], 1, none⟩ = refPlacesF_s3 x0 x1 (fun a0 => some (vL a0, [])) := by kernel_rfl
noncomputable def refPlacesF_s1 {R : Type} (n : Int) (ws : List Int) (c0 : Nat → Int → List Int → Option R) : Option R :=
  c0 0 0 ([])
theorem refPlacesF_s1_eq (fuel : Nat)  (n : Int) (ws : List Int) : callN Tryd.prog mode8 T_Places fuel 115 [.agg [vI n, vW ws]] [] = refPlacesF_s1 n ws (fun a0 a1 a2 => lpN qa20 (qa19 fuel) 1048588 [1, 2, 3, 4] fuel ⟨[(1, .ptr 0 2 0 0), (2, vN), (3, .sl 1 1 0 a0), (4, vI a1)], [(0, some ⟨44, .agg [vI n, vW ws], true⟩), (1, bL 3 a2)], 2, none⟩ (kont (qa19 fuel) (bodyOf Tryd.prog 115) [1, 1, 0, 1, 0] 4 (endK Tryd.prog 0 0 115))) := by kernel_rfl
noncomputable def refPlacesF {R : Type} (fuel : Nat) (n : Int) (ws : List Int) (r0 : List Int → Option R) : Option R :=
  (refPlacesF_s1 n ws (fun a0 a1 a2 => (refPlacesF_l1 fuel n ws (fun x0 x1 => (refPlacesF_s3 x1 x0 (fun a3 => r0 a3))) fuel a0 a1 a2)))
theorem refPlacesF_eq (fuel : Nat) (n : Int) (ws : List Int) : callN Tryd.prog mode8 T_Places fuel 115 [.agg [.s (.int .i64 n), .li .u64 ws]] [] = refPlacesF fuel n ws (fun z0 => some (.li .i64 z0, [])) := by
  unfold refPlacesF
  exact (refPlacesF_s1_eq fuel  n ws).trans (congr (Eq.refl (refPlacesF_s1 (R := Out) n ws)) (funext fun a0 => funext fun a1 => funext fun a2 => (refPlacesF_l1_eq fuel n ws (kont (qa19 fuel) (bodyOf Tryd.prog 115) [1, 1, 0, 1, 0] 4 (endK Tryd.prog 0 0 115)) fuel a0 a1 a2).trans (congrFun (congrFun (congrFun (congrFun (congr (Eq.refl (refPlacesF_l1 (R := Out) fuel n ws)) (funext fun x0 => funext fun x1 => (refPlacesF_s3_eq fuel  x1 x0))) fuel) a0) a1) a2)))
theorem refPlaces_loop {R : Type} (fuel m : Nat) (ws : List Int) (hok : okW ws = true) (hm : m ≤ 64 * ws.length) (hx : ws.length ≤ 1000) (k0 : Nat → List Int → Option R) : ∀ (k j : Nat), j ≤ m → m < j + k → refPlacesF_l1 fuel (m : Int) ws k0 k (plc (val ws) j).length (j : Int) (plc (val ws) j) = k0 (plc (val ws) m).length (plc (val ws) m)
  | 0, j, h1, h2 => by omega
  | k + 1, j, h1, h2 => by
    unfold refPlacesF_l1 refPlacesF_s2
    rw [br_if]
    by_cases hc : j < m
    · have hl : (plc (val ws) j).length ≤ j := by rw [plc_length]; exact Pop.cnt_le _ _
      have ih := refPlaces_loop fuel m ws hok hm hx k0 k (j + 1) (by omega) (by omega)
      rw [plc_succ] at ih
      rw [if_pos (by simpa using hc), grd_of (by rw [hok]; simp; omega), br_if, bitS_eq, wrap_i64 (by omega) (by omega), show (j : Int) + 1 = ((j + 1 : Nat) : Int) by omega]
      unfold bitI
      rw [Int.toNat_natCast]
      by_cases hb : (val ws).testBit j = true
      · rw [if_pos hb] at ih
        rw [if_pos hb, if_pos (by decide), grd_of (beq_self _), grd_of (okN_of (by omega) (by omega))]
        exact ih
      · rw [if_neg hb, List.append_nil] at ih
        rw [if_neg hb, if_neg (by decide)]
        exact ih
    · have e : j = m := by omega
      subst e
      rw [if_neg (by simp)]
theorem refPlaces_fact (n : Int) (ws : List Int) (hg : (okW ws && decide (n ≤ 64 * (ws.length : Int)) && decide (ws.length ≤ 1000)) = true) : Fact Tryd.prog gTab 115 [.agg [.s (.int .i64 n), .li .u64 ws]] [] (.li .i64 (plcR n ws), []) := by
  simp only [Bool.and_eq_true, decide_eq_true_eq] at hg
  obtain ⟨⟨hok, hm⟩, hx⟩ := hg
  rw [plcR_eq]
  unfold plcRI
  by_cases h0 : 0 ≤ n
  · obtain ⟨j, rfl⟩ : ∃ j : Nat, n = (j : Int) := ⟨n.toNat, by omega⟩
    refine callN_fact hN hM T_Places_ok (n := j + 1) (mode := mode8) ?_
    rw [refPlacesF_eq]
    unfold refPlacesF refPlacesF_s1
    dsimp only
    have := refPlaces_loop (R := Out) (j + 1) j ws hok (by omega) hx
    refine (this _ (j + 1) 0 (by omega) (by omega)).trans ?_
    unfold refPlacesF_s3
    rw [List.drop_zero, List.take_length, Int.toNat_natCast]
  · rw [show n.toNat = 0 by omega]
    refine callN_fact hN hM T_Places_ok (n := 1) (mode := mode8) ?_
    rw [refPlacesF_eq]
    unfold refPlacesF refPlacesF_s1 refPlacesF_l1 refPlacesF_s2
    dsimp only
    rw [br_if, if_neg (by simp; omega)]
    rfl
noncomputable def refPlaces_ent : List V → List Blk → Option (Bool × Out)
  | [.agg [.s (.int .i64 n), w0]], [] => (asSl (.int .u64) w0).bind fun ws => some ((okW ws && decide (n ≤ 64 * (ws.length : Int)) && decide (ws.length ≤ 1000)), (.li .i64 (plcR n ws), []))
  | _, _ => none
theorem refPlaces_ok : ∀ args bs out, refPlaces_ent args bs = some (true, out) → Fact Tryd.prog gTab 115 args bs out := by
  intro args bs out h
  unfold refPlaces_ent at h
  split at h
  · rename_i n w0
    obtain ⟨ws, h_ws, h⟩ := Option.bind_eq_some_iff.1 h
    simp only [Option.some.injEq, Prod.mk.injEq] at h
    obtain ⟨hg, rfl⟩ := h
    exact (refPlaces_fact n ws hg).args (fun _ _ _ => fun _ h => RVs_two (fun _ h => RV_agg_two (fun _ h => RVs_two (fun _ h => h) (fun _ h => RVs_two (fun _ h => RV_li h_ws h) (fun _ h => h) h) h) h) (fun _ h => h) h)
  · cases h
noncomputable def T_refPlaces : Tbl := Tbl.cons 115 refPlaces_ent T_Places
theorem T_refPlaces_ok : CallOk Tryd.prog gTab T_refPlaces := cons_ok T_Places_ok refPlaces_ok
/-! Matrices that may be. -/
abbrev Rw := Int × List Int
noncomputable def okMI (m : List Rw) : Bool := m.all fun r => okW r.2
noncomputable def okM : List Rw → Bool := Classical.choose (⟨okMI, rfl⟩ : ∃ f, f = okMI)
theorem okM_eq : okM = okMI := Classical.choose_spec (⟨okMI, rfl⟩ : ∃ f, f = okMI)
theorem okM_iff {m : List Rw} : okM m = true ↔ ∀ r, r ∈ m → okW r.2 = true := by rw [okM_eq]; unfold okMI; simp
noncomputable def badI (n z : Int) (ws : List Int) : Bool := decide (z ≠ n) || !(rtS z ws)
noncomputable def badR : Int → Int → List Int → Bool := Classical.choose (⟨badI, rfl⟩ : ∃ f, f = badI)
theorem badR_eq : badR = badI := Classical.choose_spec (⟨badI, rfl⟩ : ∃ f, f = badI)
noncomputable def badFrom (n : Int) : List Rw → Int → Int
  | [], _ => -1
  | r :: t, j => if badR n r.1 r.2 = true then j else badFrom n t (j + 1)
noncomputable def badAtI (n : Int) (m : List Rw) : Int := badFrom n m 0
noncomputable def badAt : Int → List Rw → Int := Classical.choose (⟨badAtI, rfl⟩ : ∃ f, f = badAtI)
theorem badAt_eq : badAt = badAtI := Classical.choose_spec (⟨badAtI, rfl⟩ : ∃ f, f = badAtI)
noncomputable def mrtI (n : Int) (m : List Rw) : Bool := decide (0 ≤ n) && decide (n ≤ 64) && decide (m.length ≤ 64) && m.all fun r => !(badR n r.1 r.2)
noncomputable def mrt : Int → List Rw → Bool := Classical.choose (⟨mrtI, rfl⟩ : ∃ f, f = mrtI)
theorem mrt_eq : mrt = mrtI := Classical.choose_spec (⟨mrtI, rfl⟩ : ∃ f, f = mrtI)
theorem badR_iff {n z : Int} {ws : List Int} : badR n z ws = false ↔ z = n ∧ rtS z ws = true := by rw [badR_eq]; unfold badI; simp
theorem mrt_iff {n : Int} {m : List Rw} : mrt n m = true ↔ (0 ≤ n ∧ n ≤ 64) ∧ m.length ≤ 64 ∧ ∀ r, r ∈ m → r.1 = n ∧ rtS r.1 r.2 = true := by
  rw [mrt_eq]; unfold mrtI
  simp only [Bool.and_eq_true, decide_eq_true_eq, List.all_eq_true, Bool.not_eq_true', badR_iff, and_assoc]
theorem badFrom_iff (n : Int) : ∀ (t : List Rw) (j : Int), 0 ≤ j → (0 ≤ badFrom n t j ↔ ∃ r, r ∈ t ∧ badR n r.1 r.2 = true) ∧ (badFrom n t j < 0 → badFrom n t j = -1)
  | [], j, h => by simp [badFrom]
  | r :: t, j, h => by
    have ih := badFrom_iff n t (j + 1) (by omega)
    rw [badFrom]
    by_cases hb : badR n r.1 r.2 = true
    · rw [if_pos hb]; exact ⟨⟨fun _ => ⟨r, List.mem_cons_self, hb⟩, fun _ => h⟩, fun g => by omega⟩
    · rw [if_neg hb]
      refine ⟨ih.1.trans ⟨fun ⟨x, h1, h2⟩ => ⟨x, List.mem_cons_of_mem _ h1, h2⟩, fun ⟨x, h1, h2⟩ => ?_⟩, ih.2⟩
      rcases List.mem_cons.1 h1 with rfl | h1
      · exact absurd h2 hb
      · exact ⟨x, h1, h2⟩
def mode9 : FuncId → Nat := fun f => bif Nat.beq f 155 then 2 else bif Nat.beq f 109 then 2 else bif Nat.beq f 110 then 2 else 0
/-! downpour/matrix.sized -/
noncomputable def msizedF_s1 {R : Type} (z : Int) (c0 : Bool → Option R) : Option R :=
  br (decide (z ≥ 0))
    (c0 (decide (z ≤ 64)))
    (c0 false)
theorem msizedF_s1_eq (fuel : Nat)  (z : Int) : callN Tryd.prog mode9 T_refPlaces fuel 108 [vI z] [] = msizedF_s1 z (fun a1 => some (vB a1, [])) := by kernel_rfl
noncomputable def msizedF {R : Type} (fuel : Nat) (z : Int) (r0 : Bool → Option R) : Option R :=
  (msizedF_s1 z (fun a1 => r0 a1))
theorem msizedF_eq (fuel : Nat) (z : Int) : callN Tryd.prog mode9 T_refPlaces fuel 108 [.s (.int .i64 z)] [] = msizedF fuel z (fun z0 => some (.s (.bool z0), [])) := by
  unfold msizedF
  exact (msizedF_s1_eq fuel  z)
theorem msized_fact (z : Int) : Fact Tryd.prog gTab 108 [.s (.int .i64 z)] [] (.s (.bool (decide (0 ≤ z) && decide (z ≤ 64))), []) := by
  refine callN_fact hN hM T_refPlaces_ok (n := 0) (mode := mode9) ?_
  rw [msizedF_eq]
  unfold msizedF msizedF_s1
  rw [br_if]
  by_cases h : z ≥ 0
  · rw [if_pos (by simpa using h), decide_eq_true h, Bool.true_and]
  · rw [if_neg (by simpa using h), decide_eq_false h, Bool.false_and]
noncomputable def msized_ent : List V → List Blk → Option (Bool × Out)
  | [.s (.int .i64 z)], [] => some (true, (.s (.bool (decide (0 ≤ z) && decide (z ≤ 64))), []))
  | _, _ => none
theorem msized_ok : ∀ args bs out, msized_ent args bs = some (true, out) → Fact Tryd.prog gTab 108 args bs out := by
  intro args bs out h
  unfold msized_ent at h
  split at h
  · rename_i z
    simp only [Option.some.injEq, Prod.mk.injEq] at h
    obtain ⟨_, rfl⟩ := h
    exact msized_fact z
  · cases h
noncomputable def T_msized : Tbl := Tbl.cons 108 msized_ent T_refPlaces
theorem T_msized_ok : CallOk Tryd.prog gTab T_msized := cons_ok T_refPlaces_ok msized_ok
/-! downpour/matrix.Right$1 -/
noncomputable def right1F_s1 {R : Type} (z n : Int) (m : List (Int × List Int)) (ws : List Int) (c0 : Bool → Int → (List (Int × List Int)) → Option R) : Option R :=
  br (z != n)
    (c0 true n m)
    (grd (okW ws) <|
    c0 (!(rtS z ws)) n m)
theorem right1F_s1_eq (fuel : Nat)  (z n : Int) (m : List (Int × List Int)) (ws : List Int) : callN Tryd.prog mode9 T_msized fuel 110 [.agg [vI z, vW ws], .ptr 0 2 0 0] [⟨24, .agg [vI n, vR m], true⟩] = right1F_s1 z n m ws (fun a1 a2 a3 => some (vB a1, [some ⟨24, .agg [vI a2, vR a3], true⟩])) := by kernel_rfl
noncomputable def right1F {R : Type} (fuel : Nat) (z : Int) (ws : List Int) (n : Int) (m : List (Int × List Int)) (r0 : Bool → Int → (List (Int × List Int)) → Option R) : Option R :=
  (right1F_s1 z n m ws (fun a1 a2 a3 => r0 a1 a2 a3))
theorem right1F_eq (fuel : Nat) (z : Int) (ws : List Int) (n : Int) (m : List (Int × List Int)) : callN Tryd.prog mode9 T_msized fuel 110 [.agg [.s (.int .i64 z), .li .u64 ws], .ptr 0 2 0 0] [⟨24, .agg [.s (.int .i64 n), .lt (.pair (.int .i64) (.sl (.int .u64))) m], true⟩] = right1F fuel z ws n m (fun z0 z1 z2 => some (.s (.bool z0), [some ⟨24, .agg [.s (.int .i64 z1), .lt (.pair (.int .i64) (.sl (.int .u64))) z2], true⟩])) := by
  unfold right1F
  exact (right1F_s1_eq fuel  z n m ws)
theorem right1_fact (z : Int) (ws : List Int) (n : Int) (m : List (Int × List Int)) (hg : (okW ws) = true) : Fact Tryd.prog gTab 110 [.agg [.s (.int .i64 z), .li .u64 ws], .ptr 0 2 0 0] [⟨24, .agg [.s (.int .i64 n), .lt (.pair (.int .i64) (.sl (.int .u64))) m], true⟩] (.s (.bool (badR n z ws)), [some ⟨24, .agg [.s (.int .i64 n), .lt (.pair (.int .i64) (.sl (.int .u64))) m], true⟩]) := by
  refine callN_fact hN hM T_msized_ok (n := 0) (mode := mode9) ?_
  rw [right1F_eq]
  unfold right1F right1F_s1
  rw [br_if, badR_eq]
  unfold badI
  by_cases h : z = n
  · rw [if_neg (by simp [h]), grd_of hg, decide_eq_false (by simp [h]), Bool.false_or]
  · rw [if_pos (by simp [h]), decide_eq_true h, Bool.true_or]
noncomputable def right1_ent : List V → List Blk → Option (Bool × Out)
  | [.agg [.s (.int .i64 z), w0], .ptr 0 2 0 0], [⟨24, .agg [.s (.int .i64 n), .lt (.pair (.int .i64) (.sl (.int .u64))) m], true⟩] => (asSl (.int .u64) w0).bind fun ws => some ((okW ws), (.s (.bool (badR n z ws)), [some ⟨24, .agg [.s (.int .i64 n), .lt (.pair (.int .i64) (.sl (.int .u64))) m], true⟩]))
  | _, _ => none
theorem right1_ok : ∀ args bs out, right1_ent args bs = some (true, out) → Fact Tryd.prog gTab 110 args bs out := by
  intro args bs out h
  unfold right1_ent at h
  split at h
  · rename_i z w0 n m
    obtain ⟨ws, h_ws, h⟩ := Option.bind_eq_some_iff.1 h
    simp only [Option.some.injEq, Prod.mk.injEq] at h
    obtain ⟨hg, rfl⟩ := h
    exact (right1_fact z ws n m hg).args (fun _ _ _ => fun _ h => RVs_two (fun _ h => RV_agg_two (fun _ h => RVs_two (fun _ h => h) (fun _ h => RVs_two (fun _ h => RV_li h_ws h) (fun _ h => h) h) h) h) (fun _ h => h) h)
  · cases h
noncomputable def T_right1 : Tbl := Tbl.cons 110 right1_ent T_msized
theorem T_right1_ok : CallOk Tryd.prog gTab T_right1 := cons_ok T_msized_ok right1_ok
/-! slices.IndexFunc[[]downpour/api.Row,downpour/api.Row] -/
noncomputable abbrev qa21 (n : Int) (m : List (Int × List Int)) : List (Nat × Option Blk) := [(0, some ⟨24, .agg [vI n, vR m], true⟩)]
noncomputable abbrev qa22 (fuel : Nat) : Ctx Out := (fnX Tryd.prog mode9 T_right1 fuel 19 1)
noncomputable abbrev qa23 : Code := (bodyOf Tryd.prog 155)
noncomputable def idxRF_s2 {R : Type} (w3 w4 : Int) (r : List (Int × List Int)) (n : Int) (m : List (Int × List Int)) (c0 : Int → Option R) (c1 : Int → Int → Option R) (c2 : Option R) : Option R :=
  br (decide (w3 < w4))
    (bnd (ix r w3) fun e7 =>
    grd (okW e7.2) <|
    br (badR n e7.1 e7.2)
      (c0 w3)
      (c1 w4 (IntKind.i64.wrap (w3 + 1))))
    (c2)
theorem idxRF_s2_eq (fuel k : Nat) (K : Ex → St → Option Out) (w3 w4 : Int) (r : List (Int × List Int)) (n : Int) (m : List (Int × List Int)) : lpN (sub qa23 [1, 0, 1, 0, 0]) (qa22 fuel) 16 [0, 1, 4, 7, 8] (k + 1) ⟨[(0, vR r), (1, .fn (.func 110) [] [.ptr 0 2 0 0]), (4, vI 0), (7, vI w4), (8, vI w3)], (qa21 n m), 1, none⟩ K = idxRF_s2 w3 w4 r n m (fun a8 => K .ret ⟨[(4, vI a8)], (qa21 n m), 1, none⟩) (fun a9 a0 => lpN (sub qa23 [1, 0, 1, 0, 0]) (qa22 fuel) 16 [0, 1, 4, 7, 8] k ⟨[(0, vR r), (1, .fn (.func 110) [] [.ptr 0 2 0 0]), (4, vI 0), (7, vI a9), (8, vI a0)], (qa21 n m), 1, none⟩ K) (K (.exit 0) ⟨[(4, vI 0)], (qa21 n m), 1, none⟩) := by kernel_rfl
noncomputable def idxRF_l1 {R : Type} (fuel : Nat) (r : List (Int × List Int)) (n : Int) (m : List (Int × List Int)) (k0 : Int → Option R) (k1 : Option R) : Nat → Int → Int → Option R
  | 0, _, _ => none
  | k + 1, w4, w3 =>
    (idxRF_s2 w3 w4 r n m (fun a8 => k0 a8) (fun a9 a0 => ( idxRF_l1 fuel r n m k0 k1 k a9 a0 )) (k1))
theorem idxRF_l1_eq (fuel : Nat) (r : List (Int × List Int)) (n : Int) (m : List (Int × List Int)) (K : Ex → St → Option Out) : ∀ (k : Nat) (w4 w3 : Int), lpN (sub qa23 [1, 0, 1, 0, 0]) (qa22 fuel) 16 [0, 1, 4, 7, 8] k ⟨[(0, vR r), (1, .fn (.func 110) [] [.ptr 0 2 0 0]), (4, vI 0), (7, vI w4), (8, vI w3)], (qa21 n m), 1, none⟩ K = idxRF_l1 fuel r n m (fun y6 => K .ret ⟨[(4, vI y6)], (qa21 n m), 1, none⟩) (K (.exit 0) ⟨[(4, vI 0)], (qa21 n m), 1, none⟩) k w4 w3
  | 0, _, _ => rfl
  | k + 1, w4, w3 => by
    unfold idxRF_l1
    exact (idxRF_s2_eq fuel k K w3 w4 r n m).trans (congr (congr (congr (Eq.refl (idxRF_s2 (R := Out) w3 w4 r n m)) (rfl)) (funext fun a9 => funext fun a0 => idxRF_l1_eq fuel r n m K k a9 a0)) (rfl))
noncomputable def idxRF_s3 {R : Type} (x0 n : Int) (m : List (Int × List Int)) (c0 : Int → Int → (List (Int × List Int)) → Option R) : Option R :=
  c0 x0 n m
theorem idxRF_s3_eq (fuel : Nat)  (x0 n : Int) (m : List (Int × List Int)) : (kont (qa22 fuel) qa23 [1, 0, 1, 0] 16 (endK Tryd.prog 2 1 155)) .ret ⟨[(4, vI x0)], (qa21 n m), 1, none⟩ = idxRF_s3 x0 n m (fun a0 a1 a2 => some (vI a0, [some ⟨24, .agg [vI a1, vR a2], true⟩])) := by kernel_rfl
noncomputable def idxRF_s4 {R : Type} (n : Int) (m : List (Int × List Int)) (c0 : Int → Int → (List (Int × List Int)) → Option R) : Option R :=
  c0 (-1) n m
theorem idxRF_s4_eq (fuel : Nat)  (n : Int) (m : List (Int × List Int)) : (kont (qa22 fuel) qa23 [1, 0, 1, 0] 16 (endK Tryd.prog 2 1 155)) (.exit 0) ⟨[(4, vI 0)], (qa21 n m), 1, none⟩ = idxRF_s4 n m (fun a0 a1 a2 => some (vI a0, [some ⟨24, .agg [vI a1, vR a2], true⟩])) := by kernel_rfl
noncomputable def idxRF_s1 {R : Type} (r : List (Int × List Int)) (n : Int) (m : List (Int × List Int)) (c0 : Int → Int → Option R) : Option R :=
  c0 ((r.length : Nat) : Int) 0
theorem idxRF_s1_eq (fuel : Nat)  (r : List (Int × List Int)) (n : Int) (m : List (Int × List Int)) : callN Tryd.prog mode9 T_right1 fuel 155 [vR r, .fn (.func 110) [] [.ptr 0 2 0 0]] [⟨24, .agg [vI n, vR m], true⟩] = idxRF_s1 r n m (fun a0 a1 => lpN (sub qa23 [1, 0, 1, 0, 0]) (qa22 fuel) 16 [0, 1, 4, 7, 8] fuel ⟨[(0, vR r), (1, .fn (.func 110) [] [.ptr 0 2 0 0]), (4, vI 0), (7, vI a0), (8, vI a1)], (qa21 n m), 1, none⟩ (kont (qa22 fuel) qa23 [1, 0, 1, 0] 16 (endK Tryd.prog 2 1 155))) := by kernel_rfl
noncomputable def idxRF {R : Type} (fuel : Nat) (r : List (Int × List Int)) (n : Int) (m : List (Int × List Int)) (r0 : Int → Int → (List (Int × List Int)) → Option R) : Option R :=
  (idxRF_s1 r n m (fun a0 a1 => (idxRF_l1 fuel r n m (fun x0 => (idxRF_s3 x0 n m (fun a2 a3 a4 => r0 a2 a3 a4))) ((idxRF_s4 n m (fun a5 a6 a7 => r0 a5 a6 a7))) fuel a0 a1)))
theorem idxRF_eq (fuel : Nat) (r : List (Int × List Int)) (n : Int) (m : List (Int × List Int)) : callN Tryd.prog mode9 T_right1 fuel 155 [.lt (.pair (.int .i64) (.sl (.int .u64))) r, .fn (.func 110) [] [.ptr 0 2 0 0]] [⟨24, .agg [.s (.int .i64 n), .lt (.pair (.int .i64) (.sl (.int .u64))) m], true⟩] = idxRF fuel r n m (fun z0 z1 z2 => some (.s (.int .i64 z0), [some ⟨24, .agg [.s (.int .i64 z1), .lt (.pair (.int .i64) (.sl (.int .u64))) z2], true⟩])) := by
  unfold idxRF
  exact (idxRF_s1_eq fuel  r n m).trans (congr (Eq.refl (idxRF_s1 (R := Out) r n m)) (funext fun a0 => funext fun a1 => (idxRF_l1_eq fuel r n m (kont (qa22 fuel) qa23 [1, 0, 1, 0] 16 (endK Tryd.prog 2 1 155)) fuel a0 a1).trans (congrFun (congrFun (congrFun (congr (congr (Eq.refl (idxRF_l1 (R := Out) fuel r n m)) (funext fun x0 => (idxRF_s3_eq fuel  x0 n m))) ((idxRF_s4_eq fuel  n m))) fuel) a0) a1)))
theorem idxR_loop {R : Type} (fuel : Nat) (r : List Rw) (n : Int) (m : List Rw) (hok : okM r = true) (hx : r.length ≤ 1000000) (k0 : Int → Option R) (k1 : Option R) : ∀ (k j : Nat), j ≤ r.length → r.length < j + k → idxRF_l1 fuel r n m k0 k1 k (r.length : Int) (j : Int) = if badFrom n (r.drop j) (j : Int) < 0 then k1 else k0 (badFrom n (r.drop j) (j : Int))
  | 0, j, h1, h2 => by omega
  | k + 1, j, h1, h2 => by
    unfold idxRF_l1 idxRF_s2
    rw [br_if]
    by_cases hc : j < r.length
    · have hw := okM_iff.1 hok _ (List.getElem_mem hc)
      rw [if_pos (by simpa using hc), bnd_of ((ix_nat r j).trans (List.getElem?_eq_getElem hc)), grd_of hw, br_if, List.drop_eq_getElem_cons hc, badFrom, wrap_i64 (by omega) (by omega), show (j : Int) + 1 = ((j + 1 : Nat) : Int) by omega]
      dsimp only
      rw [idxR_loop fuel r n m hok hx k0 k1 k (j + 1) (by omega) (by omega)]
      by_cases h : badR n (r[j]).1 (r[j]).2 = true
      · rw [if_pos h, if_pos h, if_neg (by omega)]
      · rw [if_neg h, if_neg h]
    · rw [if_neg (by simpa using hc), List.drop_eq_nil_of_le (by omega)]
      rfl
theorem idxR_fact (r : List (Int × List Int)) (n : Int) (m : List (Int × List Int)) (hg : (okM r && decide (r.length ≤ 1000000)) = true) : Fact Tryd.prog gTab 155 [.lt (.pair (.int .i64) (.sl (.int .u64))) r, .fn (.func 110) [] [.ptr 0 2 0 0]] [⟨24, .agg [.s (.int .i64 n), .lt (.pair (.int .i64) (.sl (.int .u64))) m], true⟩] (.s (.int .i64 (badAt n r)), [some ⟨24, .agg [.s (.int .i64 n), .lt (.pair (.int .i64) (.sl (.int .u64))) m], true⟩]) := by
  rw [Bool.and_eq_true] at hg
  obtain ⟨hok, hx⟩ := hg
  have hx := of_decide_eq_true hx
  refine callN_fact hN hM T_right1_ok (n := r.length + 1) (mode := mode9) ?_
  rw [idxRF_eq]
  unfold idxRF idxRF_s1
  dsimp only
  have := idxR_loop (R := Out) (r.length + 1) r n m hok hx
  refine (this _ _ (r.length + 1) 0 (by omega) (by omega)).trans ?_
  rw [List.drop_zero, badAt_eq]
  unfold badAtI idxRF_s3 idxRF_s4
  rw [show ((0 : Nat) : Int) = 0 from rfl]
  by_cases h : badFrom n r 0 < 0
  · rw [if_pos h, (badFrom_iff n r 0 (by omega)).2 h]
  · rw [if_neg h]
noncomputable def idxR_ent : List V → List Blk → Option (Bool × Out)
  | [w0, .fn (.func 110) [] [.ptr 0 2 0 0]], [⟨24, .agg [.s (.int .i64 n), .lt (.pair (.int .i64) (.sl (.int .u64))) m], true⟩] => (asSl (.pair (.int .i64) (.sl (.int .u64))) w0).bind fun r => some ((okM r && decide (r.length ≤ 1000000)), (.s (.int .i64 (badAt n r)), [some ⟨24, .agg [.s (.int .i64 n), .lt (.pair (.int .i64) (.sl (.int .u64))) m], true⟩]))
  | _, _ => none
theorem idxR_ok : ∀ args bs out, idxR_ent args bs = some (true, out) → Fact Tryd.prog gTab 155 args bs out := by
  intro args bs out h
  unfold idxR_ent at h
  split at h
  · rename_i w0 n m
    obtain ⟨r, h_r, h⟩ := Option.bind_eq_some_iff.1 h
    simp only [Option.some.injEq, Prod.mk.injEq] at h
    obtain ⟨hg, rfl⟩ := h
    exact (idxR_fact r n m hg).args (fun _ _ _ => fun _ h => RVs_two (fun _ h => RV_sl (s := (.pair (.int .i64) (.sl (.int .u64)))) h_r h) (fun _ h => h) h)
  · cases h
noncomputable def T_idxR : Tbl := Tbl.cons 155 idxR_ent T_right1
theorem T_idxR_ok : CallOk Tryd.prog gTab T_idxR := cons_ok T_right1_ok idxR_ok
/-! slices.ContainsFunc[[]downpour/api.Row,downpour/api.Row] -/
noncomputable def contRF_s1 {R : Type} (r : List (Int × List Int)) (n : Int) (m : List (Int × List Int)) (c0 : Bool → Int → (List (Int × List Int)) → Option R) : Option R :=
  grd (okM r && decide (r.length ≤ 1000000)) <|
  c0 (decide (((badAt n r) : Int) ≥ 0)) n m
theorem contRF_s1_eq (fuel : Nat)  (r : List (Int × List Int)) (n : Int) (m : List (Int × List Int)) : callN Tryd.prog mode9 T_idxR fuel 109 [vR r, .fn (.func 110) [] [.ptr 0 2 0 0]] [⟨24, .agg [vI n, vR m], true⟩] = contRF_s1 r n m (fun a1 a2 a3 => some (vB a1, [some ⟨24, .agg [vI a2, vR a3], true⟩])) := by kernel_rfl
noncomputable def contRF {R : Type} (fuel : Nat) (r : List (Int × List Int)) (n : Int) (m : List (Int × List Int)) (r0 : Bool → Int → (List (Int × List Int)) → Option R) : Option R :=
  (contRF_s1 r n m (fun a1 a2 a3 => r0 a1 a2 a3))
theorem contRF_eq (fuel : Nat) (r : List (Int × List Int)) (n : Int) (m : List (Int × List Int)) : callN Tryd.prog mode9 T_idxR fuel 109 [.lt (.pair (.int .i64) (.sl (.int .u64))) r, .fn (.func 110) [] [.ptr 0 2 0 0]] [⟨24, .agg [.s (.int .i64 n), .lt (.pair (.int .i64) (.sl (.int .u64))) m], true⟩] = contRF fuel r n m (fun z0 z1 z2 => some (.s (.bool z0), [some ⟨24, .agg [.s (.int .i64 z1), .lt (.pair (.int .i64) (.sl (.int .u64))) z2], true⟩])) := by
  unfold contRF
  exact (contRF_s1_eq fuel  r n m)
theorem contR_fact (r : List (Int × List Int)) (n : Int) (m : List (Int × List Int)) (hg : (okM r && decide (r.length ≤ 1000000)) = true) : Fact Tryd.prog gTab 109 [.lt (.pair (.int .i64) (.sl (.int .u64))) r, .fn (.func 110) [] [.ptr 0 2 0 0]] [⟨24, .agg [.s (.int .i64 n), .lt (.pair (.int .i64) (.sl (.int .u64))) m], true⟩] (.s (.bool (decide (0 ≤ badAt n r))), [some ⟨24, .agg [.s (.int .i64 n), .lt (.pair (.int .i64) (.sl (.int .u64))) m], true⟩]) := by
  refine callN_fact hN hM T_idxR_ok (n := 0) (mode := mode9) ?_
  rw [contRF_eq]
  unfold contRF contRF_s1
  rw [grd_of hg]
noncomputable def contR_ent : List V → List Blk → Option (Bool × Out)
  | [w0, .fn (.func 110) [] [.ptr 0 2 0 0]], [⟨24, .agg [.s (.int .i64 n), .lt (.pair (.int .i64) (.sl (.int .u64))) m], true⟩] => (asSl (.pair (.int .i64) (.sl (.int .u64))) w0).bind fun r => some ((okM r && decide (r.length ≤ 1000000)), (.s (.bool (decide (0 ≤ badAt n r))), [some ⟨24, .agg [.s (.int .i64 n), .lt (.pair (.int .i64) (.sl (.int .u64))) m], true⟩]))
  | _, _ => none
theorem contR_ok : ∀ args bs out, contR_ent args bs = some (true, out) → Fact Tryd.prog gTab 109 args bs out := by
  intro args bs out h
  unfold contR_ent at h
  split at h
  · rename_i w0 n m
    obtain ⟨r, h_r, h⟩ := Option.bind_eq_some_iff.1 h
    simp only [Option.some.injEq, Prod.mk.injEq] at h
    obtain ⟨hg, rfl⟩ := h
    exact (contR_fact r n m hg).args (fun _ _ _ => fun _ h => RVs_two (fun _ h => RV_sl (s := (.pair (.int .i64) (.sl (.int .u64)))) h_r h) (fun _ h => h) h)
  · cases h
noncomputable def T_contR : Tbl := Tbl.cons 109 contR_ent T_idxR
theorem T_contR_ok : CallOk Tryd.prog gTab T_contR := cons_ok T_idxR_ok contR_ok
/-! downpour/matrix.Right -/
noncomputable def mRightF_s1 {R : Type} (n : Int) (m : List (Int × List Int)) (c0 : Bool → Option R) : Option R :=
  br (decide (0 ≤ n) && decide (n ≤ 64))
    (br (decide ((((m.length : Nat) : Int) : Int) ≤ 64))
      (grd (okM m && decide (m.length ≤ 1000000)) <|
      c0 (!(decide (0 ≤ badAt n m))))
      (c0 false))
    (c0 false)
theorem mRightF_s1_eq (fuel : Nat)  (n : Int) (m : List (Int × List Int)) : callN Tryd.prog mode9 T_contR fuel 56 [.agg [vI n, vR m]] [] = mRightF_s1 n m (fun a1 => some (vB a1, [])) := by kernel_rfl
noncomputable def mRightF {R : Type} (fuel : Nat) (n : Int) (m : List (Int × List Int)) (r0 : Bool → Option R) : Option R :=
  (mRightF_s1 n m (fun a1 => r0 a1))
theorem mRightF_eq (fuel : Nat) (n : Int) (m : List (Int × List Int)) : callN Tryd.prog mode9 T_contR fuel 56 [.agg [.s (.int .i64 n), .lt (.pair (.int .i64) (.sl (.int .u64))) m]] [] = mRightF fuel n m (fun z0 => some (.s (.bool z0), [])) := by
  unfold mRightF
  exact (mRightF_s1_eq fuel  n m)
theorem bad_none {n : Int} {m : List Rw} : (!(decide (0 ≤ badAt n m))) = m.all fun r => !(badR n r.1 r.2) := by
  have := (badFrom_iff n m 0 (by omega)).1
  rw [badAt_eq]; unfold badAtI
  by_cases h : 0 ≤ badFrom n m 0
  · obtain ⟨r, h1, h2⟩ := this.1 h
    have : (m.all fun r => !(badR n r.1 r.2)) = false := by
      rw [Bool.eq_false_iff]; intro g
      have := List.all_eq_true.1 g r h1
      rw [h2] at this; cases this
    rw [this, decide_eq_true h]; rfl
  · have : (m.all fun r => !(badR n r.1 r.2)) = true := by
      rw [List.all_eq_true]; intro r hr
      rw [Bool.not_eq_true', Bool.eq_false_iff]
      exact fun g => h (this.2 ⟨r, hr, g⟩)
    rw [this, decide_eq_false h]; rfl
theorem mRight_fact (n : Int) (m : List (Int × List Int)) (hg : (okM m) = true) : Fact Tryd.prog gTab 56 [.agg [.s (.int .i64 n), .lt (.pair (.int .i64) (.sl (.int .u64))) m]] [] (.s (.bool (mrt n m)), []) := by
  refine callN_fact hN hM T_contR_ok (n := 0) (mode := mode9) ?_
  rw [mRightF_eq]
  unfold mRightF mRightF_s1
  rw [br_if, mrt_eq]
  unfold mrtI
  by_cases h : (decide (0 ≤ n) && decide (n ≤ 64)) = true
  · rw [if_pos h, h, Bool.true_and, br_if]
    by_cases hl : m.length ≤ 64
    · rw [if_pos (by simp; omega), grd_of (by rw [hg]; simp; omega), bad_none, decide_eq_true hl, Bool.true_and]
    · rw [if_neg (by simp; omega), decide_eq_false hl, Bool.false_and]
  · rw [if_neg h, Bool.eq_false_iff.2 h, Bool.false_and, Bool.false_and]
noncomputable def mRight_ent : List V → List Blk → Option (Bool × Out)
  | [.agg [.s (.int .i64 n), w0]], [] => (asSl (.pair (.int .i64) (.sl (.int .u64))) w0).bind fun m => some ((okM m), (.s (.bool (mrt n m)), []))
  | _, _ => none
theorem mRight_ok : ∀ args bs out, mRight_ent args bs = some (true, out) → Fact Tryd.prog gTab 56 args bs out := by
  intro args bs out h
  unfold mRight_ent at h
  split at h
  · rename_i n w0
    obtain ⟨m, h_m, h⟩ := Option.bind_eq_some_iff.1 h
    simp only [Option.some.injEq, Prod.mk.injEq] at h
    obtain ⟨hg, rfl⟩ := h
    exact (mRight_fact n m hg).args (fun _ _ _ => fun _ h => RVs_two (fun _ h => RV_agg_two (fun _ h => RVs_two (fun _ h => h) (fun _ h => RVs_two (fun _ h => RV_sl (s := (.pair (.int .i64) (.sl (.int .u64)))) h_m h) (fun _ h => h) h) h) h) (fun _ h => h) h)
  · cases h
noncomputable def T_mRight : Tbl := Tbl.cons 56 mRight_ent T_contR
theorem T_mRight_ok : CallOk Tryd.prog gTab T_mRight := cons_ok T_contR_ok mRight_ok
def mode10 : FuncId → Nat := fun f => 0
/-! downpour/downpourref03.Right -/
noncomputable abbrev qa24 (n : Int) (m : List (Int × List Int)) : List (Nat × Option Blk) := [(0, some ⟨24, .agg [vI n, vR m], true⟩)]
noncomputable abbrev qa25 (fuel : Nat) : Ctx Out := (fnX Tryd.prog mode10 T_mRight fuel 37 0)
noncomputable abbrev qa26 : List (Nat × V) := [(1, .ptr 0 2 0 0), (2, vB false)]
noncomputable def refMRightF_s2 {R : Type} (w4 w3 : Int) (m : List (Int × List Int)) (n : Int) (c0 c1 : Option R) (c2 : Int → Int → Option R) (c3 : Option R) : Option R :=
  br (decide (w4 < w3))
    (bnd (ix m w4) fun e6 =>
    br (e6.1 != n)
      (c0)
      (grd (okW e6.2) <|
      br (!(rtS e6.1 e6.2))
        (c1)
        (c2 w3 (IntKind.i64.wrap (w4 + 1)))))
    (c3)
theorem refMRightF_s2_eq (fuel k : Nat) (K : Ex → St → Option Out) (w4 w3 : Int) (m : List (Int × List Int)) (n : Int) : lpN (sub (bodyOf Tryd.prog 16) [1, 0, 1, 0, 0]) (qa25 fuel) 137430564870 [1, 2, 6, 7, 8] (k + 1) ⟨[(1, .ptr 0 2 0 0), (2, vB false), (6, vR m), (7, vI w3), (8, vI w4)], (qa24 n m), 1, none⟩ K = refMRightF_s2 w4 w3 m n (K .ret ⟨qa26, (qa24 n m), 1, none⟩) (K .ret ⟨qa26, (qa24 n m), 1, none⟩) (fun a7 a8 => lpN (sub (bodyOf Tryd.prog 16) [1, 0, 1, 0, 0]) (qa25 fuel) 137430564870 [1, 2, 6, 7, 8] k ⟨[(1, .ptr 0 2 0 0), (2, vB false), (6, vR m), (7, vI a7), (8, vI a8)], (qa24 n m), 1, none⟩ K) (K (.exit 0) ⟨qa26, (qa24 n m), 1, none⟩) := by kernel_rfl
noncomputable def refMRightF_l1 {R : Type} (fuel : Nat) (m : List (Int × List Int)) (n : Int) (k0 k1 : Option R) : Nat → Int → Int → Option R
  | 0, _, _ => none
  | k + 1, w3, w4 =>
    (refMRightF_s2 w4 w3 m n (k0) (k0) (fun a7 a8 => ( refMRightF_l1 fuel m n k0 k1 k a7 a8 )) (k1))
theorem refMRightF_l1_eq (fuel : Nat) (m : List (Int × List Int)) (n : Int) (K : Ex → St → Option Out) : ∀ (k : Nat) (w3 w4 : Int), lpN (sub (bodyOf Tryd.prog 16) [1, 0, 1, 0, 0]) (qa25 fuel) 137430564870 [1, 2, 6, 7, 8] k ⟨[(1, .ptr 0 2 0 0), (2, vB false), (6, vR m), (7, vI w3), (8, vI w4)], (qa24 n m), 1, none⟩ K = refMRightF_l1 fuel m n (K .ret ⟨qa26, (qa24 n m), 1, none⟩) (K (.exit 0) ⟨qa26, (qa24 n m), 1, none⟩) k w3 w4
  | 0, _, _ => rfl
  | k + 1, w3, w4 => by
    unfold refMRightF_l1
    exact (refMRightF_s2_eq fuel k K w4 w3 m n).trans (congr (congr (congr (congr (Eq.refl (refMRightF_s2 (R := Out) w4 w3 m n)) (rfl)) (rfl)) (funext fun a7 => funext fun a8 => refMRightF_l1_eq fuel m n K k a7 a8)) (rfl))
noncomputable def refMRightF_s3 {R : Type} (n : Int) (m : List (Int × List Int)) (c0 : Bool → Option R) : Option R :=
  c0 false
theorem refMRightF_s3_eq (fuel : Nat)  (n : Int) (m : List (Int × List Int)) : (kont (qa25 fuel) (bodyOf Tryd.prog 16) [1, 0, 1, 0] 4 (endK Tryd.prog 0 0 16)) .ret ⟨qa26, (qa24 n m), 1, none⟩ = refMRightF_s3 n m (fun a0 => some (vB a0, [])) := by kernel_rfl
noncomputable def refMRightF_s4 {R : Type} (n : Int) (m : List (Int × List Int)) (c0 : Bool → Option R) : Option R :=
  br (decide (n ≥ 0))
    (br (decide (n ≤ 64))
      (c0 (decide ((((m.length : Nat) : Int) : Int) ≤ 64)))
      (c0 false))
    (c0 false)
theorem refMRightF_s4_eq (fuel : Nat)  (n : Int) (m : List (Int × List Int)) : (kont (qa25 fuel) (bodyOf Tryd.prog 16) [1, 0, 1, 0] 4 (endK Tryd.prog 0 0 16)) (.exit 0) ⟨qa26, (qa24 n m), 1, none⟩ = refMRightF_s4 n m (fun a0 => some (vB a0, [])) := by kernel_rfl
noncomputable def refMRightF_s1 {R : Type} (m : List (Int × List Int)) (n : Int) (c0 : Int → Int → Option R) : Option R :=
  c0 ((m.length : Nat) : Int) 0
theorem refMRightF_s1_eq (fuel : Nat)  (m : List (Int × List Int)) (n : Int) : callN Tryd.prog mode10 T_mRight fuel 16 [.agg [vI n, vR m]] [] = refMRightF_s1 m n (fun a9 a0 => lpN (sub (bodyOf Tryd.prog 16) [1, 0, 1, 0, 0]) (qa25 fuel) 137430564870 [1, 2, 6, 7, 8] fuel ⟨[(1, .ptr 0 2 0 0), (2, vB false), (6, vR m), (7, vI a9), (8, vI a0)], (qa24 n m), 1, none⟩ (kont (qa25 fuel) (bodyOf Tryd.prog 16) [1, 0, 1, 0] 4 (endK Tryd.prog 0 0 16))) := by kernel_rfl
noncomputable def refMRightF {R : Type} (fuel : Nat) (n : Int) (m : List (Int × List Int)) (r0 : Bool → Option R) : Option R :=
  (refMRightF_s1 m n (fun a9 a0 => (refMRightF_l1 fuel m n ((refMRightF_s3 n m (fun a1 => r0 a1))) ((refMRightF_s4 n m (fun a2 => r0 a2))) fuel a9 a0)))
theorem refMRightF_eq (fuel : Nat) (n : Int) (m : List (Int × List Int)) : callN Tryd.prog mode10 T_mRight fuel 16 [.agg [.s (.int .i64 n), .lt (.pair (.int .i64) (.sl (.int .u64))) m]] [] = refMRightF fuel n m (fun z0 => some (.s (.bool z0), [])) := by
  unfold refMRightF
  exact (refMRightF_s1_eq fuel  m n).trans (congr (Eq.refl (refMRightF_s1 (R := Out) m n)) (funext fun a9 => funext fun a0 => (refMRightF_l1_eq fuel m n (kont (qa25 fuel) (bodyOf Tryd.prog 16) [1, 0, 1, 0] 4 (endK Tryd.prog 0 0 16)) fuel a9 a0).trans (congrFun (congrFun (congrFun (congr (congr (Eq.refl (refMRightF_l1 (R := Out) fuel m n)) ((refMRightF_s3_eq fuel  n m))) ((refMRightF_s4_eq fuel  n m))) fuel) a9) a0)))
theorem refMRight_loop {R : Type} (fuel : Nat) (m : List Rw) (n : Int) (hok : okM m = true) (hx : m.length ≤ 1000000) (k0 k1 : Option R) : ∀ (k j : Nat), j ≤ m.length → m.length < j + k → refMRightF_l1 fuel m n k0 k1 k (m.length : Int) (j : Int) = if ((m.drop j).all fun r => !(badR n r.1 r.2)) = true then k1 else k0
  | 0, j, h1, h2 => by omega
  | k + 1, j, h1, h2 => by
    unfold refMRightF_l1 refMRightF_s2
    rw [br_if]
    by_cases hc : j < m.length
    · have hw := okM_iff.1 hok _ (List.getElem_mem hc)
      rw [if_pos (by simpa using hc), bnd_of ((ix_nat m j).trans (List.getElem?_eq_getElem hc)), br_if, grd_of hw, br_if, List.drop_eq_getElem_cons hc, wrap_i64 (by omega) (by omega), show (j : Int) + 1 = ((j + 1 : Nat) : Int) by omega]
      dsimp only
      rw [refMRight_loop fuel m n hok hx k0 k1 k (j + 1) (by omega) (by omega), List.all_cons, badR_eq]
      unfold badI
      generalize m[j] = x
      by_cases h1 : x.1 = n
      · by_cases h2 : rtS x.1 x.2 = true
        · rw [if_neg (by simp [h1]), if_neg (by simp [h2]), decide_eq_false (by simp [h1]), h2, Bool.false_or, Bool.not_true, Bool.not_false, Bool.true_and]
        · rw [if_neg (by simp [h1]), if_pos (by simp [h2]), decide_eq_false (by simp [h1]), Bool.eq_false_iff.2 h2, Bool.false_or, Bool.not_false, Bool.not_true, Bool.false_and, if_neg (by decide)]
      · rw [if_pos (by simp [h1]), decide_eq_true h1, Bool.true_or, Bool.not_true, Bool.false_and, if_neg (by decide)]
    · rw [if_neg (by simpa using hc), List.drop_eq_nil_of_le (by omega), List.all_nil, if_pos rfl]
theorem refMRight_fact (n : Int) (m : List (Int × List Int)) (hg : (okM m && decide (m.length ≤ 1000000)) = true) : Fact Tryd.prog gTab 16 [.agg [.s (.int .i64 n), .lt (.pair (.int .i64) (.sl (.int .u64))) m]] [] (.s (.bool (mrt n m)), []) := by
  rw [Bool.and_eq_true] at hg
  obtain ⟨hok, hx⟩ := hg
  have hx := of_decide_eq_true hx
  refine callN_fact hN hM T_mRight_ok (n := m.length + 1) (mode := mode10) ?_
  rw [refMRightF_eq]
  unfold refMRightF refMRightF_s1
  dsimp only
  have := refMRight_loop (R := Out) (m.length + 1) m n hok hx
  refine (this _ _ (m.length + 1) 0 (by omega) (by omega)).trans ?_
  rw [List.drop_zero, mrt_eq]
  unfold mrtI refMRightF_s3 refMRightF_s4
  by_cases ha : (m.all fun r => !(badR n r.1 r.2)) = true
  · rw [if_pos ha, ha, Bool.and_true, br_if, br_if]
    by_cases h1 : 0 ≤ n
    · rw [if_pos (by simpa using h1), decide_eq_true h1, Bool.true_and]
      by_cases h2 : n ≤ 64
      · rw [if_pos (by simpa using h2), decide_eq_true h2, Bool.true_and]
        have : decide (((m.length : Nat) : Int) ≤ 64) = decide (m.length ≤ 64) := by rw [decide_eq_decide]; omega
        rw [this]
      · rw [if_neg (by simpa using h2), decide_eq_false h2]; rfl
    · rw [if_neg (by simpa using h1), decide_eq_false h1]; rfl
  · rw [if_neg ha, Bool.eq_false_iff.2 ha, Bool.and_false]
noncomputable def refMRight_ent : List V → List Blk → Option (Bool × Out)
  | [.agg [.s (.int .i64 n), w0]], [] => (asSl (.pair (.int .i64) (.sl (.int .u64))) w0).bind fun m => some ((okM m && decide (m.length ≤ 1000000)), (.s (.bool (mrt n m)), []))
  | _, _ => none
theorem refMRight_ok : ∀ args bs out, refMRight_ent args bs = some (true, out) → Fact Tryd.prog gTab 16 args bs out := by
  intro args bs out h
  unfold refMRight_ent at h
  split at h
  · rename_i n w0
    obtain ⟨m, h_m, h⟩ := Option.bind_eq_some_iff.1 h
    simp only [Option.some.injEq, Prod.mk.injEq] at h
    obtain ⟨hg, rfl⟩ := h
    exact (refMRight_fact n m hg).args (fun _ _ _ => fun _ h => RVs_two (fun _ h => RV_agg_two (fun _ h => RVs_two (fun _ h => h) (fun _ h => RVs_two (fun _ h => RV_sl (s := (.pair (.int .i64) (.sl (.int .u64)))) h_m h) (fun _ h => h) h) h) h) (fun _ h => h) h)
  · cases h
noncomputable def T_refMRight : Tbl := Tbl.cons 16 refMRight_ent T_mRight
theorem T_refMRight_ok : CallOk Tryd.prog gTab T_refMRight := cons_ok T_mRight_ok refMRight_ok
end Go.Proofs.YtfpdcfgjhkiklaaDoor
