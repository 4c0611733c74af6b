/- Rows, their places: what each function tells. -/
import Derived.Test.YtleagoeimkcekaaDoorPmTab
import Derived.KernelRfl
import Derived.Test.YtleagoeimkcekaaDoorProg
import Derived.Test.YtleagoeimkcekaaDoorPmPut
import Derived.Test.YtleagoeimkcekaaDoorPlBit
import Derived.Test.YtleagoeimkcekaaDoorPlBlk
import Derived.Test.YtleagoeimkcekaaDoorPlPop
import Derived.Shelf.Spec.TrailingZeros
set_option autoImplicit false
set_option maxRecDepth 100000
set_option maxHeartbeats 4000000
set_option linter.unusedVariables false
set_option linter.unusedSimpArgs false
namespace Go.Proofs.YtleagoeimkcekaaDoor
open Go Go.PM Go.Proofs Go.Shelf Go.PM.Row Go.PM.Bits Go.PM.Bit Go.PM.Blk
def gTab : Glob := fun b => if b = 0 then some (Lib.deBruijn64tab.map fun (n : Nat) => (.int .u8 (n : Int) : Value)) else none
theorem hN : namesOk Tryd.prog = true := by kernel_rfl
theorem hM : Tryd.prog.follows .mixedOrders = true := by kernel_rfl
def mode1 : FuncId → Nat := fun f => bif Nat.beq f 179 then 2 else 0
/-! downpour/bitrow.sized -/
noncomputable def rsizedF_s1 {R : Type} (n : Int) (c0 : Bool → Option R) : Option R :=
  br (decide (n ≥ 0))
    (c0 (decide (n ≤ 512)))
    (c0 false)
theorem rsizedF_s1_eq (fuel : Nat)  (n : Int) : callN Tryd.prog mode1 Tbl.nil fuel 124 [.s (.int .i64 n)] [] = rsizedF_s1 n (fun (a1 : Bool) => some (.s (.bool a1), [])) := by kernel_rfl
noncomputable def rsizedF {R : Type} (fuel : Nat) (n : Int) (r0 : Bool → Option R) : Option R :=
  (rsizedF_s1 n (fun (a1 : Bool) => r0 a1))
theorem rsizedF_eq (fuel : Nat) (n : Int) : callN Tryd.prog mode1 Tbl.nil fuel 124 [.s (.int .i64 n)] [] = rsizedF fuel n (fun (z0 : Bool) => some (.s (.bool z0), [])) := by
  unfold rsizedF
  exact (rsizedF_s1_eq fuel  n)
theorem rsized_fact (n : Int) : Fact Tryd.prog gTab 124 [.s (.int .i64 n)] [] (.s (.bool (szB n)), []) := by
  refine callN_fact hN hM nil_ok (n := 0) (mode := mode1) ?_
  rw [rsizedF_eq]
  unfold rsizedF rsizedF_s1 szB
  rw [br_if]
  by_cases h : 0 ≤ n
  · simp [h]
  · simp [h]
noncomputable def rsized_ent : List V → List Blk → Option (Bool × Out)
  | [.s (.int .i64 n)], [] => some (true, (.s (.bool (szB n)), []))
  | _, _ => none
theorem rsized_ok : ∀ args bs out, rsized_ent args bs = some (true, out) → Fact Tryd.prog gTab 124 args bs out := by
  intro args bs out h
  unfold rsized_ent at h
  split at h
  · rename_i n
    simp only [Option.some.injEq, Prod.mk.injEq] at h
    obtain ⟨_, rfl⟩ := h
    exact rsized_fact n
  · cases h
noncomputable def T_rsized : Tbl := Tbl.cons 124 rsized_ent Tbl.nil
theorem T_rsized_ok : CallOk Tryd.prog gTab T_rsized := cons_ok nil_ok rsized_ok
/-! downpour/bitrow.fresh -/
noncomputable def freshF_s1 {R : Type} (n : Int) (c0 : Int → Nat → Nat → List Int → Option R) : Option R :=
  bnd (divI .quo .i64 (IntKind.i64.wrap ((IntKind.i64.wrap (n + 64)) - 1)) 64) fun v1 =>
  bnd (mkN v1 v1 8) fun n2 =>
  c0 n 0 n2 (List.replicate n2 (0 : Int))
theorem freshF_s1_eq (fuel : Nat)  (n : Int) : callN Tryd.prog mode1 T_rsized fuel 179 [.s (.int .i64 n)] [] = freshF_s1 n (fun (a3 : Int) (a4 : Nat) (a5 : Nat) (a6 : List Int) => some (.agg [.s (.int .i64 a3), .sl 0 1 a4 a5], [some ⟨22, .li .u64 a6, true⟩])) := by kernel_rfl
noncomputable def freshF {R : Type} (fuel : Nat) (n : Int) (r0 : Int → Nat → Nat → List Int → Option R) : Option R :=
  (freshF_s1 n (fun (a3 : Int) (a4 : Nat) (a5 : Nat) (a6 : List Int) => r0 a3 a4 a5 a6))
theorem freshF_eq (fuel : Nat) (n : Int) : callN Tryd.prog mode1 T_rsized fuel 179 [.s (.int .i64 n)] [] = freshF fuel n (fun (z0 : Int) (z1 : Nat) (z2 : Nat) (z3 : List Int) => some (.agg [.s (.int .i64 z0), .sl 0 1 z1 z2], [some ⟨22, .li .u64 z3, true⟩])) := by
  unfold freshF
  exact (freshF_s1_eq fuel  n)
theorem count_words {n : Int} (h0 : 0 ≤ n) (h1 : n ≤ 512) : divI .quo .i64 (IntKind.i64.wrap (IntKind.i64.wrap (n + 64) - 1)) 64 = some ((nw n : Nat) : Int) := by
  rw [wrap_i64 (x := n + 64) (by omega) (by omega), wrap_i64 (by omega) (by omega), quo_i64 (by omega) (by omega) (by decide), nw_cast h0]
  congr 2
  omega
theorem fresh_fact (n : Int) (hg : (szB n) = true) : Fact Tryd.prog gTab 179 [.s (.int .i64 n)] [] (.agg [.s (.int .i64 n), .sl 0 1 0 (nw n)], [some ⟨22, .li .u64 (zerosS (nw n)), true⟩]) := by
  obtain ⟨h0, h1⟩ := szB_iff.1 hg
  refine callN_fact hN hM T_rsized_ok (n := 0) (mode := mode1) ?_
  rw [freshF_eq]
  unfold freshF freshF_s1
  have hl := nw_le h1
  rw [count_words h0 h1, bnd_some, bnd_of (mkN_of (by omega) (by omega) (by omega)), Int.toNat_natCast, zerosS_eq]
  rfl
noncomputable def fresh_ent : List V → List Blk → Option (Bool × Out)
  | [.s (.int .i64 n)], [] => some ((szB n), (.agg [.s (.int .i64 n), .sl 0 1 0 (nw n)], [some ⟨22, .li .u64 (zerosS (nw n)), true⟩]))
  | _, _ => none
theorem fresh_ok : ∀ args bs out, fresh_ent args bs = some (true, out) → Fact Tryd.prog gTab 179 args bs out := by
  intro args bs out h
  unfold fresh_ent at h
  split at h
  · rename_i n
    simp only [Option.some.injEq, Prod.mk.injEq] at h
    obtain ⟨hg, rfl⟩ := h
    exact fresh_fact n hg
  · cases h
noncomputable def T_fresh : Tbl := Tbl.cons 179 fresh_ent T_rsized
theorem T_fresh_ok : CallOk Tryd.prog gTab T_fresh := cons_ok T_rsized_ok fresh_ok
/-! downpour/bitrow.Right -/
noncomputable def rightF_s1 {R : Type} (n : Int) (ws : List Int) (c0 : Bool → Option R) : Option R :=
  br (!(szB n))
    (c0 false)
    (bnd (divI .quo .i64 (IntKind.i64.wrap ((IntKind.i64.wrap (n + 64)) - 1)) 64) fun v2 =>
    br (((ws.length : Nat) : Int) != v2)
      (c0 false)
      (bnd (divI .rem .i64 n 64) fun v4 =>
      br (v4 == 0)
        (c0 true)
        (bnd (ix ws (IntKind.i64.wrap (((ws.length : Nat) : Int) - 1))) fun e6 =>
        bnd (divI .rem .i64 n 64) fun v7 =>
        bnd (shfI .shr .u64 e6 v7) fun v8 =>
        c0 (v8 == 0))))
theorem rightF_s1_eq (fuel : Nat)  (n : Int) (ws : List Int) : callN Tryd.prog mode1 T_fresh fuel 69 [.agg [.s (.int .i64 n), .li .u64 ws]] [] = rightF_s1 n ws (fun (a1 : Bool) => some (.s (.bool a1), [])) := by kernel_rfl
noncomputable def rightF {R : Type} (fuel : Nat) (n : Int) (ws : List Int) (r0 : Bool → Option R) : Option R :=
  (rightF_s1 n ws (fun (a1 : Bool) => r0 a1))
theorem rightF_eq (fuel : Nat) (n : Int) (ws : List Int) : callN Tryd.prog mode1 T_fresh fuel 69 [.agg [.s (.int .i64 n), .li .u64 ws]] [] = rightF fuel n ws (fun (z0 : Bool) => some (.s (.bool z0), [])) := by
  unfold rightF
  exact (rightF_s1_eq fuel  n ws)
theorem right_fact (n : Int) (ws : List Int) (hg : (okW ws) = true) : Fact Tryd.prog gTab 69 [.agg [.s (.int .i64 n), .li .u64 ws]] [] (.s (.bool (rtS n ws)), []) := by
  have hok := okW_iff.1 hg
  refine callN_fact hN hM T_fresh_ok (n := 0) (mode := mode1) ?_
  rw [rightF_eq]
  unfold rightF rightF_s1
  by_cases hs : szB n = true
  · obtain ⟨h0, h1⟩ := szB_iff.1 hs
    have hw := nw_cast h0
    rw [hs, br_if, if_neg (by decide), count_words h0 h1, bnd_some, br_if]
    by_cases hl : ws.length = nw n
    · rw [if_neg (by simp [hl]), bnd_of (rem_pos h0 (by decide)), br_if]
      obtain ⟨j, rfl⟩ : ∃ j : Nat, n = (j : Int) := ⟨n.toNat, by omega⟩
      have hlt := val_lt hok
      by_cases hm : (j : Int) % 64 = 0
      · rw [if_pos (by simpa using hm)]
        have : rtS (j : Int) ws = true := rtS_iff.2 ⟨⟨h0, h1⟩, hl, by rw [Int.toNat_natCast]; rwa [show 64 * ws.length = j by omega] at hlt⟩
        rw [this]
      · rw [if_neg (by simpa using hm)]
        have hpos : 0 < ws.length := by omega
        have hi : IntKind.i64.wrap (((ws.length : Nat) : Int) - 1) = ((ws.length - 1 : Nat) : Int) := by rw [wrap_i64 (by omega) (by omega)]; omega
        have hget : ws[ws.length - 1]? = some (ws.getD (ws.length - 1) 0) := by rw [List.getD_eq_getElem?_getD, List.getElem?_eq_getElem (by omega)]; rfl
        have hr := hok.getD (ws.length - 1)
        rw [hi, bnd_of ((ix_nat _ _).trans hget), bnd_of (rem_pos h0 (by decide)), show (j : Int) % 64 = ((j % 64 : Nat) : Int) by omega, bnd_of (shr_nat hr.1 (Nat.mod_lt _ (by decide)))]
        have hli := last_iff hok hpos (n := j) (by omega)
        rw [show j - 64 * (ws.length - 1) = j % 64 by omega] at hli
        refine congrArg (fun b => (some (V.s (.bool b), []) : Option Out)) ?_
        rw [Bool.eq_iff_iff, rtS_iff]
        simp only [beq_iff_eq]
        constructor
        · intro h
          exact ⟨⟨h0, h1⟩, hl, by rw [Int.toNat_natCast]; exact hli.1 (by omega)⟩
        · rintro ⟨_, _, h⟩
          rw [Int.toNat_natCast] at h
          have := hli.2 h
          omega
    · rw [if_pos (by simp; omega)]
      have : rtS n ws = false := by rw [Bool.eq_false_iff]; intro h; exact hl (rtS_iff.1 h).2.1
      rw [this]
  · rw [br_if, if_pos (by simpa using hs)]
    have : rtS n ws = false := by rw [Bool.eq_false_iff]; intro h; exact hs (szB_iff.2 (rtS_iff.1 h).1)
    rw [this]
noncomputable def right_ent : List V → List Blk → Option (Bool × Out)
  | [.agg [.s (.int .i64 n), w0]], [] => (asSl (.int .u64) w0).bind fun ws => some ((okW ws), (.s (.bool (rtS n ws)), []))
  | _, _ => none
theorem right_ok : ∀ args bs out, right_ent args bs = some (true, out) → Fact Tryd.prog gTab 69 args bs out := by
  intro args bs out h
  unfold right_ent at h
  split at h
  · rename_i n w0
    obtain ⟨ws, h_ws, h⟩ := Option.bind_eq_some_iff.1 h
    simp only [Option.some.injEq, Prod.mk.injEq] at h
    obtain ⟨hg, rfl⟩ := h
    exact (right_fact n ws hg).args (fun _ _ _ => fun _ h => RVs_two (fun _ h => RV_agg_two (fun _ h => RVs_two (fun _ h => h) (fun _ h => RVs_two (fun _ h => RV_li h_ws h) (fun _ h => h) h) h) h) (fun _ h => h) h)
  · cases h
noncomputable def T_right : Tbl := Tbl.cons 69 right_ent T_fresh
theorem T_right_ok : CallOk Tryd.prog gTab T_right := cons_ok T_fresh_ok right_ok
/-! downpour/bitrow.Of -/
noncomputable def rowOfF_s2 {R : Type} (w14 : Int) (w15 : Int) (l : List Int) (w16 : Nat) (w17 : List Int) (n : Int) (c0 : Nat → List Int → Option R) (c1 : Nat → List Int → Option R) (c2 : Int → Int → Nat → List Int → Option R) (c3 : Nat → List Int → Option R) : Option R :=
  br (decide (w14 < w15))
    (bnd (ix l w14) fun e30 =>
    br (decide (e30 < 0))
      (c0 w16 w17)
      (br (decide (e30 ≥ n))
        (c1 w16 w17)
        (bnd (divI .quo .i64 e30 64) fun v35 =>
        bnd (below v35 w16) fun j36 =>
        bnd (w17[(0 + j36)]?) fun e37 =>
        bnd (divI .rem .i64 e30 64) fun v38 =>
        bnd (shfI .shl .u64 1 v38) fun v39 =>
        bnd (below v35 w16) fun j40 =>
        bnd (w17[(0 + j40)]?) fun e41 =>
        c2 w15 (IntKind.i64.wrap (w14 + 1)) w16 (w17.set (0 + j40) (orI .u64 e37 v39)))))
    (c3 w16 w17)
theorem rowOfF_s2_eq (fuel : Nat) (k : Nat) (K : Ex → St → Option Out) (w14 : Int) (w15 : Int) (l : List Int) (w16 : Nat) (w17 : List Int) (n : Int) : lpN (sub (bodyOf Tryd.prog 123) [1, 1, 1, 0, 1, 0, 0]) (fnX Tryd.prog mode1 T_right fuel 42 0) 2199023255664 [0, 4, 5, 6, 15, 16, 17] (k + 1) ⟨[(0, .s (.int .i64 n)), (4, .ptr 0 2 0 0), (5, .s (.int .i64 0)), (6, .ptr 1 2 0 0), (15, .li .i64 l), (16, .s (.int .i64 w15)), (17, .s (.int .i64 w14))], [(0, some ⟨29, .agg [.s (.int .i64 0), .s (.slice none 0 0)], true⟩), (1, some ⟨29, .agg [.s (.int .i64 n), .sl 2 1 0 w16], true⟩), (2, some ⟨22, .li .u64 w17, true⟩)], 3, none⟩ K = rowOfF_s2 w14 w15 l w16 w17 n (fun (a31 : Nat) (a32 : List Int) => K .ret ⟨[(4, .ptr 0 2 0 0), (5, .s (.int .i64 3)), (6, .ptr 1 2 0 0)], [(0, some ⟨29, .agg [.s (.int .i64 0), .s (.slice none 0 0)], true⟩), (1, some ⟨29, .agg [.s (.int .i64 n), .sl 2 1 0 a31], true⟩), (2, some ⟨22, .li .u64 a32, true⟩)], 3, none⟩) (fun (a33 : Nat) (a34 : List Int) => K .ret ⟨[(4, .ptr 0 2 0 0), (5, .s (.int .i64 3)), (6, .ptr 1 2 0 0)], [(0, some ⟨29, .agg [.s (.int .i64 0), .s (.slice none 0 0)], true⟩), (1, some ⟨29, .agg [.s (.int .i64 n), .sl 2 1 0 a33], true⟩), (2, some ⟨22, .li .u64 a34, true⟩)], 3, none⟩) (fun (a42 : Int) (a43 : Int) (a44 : Nat) (a45 : List Int) => lpN (sub (bodyOf Tryd.prog 123) [1, 1, 1, 0, 1, 0, 0]) (fnX Tryd.prog mode1 T_right fuel 42 0) 2199023255664 [0, 4, 5, 6, 15, 16, 17] k ⟨[(0, .s (.int .i64 n)), (4, .ptr 0 2 0 0), (5, .s (.int .i64 0)), (6, .ptr 1 2 0 0), (15, .li .i64 l), (16, .s (.int .i64 a42)), (17, .s (.int .i64 a43))], [(0, some ⟨29, .agg [.s (.int .i64 0), .s (.slice none 0 0)], true⟩), (1, some ⟨29, .agg [.s (.int .i64 n), .sl 2 1 0 a44], true⟩), (2, some ⟨22, .li .u64 a45, true⟩)], 3, none⟩ K) (fun (a46 : Nat) (a47 : List Int) => K (.exit 0) ⟨[(4, .ptr 0 2 0 0), (5, .s (.int .i64 0)), (6, .ptr 1 2 0 0)], [(0, some ⟨29, .agg [.s (.int .i64 0), .s (.slice none 0 0)], true⟩), (1, some ⟨29, .agg [.s (.int .i64 n), .sl 2 1 0 a46], true⟩), (2, some ⟨22, .li .u64 a47, true⟩)], 3, none⟩) := by kernel_rfl
noncomputable def rowOfF_l1 {R : Type} (fuel : Nat) (n : Int) (l : List Int) (k0 : Nat → List Int → Option R) (k1 : Nat → List Int → Option R) : Nat → Int → Int → Nat → List Int → Option R
  | 0, _, _, _, _ => none
  | k + 1, w15, w14, w16, w17 =>
    (rowOfF_s2 w14 w15 l w16 w17 n (fun (a31 : Nat) (a32 : List Int) => k0 a31 a32) (fun (a33 : Nat) (a34 : List Int) => k0 a33 a34) (fun (a42 : Int) (a43 : Int) (a44 : Nat) (a45 : List Int) => ( rowOfF_l1 fuel n l k0 k1 k a42 a43 a44 a45 )) (fun (a46 : Nat) (a47 : List Int) => k1 a46 a47))
theorem rowOfF_l1_eq (fuel : Nat) (n : Int) (l : List Int) (K : Ex → St → Option Out) : ∀ (k : Nat) (w15 : Int) (w14 : Int) (w16 : Nat) (w17 : List Int), lpN (sub (bodyOf Tryd.prog 123) [1, 1, 1, 0, 1, 0, 0]) (fnX Tryd.prog mode1 T_right fuel 42 0) 2199023255664 [0, 4, 5, 6, 15, 16, 17] k ⟨[(0, .s (.int .i64 n)), (4, .ptr 0 2 0 0), (5, .s (.int .i64 0)), (6, .ptr 1 2 0 0), (15, .li .i64 l), (16, .s (.int .i64 w15)), (17, .s (.int .i64 w14))], [(0, some ⟨29, .agg [.s (.int .i64 0), .s (.slice none 0 0)], true⟩), (1, some ⟨29, .agg [.s (.int .i64 n), .sl 2 1 0 w16], true⟩), (2, some ⟨22, .li .u64 w17, true⟩)], 3, none⟩ K = rowOfF_l1 fuel n l (fun (y26 : Nat) (y27 : List Int) => K .ret ⟨[(4, .ptr 0 2 0 0), (5, .s (.int .i64 3)), (6, .ptr 1 2 0 0)], [(0, some ⟨29, .agg [.s (.int .i64 0), .s (.slice none 0 0)], true⟩), (1, some ⟨29, .agg [.s (.int .i64 n), .sl 2 1 0 y26], true⟩), (2, some ⟨22, .li .u64 y27, true⟩)], 3, none⟩) (fun (y28 : Nat) (y29 : List Int) => K (.exit 0) ⟨[(4, .ptr 0 2 0 0), (5, .s (.int .i64 0)), (6, .ptr 1 2 0 0)], [(0, some ⟨29, .agg [.s (.int .i64 0), .s (.slice none 0 0)], true⟩), (1, some ⟨29, .agg [.s (.int .i64 n), .sl 2 1 0 y28], true⟩), (2, some ⟨22, .li .u64 y29, true⟩)], 3, none⟩) k w15 w14 w16 w17
  | 0, _, _, _, _ => rfl
  | k + 1, w15, w14, w16, w17 => by
    unfold rowOfF_l1
    exact (rowOfF_s2_eq fuel k K w14 w15 l w16 w17 n).trans (congr (congr (congr (congr (Eq.refl (rowOfF_s2 (R := Out) w14 w15 l w16 w17 n)) (rfl)) (rfl)) (funext fun a42 => funext fun a43 => funext fun a44 => funext fun a45 => rowOfF_l1_eq fuel n l K k a42 a43 a44 a45)) (rfl))
noncomputable def rowOfF_s3 {R : Type} (n : Int) (x52 : Nat) (x53 : List Int) (c0 : Int → Int → Option R) : Option R :=
  c0 0 3
theorem rowOfF_s3_eq (fuel : Nat)  (n : Int) (x52 : Nat) (x53 : List Int) : (kont (fnX Tryd.prog mode1 T_right fuel 42 0) (bodyOf Tryd.prog 123) [1, 1, 1, 0, 1, 0] 48 (endK Tryd.prog 0 0 123)) .ret ⟨[(4, .ptr 0 2 0 0), (5, .s (.int .i64 3)), (6, .ptr 1 2 0 0)], [(0, some ⟨29, .agg [.s (.int .i64 0), .s (.slice none 0 0)], true⟩), (1, some ⟨29, .agg [.s (.int .i64 n), .sl 2 1 0 x52], true⟩), (2, some ⟨22, .li .u64 x53, true⟩)], 3, none⟩ = rowOfF_s3 n x52 x53 (fun (a54 : Int) (a55 : Int) => some (.tup [.agg [.s (.int .i64 a54), .s (.slice none 0 0)], .s (.int .i64 a55)], [])) := by kernel_rfl
noncomputable def rowOfF_s4 {R : Type} (n : Int) (x57 : List Int) (x56 : Nat) (c0 : Int → List Int → Int → Option R) : Option R :=
  c0 n ((x57.drop 0).take x56) 0
theorem rowOfF_s4_eq (fuel : Nat)  (n : Int) (x57 : List Int) (x56 : Nat) : (kont (fnX Tryd.prog mode1 T_right fuel 42 0) (bodyOf Tryd.prog 123) [1, 1, 1, 0, 1, 0] 48 (endK Tryd.prog 0 0 123)) (.exit 0) ⟨[(4, .ptr 0 2 0 0), (5, .s (.int .i64 0)), (6, .ptr 1 2 0 0)], [(0, some ⟨29, .agg [.s (.int .i64 0), .s (.slice none 0 0)], true⟩), (1, some ⟨29, .agg [.s (.int .i64 n), .sl 2 1 0 x56], true⟩), (2, some ⟨22, .li .u64 x57, true⟩)], 3, none⟩ = rowOfF_s4 n x57 x56 (fun (a58 : Int) (a59 : List Int) (a60 : Int) => some (.tup [.agg [.s (.int .i64 a58), .li .u64 a59], .s (.int .i64 a60)], [])) := by kernel_rfl
noncomputable def rowOfF_s1 {R : Type} (n : Int) (l : List Int) (c0 : Int → Int → Option R) (c1 : Int → Int → Nat → List Int → Option R) : Option R :=
  br (!(szB n))
    (c0 0 2)
    (grd (szB n) <|
    c1 ((l.length : Nat) : Int) 0 (nw n) (zerosS (nw n)))
theorem rowOfF_s1_eq (fuel : Nat)  (n : Int) (l : List Int) : callN Tryd.prog mode1 T_right fuel 123 [.s (.int .i64 n), .li .i64 l] [] = rowOfF_s1 n l (fun (a1 : Int) (a2 : Int) => some (.tup [.agg [.s (.int .i64 a1), .s (.slice none 0 0)], .s (.int .i64 a2)], [])) (fun (a48 : Int) (a49 : Int) (a50 : Nat) (a51 : List Int) => lpN (sub (bodyOf Tryd.prog 123) [1, 1, 1, 0, 1, 0, 0]) (fnX Tryd.prog mode1 T_right fuel 42 0) 2199023255664 [0, 4, 5, 6, 15, 16, 17] fuel ⟨[(0, .s (.int .i64 n)), (4, .ptr 0 2 0 0), (5, .s (.int .i64 0)), (6, .ptr 1 2 0 0), (15, .li .i64 l), (16, .s (.int .i64 a48)), (17, .s (.int .i64 a49))], [(0, some ⟨29, .agg [.s (.int .i64 0), .s (.slice none 0 0)], true⟩), (1, some ⟨29, .agg [.s (.int .i64 n), .sl 2 1 0 a50], true⟩), (2, some ⟨22, .li .u64 a51, true⟩)], 3, none⟩ (kont (fnX Tryd.prog mode1 T_right fuel 42 0) (bodyOf Tryd.prog 123) [1, 1, 1, 0, 1, 0] 48 (endK Tryd.prog 0 0 123))) := by kernel_rfl
noncomputable def rowOfF {R : Type} (fuel : Nat) (n : Int) (l : List Int) (r0 : Int → Int → Option R) (r1 : Int → List Int → Int → Option R) : Option R :=
  (rowOfF_s1 n l (fun (a1 : Int) (a2 : Int) => r0 a1 a2) (fun (a48 : Int) (a49 : Int) (a50 : Nat) (a51 : List Int) => (rowOfF_l1 fuel n l (fun (x52 : Nat) (x53 : List Int) => (rowOfF_s3 n x52 x53 (fun (a54 : Int) (a55 : Int) => r0 a54 a55))) (fun (x56 : Nat) (x57 : List Int) => (rowOfF_s4 n x57 x56 (fun (a58 : Int) (a59 : List Int) (a60 : Int) => r1 a58 a59 a60))) fuel a48 a49 a50 a51)))
theorem rowOfF_eq (fuel : Nat) (n : Int) (l : List Int) : callN Tryd.prog mode1 T_right fuel 123 [.s (.int .i64 n), .li .i64 l] [] = rowOfF fuel n l (fun (z0 : Int) (z1 : Int) => some (.tup [.agg [.s (.int .i64 z0), .s (.slice none 0 0)], .s (.int .i64 z1)], [])) (fun (z0 : Int) (z1 : List Int) (z2 : Int) => some (.tup [.agg [.s (.int .i64 z0), .li .u64 z1], .s (.int .i64 z2)], [])) := by
  unfold rowOfF
  exact (rowOfF_s1_eq fuel  n l).trans (congr (congr (Eq.refl (rowOfF_s1 (R := Out) n l)) (rfl)) (funext fun a48 => funext fun a49 => funext fun a50 => funext fun a51 => (rowOfF_l1_eq fuel n l (kont (fnX Tryd.prog mode1 T_right fuel 42 0) (bodyOf Tryd.prog 123) [1, 1, 1, 0, 1, 0] 48 (endK Tryd.prog 0 0 123)) fuel a48 a49 a50 a51).trans (congrFun (congrFun (congrFun (congrFun (congrFun (congr (congr (Eq.refl (rowOfF_l1 (R := Out) fuel n l)) (funext fun x52 => funext fun x53 => (rowOfF_s3_eq fuel  n x52 x53))) (funext fun x56 => funext fun x57 => (rowOfF_s4_eq fuel  n x57 x56))) fuel) a48) a49) a50) a51)))
theorem rowOf_loop {R : Type} (fuel : Nat) (n : Int) (l : List Int) (h0 : 0 ≤ n) (h1 : n ≤ 512) (hl : l.length ≤ 1000000) (k0 k1 : Nat → List Int → Option R) (r : Option R) (hr0 : (¬ ∀ z ∈ l, 0 ≤ z ∧ z < n) → ∀ a b, k0 a b = r)
    (hr1 : (∀ z ∈ l, 0 ≤ z ∧ z < n) → k1 (nw n) (ofS n l) = r) : ∀ (k i : Nat) (ws : List Int), i ≤ l.length → l.length < i + k → Ok ws → ws.length = nw n →
    (∀ z ∈ l.take i, 0 ≤ z ∧ z < n) → (∀ j, (val ws).testBit j = decide ((j : Int) ∈ l.take i)) → rowOfF_l1 fuel n l k0 k1 k (l.length : Int) (i : Int) (nw n) ws = r
  | 0, i, ws, hi, hk, _, _, _, _ => by omega
  | k + 1, i, ws, hi, hk, hok, hlen, hr, hb => by
    have hw := nw_cast h0
    unfold rowOfF_l1 rowOfF_s2
    rw [br_if]
    by_cases hc : i < l.length
    · have hm := List.getElem_mem hc
      have htk : ∀ z, z ∈ l.take (i + 1) ↔ z ∈ l.take i ∨ z = l[i] := fun z => by
        rw [List.take_succ_eq_append_getElem hc, List.mem_append, List.mem_singleton]
      rw [if_pos (by simpa using hc), bnd_of ((ix_nat l i).trans (List.getElem?_eq_getElem hc)), br_if]
      by_cases hz : 0 ≤ l[i] ∧ l[i] < n
      · rw [if_neg (by simp; omega), br_if, if_neg (by simp; omega)]
        obtain ⟨b, hbz⟩ : ∃ b : Nat, l[i] = (b : Int) := ⟨l[i].toNat, by omega⟩
        rw [hbz] at hz htk ⊢
        have hj : b / 64 < ws.length := by omega
        have e1 : divI .quo .i64 (b : Int) 64 = some ((b / 64 : Nat) : Int) := by rw [quo_i64 (by omega) (by omega) (by decide)]; norm_cast
        have e2 : divI .rem .i64 (b : Int) 64 = some ((b % 64 : Nat) : Int) := by rw [rem_pos (by omega) (by decide)]; norm_cast
        have e3 : below ((b / 64 : Nat) : Int) (nw n) = some (b / 64) := by rw [below_of (by omega) (by omega)]; rfl
        have e4 : ws[b / 64]? = some (ws.getD (b / 64) 0) := by rw [List.getD_eq_getElem?_getD, List.getElem?_eq_getElem hj]; rfl
        have hg := hok.getD (b / 64)
        have hb64 : b % 64 < 64 := Nat.mod_lt _ (by decide)
        have hp : 2 ^ (b % 64) < 2 ^ 64 := Nat.pow_lt_pow_right (by omega) hb64
        have hor : orI .u64 (ws.getD (b / 64) 0) ((2 ^ (b % 64) : Nat) : Int) = (((ws.getD (b / 64) 0).toNat ||| 2 ^ (b % 64) : Nat) : Int) := by
          rw [orI_nat hg.1 hg.2 (Int.natCast_nonneg _) (by generalize 2 ^ (b % 64) = p at hp ⊢; omega), Int.toNat_natCast]
        have hset := val_set_or hok (b / 64) (b % 64) hj hb64
        have hoks := ok_set_or hok (b / 64) (b % 64) hj hb64
        rw [show 64 * (b / 64) + b % 64 = b from Nat.div_add_mod b 64] at hset
        simp only [e1, bnd_some, e3, Nat.zero_add, e4, e2, shl_one hb64, hor]
        rw [wrap_i64 (by omega) (by omega), show (i : Int) + 1 = ((i + 1 : Nat) : Int) by omega]
        refine rowOf_loop fuel n l h0 h1 hl k0 k1 r hr0 hr1 k (i + 1) _ (by omega) (by omega) hoks (by rw [List.length_set]; exact hlen) ?_ ?_
        · intro z hzm
          rcases (htk z).1 hzm with hzm | rfl
          · exact hr z hzm
          · exact hz
        · intro j
          rw [hset, Nat.testBit_or, hb j, Nat.testBit_two_pow, ← Bool.decide_or, decide_eq_decide, htk]
          constructor
          · rintro (h | h)
            · exact .inl h
            · exact .inr (by omega)
          · rintro (h | h)
            · exact .inl h
            · exact .inr (by omega)
      · have hbad : ¬ ∀ z ∈ l, 0 ≤ z ∧ z < n := fun g => hz (g _ hm)
        by_cases hn : l[i] < 0
        · rw [if_pos (by simpa using hn)]; exact hr0 hbad _ _
        · rw [if_neg (by simpa using hn), br_if, if_pos (by simp; omega)]; exact hr0 hbad _ _
    · rw [if_neg (by simpa using hc)]
      have e : l.take i = l := List.take_of_length_le (by omega)
      rw [e] at hr hb
      rw [words_of (n := n) (l := l) hok hlen (fun j => by rw [hb j, decide_eq_decide]; exact ⟨fun h => ⟨h, (hr _ h).2⟩, fun h => h.1⟩)]
      exact hr1 hr
theorem rowOf_fact (n : Int) (l : List Int) (hg : (decide (l.length ≤ 1000000)) = true) : Fact Tryd.prog gTab 123 [.s (.int .i64 n), .li .i64 l] [] (.tup [.agg [.s (.int .i64 (if ofOk n l = true then n else 0)), .li .u64 (if ofOk n l = true then ofS n l else [])], .s (.int .i64 (ofErr n l))], []) := by
  have hl := of_decide_eq_true hg
  have hnil : ∀ e : Int, ofOk n l = false → ofErr n l = e → Fact Tryd.prog gTab 123 [.s (.int .i64 n), .li .i64 l] [] (.tup [.agg [.s (.int .i64 0), .s (.slice none 0 0)], .s (.int .i64 e)], []) → Fact Tryd.prog gTab 123 [.s (.int .i64 n), .li .i64 l] [] (.tup [.agg [.s (.int .i64 (if ofOk n l = true then n else 0)), .li .u64 (if ofOk n l = true then ofS n l else [])], .s (.int .i64 (ofErr n l))], []) := by
    intro e h1 h2 h
    rw [h1, h2]
    exact h.out fun _ _ _ x h => RV_tup_two (fun _ h => RVs_two (fun _ h => RV_agg_two (fun _ h => RVs_two (fun _ h => h) (fun _ h => RVs_two (fun _ h => RV_nil_li h) (fun _ h => h) h) h) h) (fun _ h => h) h) h
  by_cases hs : szB n = true
  · obtain ⟨h0, h1⟩ := szB_iff.1 hs
    have hlen := nw_le h1
    have hloop := fun (k0 k1 : Nat → List Int → Option Out) r hr0 hr1 => rowOf_loop (l.length + 1) n l h0 h1 hl k0 k1 r hr0 hr1 (l.length + 1) 0 (zerosS (nw n)) (by omega) (by omega) (by rw [zerosS_eq]; exact ok_replicate _) (by rw [zerosS_eq]; exact List.length_replicate) (fun z hz => by simp at hz) (fun j => by rw [zerosS_eq]; unfold zerosI; rw [val_replicate]; simp)
    by_cases hall : ∀ z ∈ l, 0 ≤ z ∧ z < n
    · have hok : ofOk n l = true := ofOk_iff.2 ⟨⟨h0, h1⟩, hall⟩
      have he : ofErr n l = 0 := by rw [ofErr_eq]; unfold ofErrI; rw [if_pos hok]
      rw [hok, he]
      refine callN_fact hN hM T_right_ok (n := l.length + 1) (mode := mode1) ?_
      rw [rowOfF_eq]
      unfold rowOfF rowOfF_s1
      rw [hs, br_if, if_neg (by decide), grd_tt]
      refine hloop _ _ _ (fun h => absurd hall h) fun _ => ?_
      unfold rowOfF_s4
      rw [List.drop_zero, ← of_len n l, List.take_length]
      rfl
    · have hok : ofOk n l = false := by rw [Bool.eq_false_iff]; intro h; exact hall (ofOk_iff.1 h).2
      refine hnil 3 hok (by rw [ofErr_eq]; unfold ofErrI; rw [hok, hs]; rfl) ?_
      refine callN_fact hN hM T_right_ok (n := l.length + 1) (mode := mode1) ?_
      rw [rowOfF_eq]
      unfold rowOfF rowOfF_s1
      rw [hs, br_if, if_neg (by decide), grd_tt]
      exact hloop _ _ _ (fun _ _ _ => rfl) fun h => absurd h hall
  · have hok : ofOk n l = false := by rw [Bool.eq_false_iff]; intro h; exact hs (szB_iff.2 (ofOk_iff.1 h).1)
    have hs' : szB n = false := by rw [Bool.eq_false_iff]; exact hs
    refine hnil 2 hok (by rw [ofErr_eq]; unfold ofErrI; rw [hok, hs']; rfl) ?_
    refine callN_fact hN hM T_right_ok (n := 0) (mode := mode1) ?_
    rw [rowOfF_eq]
    unfold rowOfF rowOfF_s1
    rw [hs', br_if, if_pos (by decide)]
noncomputable def rowOf_ent : List V → List Blk → Option (Bool × Out)
  | [.s (.int .i64 n), w0], [] => (asSl (.int .i64) w0).bind fun l => some ((decide (l.length ≤ 1000000)), (.tup [.agg [.s (.int .i64 (if ofOk n l = true then n else 0)), .li .u64 (if ofOk n l = true then ofS n l else [])], .s (.int .i64 (ofErr n l))], []))
  | _, _ => none
theorem rowOf_ok : ∀ args bs out, rowOf_ent args bs = some (true, out) → Fact Tryd.prog gTab 123 args bs out := by
  intro args bs out h
  unfold rowOf_ent at h
  split at h
  · rename_i n w0
    obtain ⟨l, h_l, h⟩ := Option.bind_eq_some_iff.1 h
    simp only [Option.some.injEq, Prod.mk.injEq] at h
    obtain ⟨hg, rfl⟩ := h
    exact (rowOf_fact n l hg).args (fun _ _ _ => fun _ h => RVs_two (fun _ h => h) (fun _ h => RVs_two (fun _ h => RV_li h_l h) (fun _ h => h) h) h)
  · cases h
noncomputable def T_rowOf : Tbl := Tbl.cons 123 rowOf_ent T_right
theorem T_rowOf_ok : CallOk Tryd.prog gTab T_rowOf := cons_ok T_right_ok rowOf_ok
/-! downpour/bitrow.Get -/
noncomputable def getF_s1 {R : Type} (ws : List Int) (n : Int) (i : Int) (c0 : Int → Int → Option R) : Option R :=
  grd (okW ws) <|
  br (!(rtS n ws))
    (c0 0 1)
    (br (decide (i < 0))
      (c0 0 3)
      (br (decide (i ≥ n))
        (c0 0 3)
        (bnd (divI .quo .i64 i 64) fun v7 =>
        bnd (ix ws v7) fun e8 =>
        bnd (divI .rem .i64 i 64) fun v9 =>
        bnd (shfI .shr .u64 e8 v9) fun v10 =>
        c0 (IntKind.i64.wrap (andI .u64 v10 1)) 0)))
theorem getF_s1_eq (fuel : Nat)  (ws : List Int) (n : Int) (i : Int) : callN Tryd.prog mode1 T_rowOf fuel 86 [.agg [.s (.int .i64 n), .li .u64 ws], .s (.int .i64 i)] [] = getF_s1 ws n i (fun (a1 : Int) (a2 : Int) => some (.tup [.s (.int .i64 a1), .s (.int .i64 a2)], [])) := by kernel_rfl
noncomputable def getF {R : Type} (fuel : Nat) (n : Int) (ws : List Int) (i : Int) (r0 : Int → Int → Option R) : Option R :=
  (getF_s1 ws n i (fun (a1 : Int) (a2 : Int) => r0 a1 a2))
theorem getF_eq (fuel : Nat) (n : Int) (ws : List Int) (i : Int) : callN Tryd.prog mode1 T_rowOf fuel 86 [.agg [.s (.int .i64 n), .li .u64 ws], .s (.int .i64 i)] [] = getF fuel n ws i (fun (z0 : Int) (z1 : Int) => some (.tup [.s (.int .i64 z0), .s (.int .i64 z1)], [])) := by
  unfold getF
  exact (getF_s1_eq fuel  ws n i)
theorem get_fact (n : Int) (ws : List Int) (i : Int) (hg : (okW ws) = true) : Fact Tryd.prog gTab 86 [.agg [.s (.int .i64 n), .li .u64 ws], .s (.int .i64 i)] [] (.tup [.s (.int .i64 (getS n ws i)), .s (.int .i64 (getErr n ws i))], []) := by
  have hok := okW_iff.1 hg
  refine callN_fact hN hM T_rowOf_ok (n := 0) (mode := mode1) ?_
  rw [getF_eq]
  unfold getF getF_s1
  rw [grd_of hg, br_if, br_if, br_if, getS_eq, getErr_eq]
  unfold getI getErrI
  by_cases hr : rtS n ws = true
  · have hr' := rtS_iff.1 hr
    obtain ⟨⟨a1, a2⟩, a3, a4⟩ := hr'
    have hw := nw_cast a1
    rw [if_neg (by simp [hr])]
    by_cases h0 : i < 0
    · rw [if_pos (by simpa using h0)]
      have : ¬ (0 ≤ i ∧ i < n) := by omega
      simp [hr, this]
    · rw [if_neg (by simpa using h0)]
      by_cases h1 : i < n
      · rw [if_neg (by simp; omega)]
        obtain ⟨j, rfl⟩ : ∃ j : Nat, i = (j : Int) := ⟨i.toNat, by omega⟩
        have hj : j / 64 < ws.length := by omega
        have e1 : divI .quo .i64 (j : Int) 64 = some ((j / 64 : Nat) : Int) := by rw [quo_i64 (by omega) (by omega) (by decide)]; norm_cast
        have e2 : divI .rem .i64 (j : Int) 64 = some ((j % 64 : Nat) : Int) := by rw [rem_pos (by omega) (by decide)]; norm_cast
        have e4 : ix ws ((j / 64 : Nat) : Int) = some (ws.getD (j / 64) 0) := by rw [ix_nat, List.getD_eq_getElem?_getD, List.getElem?_eq_getElem hj]; rfl
        have hg2 := hok.getD (j / 64)
        have hb64 : j % 64 < 64 := Nat.mod_lt _ (by decide)
        simp only [e1, bnd_some, e4, e2, shr_nat hg2.1 hb64]
        have hq : (ws.getD (j / 64) 0).toNat / 2 ^ (j % 64) < 18446744073709551616 := Nat.lt_of_le_of_lt (Nat.div_le_self _ _) (by omega)
        have hw : IntKind.i64.wrap (andI .u64 (((ws.getD (j / 64) 0).toNat / 2 ^ (j % 64) : Nat) : Int) 1) = bitI ws (j : Int) := by
          rw [andI_nat (Int.natCast_nonneg _) (by omega) (by decide) (by decide), Int.toNat_natCast, show (1 : Int).toNat = 1 from rfl, Nat.and_one_is_mod, wrap_i64 (by omega) (by omega)]
          unfold bitI
          rw [Int.toNat_natCast, testBit_val hok, Nat.testBit_eq_decide_div_mod_eq]
          generalize (ws.getD (j / 64) 0).toNat / 2 ^ (j % 64) = q
          by_cases h : q % 2 = 1
          · simp [h]
          · simp [h]; omega
        rw [hw, if_pos ⟨hr, by omega, h1⟩, if_pos hr, if_pos ⟨by omega, h1⟩]
      · rw [if_pos (by simp; omega)]
        have : ¬ (0 ≤ i ∧ i < n) := by omega
        simp [hr, this]
  · rw [if_pos (by simp [hr])]
    simp [hr]
noncomputable def get_ent : List V → List Blk → Option (Bool × Out)
  | [.agg [.s (.int .i64 n), w0], .s (.int .i64 i)], [] => (asSl (.int .u64) w0).bind fun ws => some ((okW ws), (.tup [.s (.int .i64 (getS n ws i)), .s (.int .i64 (getErr n ws i))], []))
  | _, _ => none
theorem get_ok : ∀ args bs out, get_ent args bs = some (true, out) → Fact Tryd.prog gTab 86 args bs out := by
  intro args bs out h
  unfold get_ent at h
  split at h
  · rename_i n w0 i
    obtain ⟨ws, h_ws, h⟩ := Option.bind_eq_some_iff.1 h
    simp only [Option.some.injEq, Prod.mk.injEq] at h
    obtain ⟨hg, rfl⟩ := h
    exact (get_fact n ws i hg).args (fun _ _ _ => fun _ h => RVs_two (fun _ h => RV_agg_two (fun _ h => RVs_two (fun _ h => h) (fun _ h => RVs_two (fun _ h => RV_li h_ws h) (fun _ h => h) h) h) h) (fun _ h => h) h)
  · cases h
noncomputable def T_get : Tbl := Tbl.cons 86 get_ent T_rowOf
theorem T_get_ok : CallOk Tryd.prog gTab T_get := cons_ok T_rowOf_ok get_ok
def mode2 : FuncId → Nat := fun f => 0
/-! downpour/downpourref01.words -/
noncomputable def refWordsF_s1 {R : Type} (n : Int) (c0 : Int → Option R) : Option R :=
  bnd (divI .quo .i64 (IntKind.i64.wrap (n + 63)) 64) fun v1 =>
  c0 v1
theorem refWordsF_s1_eq (fuel : Nat)  (n : Int) : callN Tryd.prog mode2 T_get fuel 133 [.s (.int .i64 n)] [] = refWordsF_s1 n (fun (a2 : Int) => some (.s (.int .i64 a2), [])) := by kernel_rfl
noncomputable def refWordsF {R : Type} (fuel : Nat) (n : Int) (r0 : Int → Option R) : Option R :=
  (refWordsF_s1 n (fun (a2 : Int) => r0 a2))
theorem refWordsF_eq (fuel : Nat) (n : Int) : callN Tryd.prog mode2 T_get fuel 133 [.s (.int .i64 n)] [] = refWordsF fuel n (fun (z0 : Int) => some (.s (.int .i64 z0), [])) := by
  unfold refWordsF
  exact (refWordsF_s1_eq fuel  n)
theorem refWords_fact (n : Int) (hg : (decide (0 ≤ n) && decide (n ≤ 1000000)) = true) : Fact Tryd.prog gTab 133 [.s (.int .i64 n)] [] (.s (.int .i64 (((nw n : Nat) : Int))), []) := by
  simp only [Bool.and_eq_true, decide_eq_true_eq] at hg
  refine callN_fact hN hM T_get_ok (n := 0) (mode := mode2) ?_
  rw [refWordsF_eq]
  unfold refWordsF refWordsF_s1
  rw [wrap_i64 (by omega) (by omega), bnd_of (quo_i64 (by omega) (by omega) (by decide)), nw_cast hg.1]
noncomputable def refWords_ent : List V → List Blk → Option (Bool × Out)
  | [.s (.int .i64 n)], [] => some ((decide (0 ≤ n) && decide (n ≤ 1000000)), (.s (.int .i64 (((nw n : Nat) : Int))), []))
  | _, _ => none
theorem refWords_ok : ∀ args bs out, refWords_ent args bs = some (true, out) → Fact Tryd.prog gTab 133 args bs out := by
  intro args bs out h
  unfold refWords_ent at h
  split at h
  · rename_i n
    simp only [Option.some.injEq, Prod.mk.injEq] at h
    obtain ⟨hg, rfl⟩ := h
    exact refWords_fact n hg
  · cases h
noncomputable def T_refWords : Tbl := Tbl.cons 133 refWords_ent T_get
theorem T_refWords_ok : CallOk Tryd.prog gTab T_refWords := cons_ok T_get_ok refWords_ok
/-! downpour/downpourref01.In -/
noncomputable def refIn1F_s2 {R : Type} (w4 : Int) (w3 : Int) (l : List Int) (n : Int) (c0 : Option R) (c1 : Int → Int → Option R) (c2 : Option R) : Option R :=
  br (decide (w4 < w3))
    (bnd (ix l w4) fun e6 =>
    br (e6 == n)
      (c0)
      (c1 w3 (IntKind.i64.wrap (w4 + 1))))
    (c2)
theorem refIn1F_s2_eq (fuel : Nat) (k : Nat) (K : Ex → St → Option Out) (w4 : Int) (w3 : Int) (l : List Int) (n : Int) : lpN (sub (bodyOf Tryd.prog 80) [1, 0, 1, 0, 0]) (fnX Tryd.prog mode2 T_refWords fuel 17 0) 16 [1, 4, 7, 8, 9] (k + 1) ⟨[(1, .s (.int .i64 n)), (4, .s (.bool false)), (7, .li .i64 l), (8, .s (.int .i64 w3)), (9, .s (.int .i64 w4))], [], 0, none⟩ K = refIn1F_s2 w4 w3 l n (K .ret ⟨[(4, .s (.bool true))], [], 0, none⟩) (fun (a7 : Int) (a8 : Int) => lpN (sub (bodyOf Tryd.prog 80) [1, 0, 1, 0, 0]) (fnX Tryd.prog mode2 T_refWords fuel 17 0) 16 [1, 4, 7, 8, 9] k ⟨[(1, .s (.int .i64 n)), (4, .s (.bool false)), (7, .li .i64 l), (8, .s (.int .i64 a7)), (9, .s (.int .i64 a8))], [], 0, none⟩ K) (K (.exit 0) ⟨[(4, .s (.bool false))], [], 0, none⟩) := by kernel_rfl
noncomputable def refIn1F_l1 {R : Type} (fuel : Nat) (n : Int) (l : List Int) (k0 : Option R) (k1 : Option R) : Nat → Int → Int → Option R
  | 0, _, _ => none
  | k + 1, w3, w4 =>
    (refIn1F_s2 w4 w3 l n (k0) (fun (a7 : Int) (a8 : Int) => ( refIn1F_l1 fuel n l k0 k1 k a7 a8 )) (k1))
theorem refIn1F_l1_eq (fuel : Nat) (n : Int) (l : List Int) (K : Ex → St → Option Out) : ∀ (k : Nat) (w3 : Int) (w4 : Int), lpN (sub (bodyOf Tryd.prog 80) [1, 0, 1, 0, 0]) (fnX Tryd.prog mode2 T_refWords fuel 17 0) 16 [1, 4, 7, 8, 9] k ⟨[(1, .s (.int .i64 n)), (4, .s (.bool false)), (7, .li .i64 l), (8, .s (.int .i64 w3)), (9, .s (.int .i64 w4))], [], 0, none⟩ K = refIn1F_l1 fuel n l (K .ret ⟨[(4, .s (.bool true))], [], 0, none⟩) (K (.exit 0) ⟨[(4, .s (.bool false))], [], 0, none⟩) k w3 w4
  | 0, _, _ => rfl
  | k + 1, w3, w4 => by
    unfold refIn1F_l1
    exact (refIn1F_s2_eq fuel k K w4 w3 l n).trans (congr (congr (congr (Eq.refl (refIn1F_s2 (R := Out) w4 w3 l n)) (rfl)) (funext fun a7 => funext fun a8 => refIn1F_l1_eq fuel n l K k a7 a8)) (rfl))
noncomputable def refIn1F_s3 {R : Type}  (c0 : Bool → Option R) : Option R :=
  c0 true
theorem refIn1F_s3_eq (fuel : Nat)   : (kont (fnX Tryd.prog mode2 T_refWords fuel 17 0) (bodyOf Tryd.prog 80) [1, 0, 1, 0] 16 (endK Tryd.prog 0 0 80)) .ret ⟨[(4, .s (.bool true))], [], 0, none⟩ = refIn1F_s3  (fun (a11 : Bool) => some (.s (.bool a11), [])) := by kernel_rfl
noncomputable def refIn1F_s4 {R : Type}  (c0 : Bool → Option R) : Option R :=
  c0 false
theorem refIn1F_s4_eq (fuel : Nat)   : (kont (fnX Tryd.prog mode2 T_refWords fuel 17 0) (bodyOf Tryd.prog 80) [1, 0, 1, 0] 16 (endK Tryd.prog 0 0 80)) (.exit 0) ⟨[(4, .s (.bool false))], [], 0, none⟩ = refIn1F_s4  (fun (a12 : Bool) => some (.s (.bool a12), [])) := by kernel_rfl
noncomputable def refIn1F_s1 {R : Type} (l : List Int) (n : Int) (c0 : Int → Int → Option R) : Option R :=
  c0 ((l.length : Nat) : Int) 0
theorem refIn1F_s1_eq (fuel : Nat)  (l : List Int) (n : Int) : callN Tryd.prog mode2 T_refWords fuel 80 [.li .i64 l, .s (.int .i64 n)] [] = refIn1F_s1 l n (fun (a9 : Int) (a10 : Int) => lpN (sub (bodyOf Tryd.prog 80) [1, 0, 1, 0, 0]) (fnX Tryd.prog mode2 T_refWords fuel 17 0) 16 [1, 4, 7, 8, 9] fuel ⟨[(1, .s (.int .i64 n)), (4, .s (.bool false)), (7, .li .i64 l), (8, .s (.int .i64 a9)), (9, .s (.int .i64 a10))], [], 0, none⟩ (kont (fnX Tryd.prog mode2 T_refWords fuel 17 0) (bodyOf Tryd.prog 80) [1, 0, 1, 0] 16 (endK Tryd.prog 0 0 80))) := by kernel_rfl
noncomputable def refIn1F {R : Type} (fuel : Nat) (l : List Int) (n : Int) (r0 : Bool → Option R) : Option R :=
  (refIn1F_s1 l n (fun (a9 : Int) (a10 : Int) => (refIn1F_l1 fuel n l ((refIn1F_s3 (fun (a11 : Bool) => r0 a11))) ((refIn1F_s4 (fun (a12 : Bool) => r0 a12))) fuel a9 a10)))
theorem refIn1F_eq (fuel : Nat) (l : List Int) (n : Int) : callN Tryd.prog mode2 T_refWords fuel 80 [.li .i64 l, .s (.int .i64 n)] [] = refIn1F fuel l n (fun (z0 : Bool) => some (.s (.bool z0), [])) := by
  unfold refIn1F
  exact (refIn1F_s1_eq fuel  l n).trans (congr (Eq.refl (refIn1F_s1 (R := Out) l n)) (funext fun a9 => funext fun a10 => (refIn1F_l1_eq fuel n l (kont (fnX Tryd.prog mode2 T_refWords fuel 17 0) (bodyOf Tryd.prog 80) [1, 0, 1, 0] 16 (endK Tryd.prog 0 0 80)) fuel a9 a10).trans (congrFun (congrFun (congrFun (congr (congr (Eq.refl (refIn1F_l1 (R := Out) fuel n l)) ((refIn1F_s3_eq fuel  ))) ((refIn1F_s4_eq fuel  ))) fuel) a9) a10)))
theorem refIn1_loop {R : Type} (fuel : Nat) (n : Int) (xs : List Int) (hx : xs.length ≤ 1000000) (k0 k1 : Option R) : ∀ (k j : Nat), j ≤ xs.length → xs.length < j + k → refIn1F_l1 fuel n xs k0 k1 k (xs.length : Int) (j : Int) = if (xs.drop j).contains n = true then k0 else k1
  | 0, j, h1, h2 => by omega
  | k + 1, j, h1, h2 => by
    unfold refIn1F_l1 refIn1F_s2
    rw [br_if]
    by_cases hc : j < xs.length
    · rw [if_pos (by simpa using hc), bnd_of ((ix_nat xs j).trans (List.getElem?_eq_getElem hc)), br_if, List.drop_eq_getElem_cons hc, wrap_i64 (by omega) (by omega), show (j : Int) + 1 = ((j + 1 : Nat) : Int) by omega]
      dsimp only
      rw [refIn1_loop fuel n xs hx k0 k1 k (j + 1) (by omega) (by omega)]
      generalize xs[j] = x
      generalize xs.drop (j + 1) = t
      rw [List.contains_cons]
      by_cases he : x = n
      · simp [he]
      · have he' : ¬ n = x := fun h => he h.symm
        simp [he, he']
    · rw [if_neg (by simpa using hc), List.drop_eq_nil_of_le (by omega)]
      simp
theorem refIn1_fact (l : List Int) (n : Int) (hg : (decide (l.length ≤ 1000000)) = true) : Fact Tryd.prog gTab 80 [.li .i64 l, .s (.int .i64 n)] [] (.s (.bool (inL l n)), []) := by
  have hl := of_decide_eq_true hg
  refine callN_fact hN hM T_refWords_ok (n := l.length + 1) (mode := mode2) ?_
  rw [refIn1F_eq]
  unfold refIn1F refIn1F_s1
  have := refIn1_loop (R := Out) (l.length + 1) n l hl
  dsimp only
  rw [show (0 : Int) = ((0 : Nat) : Int) from rfl, this _ _ _ _ (by omega) (by omega), List.drop_zero, inL_eq]
  unfold inLI refIn1F_s3 refIn1F_s4
  cases l.contains n <;> rfl
noncomputable def refIn1_ent : List V → List Blk → Option (Bool × Out)
  | [w0, .s (.int .i64 n)], [] => (asSl (.int .i64) w0).bind fun l => some ((decide (l.length ≤ 1000000)), (.s (.bool (inL l n)), []))
  | _, _ => none
theorem refIn1_ok : ∀ args bs out, refIn1_ent args bs = some (true, out) → Fact Tryd.prog gTab 80 args bs out := by
  intro args bs out h
  unfold refIn1_ent at h
  split at h
  · rename_i w0 n
    obtain ⟨l, h_l, h⟩ := Option.bind_eq_some_iff.1 h
    simp only [Option.some.injEq, Prod.mk.injEq] at h
    obtain ⟨hg, rfl⟩ := h
    exact (refIn1_fact l n hg).args (fun _ _ _ => fun _ h => RVs_two (fun _ h => RV_li h_l h) (fun _ h => h) h)
  · cases h
noncomputable def T_refIn1 : Tbl := Tbl.cons 80 refIn1_ent T_refWords
theorem T_refIn1_ok : CallOk Tryd.prog gTab T_refIn1 := cons_ok T_refWords_ok refIn1_ok
/-! downpour/downpourref01.From -/
noncomputable def refFromF_s3 {R : Type} (w98 : Int) (l : List Int) (w97 : Int) (w99 : Int) (w100 : Int) (w101 : Bool) (w1 : Int) (c0 : Int → Int → Int → Int → Bool → Option R) (c1 : Int → Int → Int → Int → Bool → Option R) (c2 : Int → Int → Int → Int → Bool → Option R) (c3 : Int → Int → Int → Int → Bool → Bool → Option R) : Option R :=
  br (decide (w98 ≥ 0))
    (br (decide ((IntKind.i64.wrap (0 + w98)) < ((l.length : Nat) : Int)))
      (bnd (ix l (IntKind.i64.wrap (0 + w98))) fun e109 =>
      br (e109 == 1)
        (c0 (IntKind.u64.wrap ((IntKind.u64.wrap (2 * w97)) + 1)) (IntKind.i64.wrap (w98 - 1)) w99 w100 w101)
        (c1 (IntKind.u64.wrap (2 * w97)) (IntKind.i64.wrap (w98 - 1)) w99 w100 w101))
      (c2 (IntKind.u64.wrap (2 * w97)) (IntKind.i64.wrap (w98 - 1)) w99 w100 w101))
    (c3 w97 w98 w99 w100 w101 (decide (w98 ≥ 0)))
theorem refFromF_s3_eq (fuel : Nat) (k : Nat) (K : Ex → St → Option Out) (w98 : Int) (l : List Int) (w97 : Int) (w99 : Int) (w100 : Int) (w101 : Bool) (w1 : Int) : lpN (sub (sub (bodyOf Tryd.prog 148) [1, 1, 0, 1, 0, 0]) [1, 0, 0, 1, 0, 1, 0, 0]) (fnX Tryd.prog mode2 T_refIn1 fuel 49 0) 562949953420413 [0, 2, 3, 4, 5, 6, 10, 11, 12, 13, 14] (k + 1) ⟨[(0, .li .i64 l), (2, .ptr 0 2 0 0), (3, .ptr 1 2 0 0), (4, .s (.int .i64 0)), (5, .s (.int .u64 w97)), (6, .s (.int .i64 w98)), (10, .s (.int .i64 0)), (11, .li .i64 l), (12, .s (.int .i64 w99)), (13, .s (.int .i64 w100)), (14, .s (.bool w101))], [(0, some ⟨29, .agg [.s (.int .i64 0), .s (.slice none 0 0)], true⟩), (1, some ⟨29, .agg [.s (.int .i64 w1), .s (.slice none 0 0)], true⟩)], 2, none⟩ K = refFromF_s3 w98 l w97 w99 w100 w101 w1 (fun (a110 : Int) (a111 : Int) (a112 : Int) (a113 : Int) (a114 : Bool) => lpN (sub (sub (bodyOf Tryd.prog 148) [1, 1, 0, 1, 0, 0]) [1, 0, 0, 1, 0, 1, 0, 0]) (fnX Tryd.prog mode2 T_refIn1 fuel 49 0) 562949953420413 [0, 2, 3, 4, 5, 6, 10, 11, 12, 13, 14] k ⟨[(0, .li .i64 l), (2, .ptr 0 2 0 0), (3, .ptr 1 2 0 0), (4, .s (.int .i64 0)), (5, .s (.int .u64 a110)), (6, .s (.int .i64 a111)), (10, .s (.int .i64 0)), (11, .li .i64 l), (12, .s (.int .i64 a112)), (13, .s (.int .i64 a113)), (14, .s (.bool a114))], [(0, some ⟨29, .agg [.s (.int .i64 0), .s (.slice none 0 0)], true⟩), (1, some ⟨29, .agg [.s (.int .i64 w1), .s (.slice none 0 0)], true⟩)], 2, none⟩ K) (fun (a115 : Int) (a116 : Int) (a117 : Int) (a118 : Int) (a119 : Bool) => lpN (sub (sub (bodyOf Tryd.prog 148) [1, 1, 0, 1, 0, 0]) [1, 0, 0, 1, 0, 1, 0, 0]) (fnX Tryd.prog mode2 T_refIn1 fuel 49 0) 562949953420413 [0, 2, 3, 4, 5, 6, 10, 11, 12, 13, 14] k ⟨[(0, .li .i64 l), (2, .ptr 0 2 0 0), (3, .ptr 1 2 0 0), (4, .s (.int .i64 0)), (5, .s (.int .u64 a115)), (6, .s (.int .i64 a116)), (10, .s (.int .i64 0)), (11, .li .i64 l), (12, .s (.int .i64 a117)), (13, .s (.int .i64 a118)), (14, .s (.bool a119))], [(0, some ⟨29, .agg [.s (.int .i64 0), .s (.slice none 0 0)], true⟩), (1, some ⟨29, .agg [.s (.int .i64 w1), .s (.slice none 0 0)], true⟩)], 2, none⟩ K) (fun (a120 : Int) (a121 : Int) (a122 : Int) (a123 : Int) (a124 : Bool) => lpN (sub (sub (bodyOf Tryd.prog 148) [1, 1, 0, 1, 0, 0]) [1, 0, 0, 1, 0, 1, 0, 0]) (fnX Tryd.prog mode2 T_refIn1 fuel 49 0) 562949953420413 [0, 2, 3, 4, 5, 6, 10, 11, 12, 13, 14] k ⟨[(0, .li .i64 l), (2, .ptr 0 2 0 0), (3, .ptr 1 2 0 0), (4, .s (.int .i64 0)), (5, .s (.int .u64 a120)), (6, .s (.int .i64 a121)), (10, .s (.int .i64 0)), (11, .li .i64 l), (12, .s (.int .i64 a122)), (13, .s (.int .i64 a123)), (14, .s (.bool a124))], [(0, some ⟨29, .agg [.s (.int .i64 0), .s (.slice none 0 0)], true⟩), (1, some ⟨29, .agg [.s (.int .i64 w1), .s (.slice none 0 0)], true⟩)], 2, none⟩ K) (fun (a125 : Int) (a126 : Int) (a127 : Int) (a128 : Int) (a129 : Bool) (a130 : Bool) => K (.exit 2) ⟨[(0, .li .i64 l), (2, .ptr 0 2 0 0), (3, .ptr 1 2 0 0), (4, .s (.int .i64 0)), (5, .s (.int .u64 a125)), (6, .s (.int .i64 a126)), (10, .s (.int .i64 0)), (11, .li .i64 l), (12, .s (.int .i64 a127)), (13, .s (.int .i64 a128)), (14, .s (.bool a129)), (17, .s (.int .i64 a126)), (18, .s (.bool a130))], [(0, some ⟨29, .agg [.s (.int .i64 0), .s (.slice none 0 0)], true⟩), (1, some ⟨29, .agg [.s (.int .i64 w1), .s (.slice none 0 0)], true⟩)], 2, none⟩) := by kernel_rfl
noncomputable def refFromF_l2 {R : Type} (fuel : Nat) (l : List Int) (w1 : Int) (k0 : Int → Int → Int → Int → Bool → Bool → Option R) : Nat → Int → Int → Int → Int → Bool → Option R
  | 0, _, _, _, _, _ => none
  | k + 1, w97, w98, w99, w100, w101 =>
    (refFromF_s3 w98 l w97 w99 w100 w101 w1 (fun (a110 : Int) (a111 : Int) (a112 : Int) (a113 : Int) (a114 : Bool) => ( refFromF_l2 fuel l w1 k0 k a110 a111 a112 a113 a114 )) (fun (a115 : Int) (a116 : Int) (a117 : Int) (a118 : Int) (a119 : Bool) => ( refFromF_l2 fuel l w1 k0 k a115 a116 a117 a118 a119 )) (fun (a120 : Int) (a121 : Int) (a122 : Int) (a123 : Int) (a124 : Bool) => ( refFromF_l2 fuel l w1 k0 k a120 a121 a122 a123 a124 )) (fun (a125 : Int) (a126 : Int) (a127 : Int) (a128 : Int) (a129 : Bool) (a130 : Bool) => k0 a125 a126 a127 a128 a129 a130))
theorem refFromF_l2_eq (fuel : Nat) (l : List Int) (w1 : Int) (K : Ex → St → Option Out) : ∀ (k : Nat) (w97 : Int) (w98 : Int) (w99 : Int) (w100 : Int) (w101 : Bool), lpN (sub (sub (bodyOf Tryd.prog 148) [1, 1, 0, 1, 0, 0]) [1, 0, 0, 1, 0, 1, 0, 0]) (fnX Tryd.prog mode2 T_refIn1 fuel 49 0) 562949953420413 [0, 2, 3, 4, 5, 6, 10, 11, 12, 13, 14] k ⟨[(0, .li .i64 l), (2, .ptr 0 2 0 0), (3, .ptr 1 2 0 0), (4, .s (.int .i64 0)), (5, .s (.int .u64 w97)), (6, .s (.int .i64 w98)), (10, .s (.int .i64 0)), (11, .li .i64 l), (12, .s (.int .i64 w99)), (13, .s (.int .i64 w100)), (14, .s (.bool w101))], [(0, some ⟨29, .agg [.s (.int .i64 0), .s (.slice none 0 0)], true⟩), (1, some ⟨29, .agg [.s (.int .i64 w1), .s (.slice none 0 0)], true⟩)], 2, none⟩ K = refFromF_l2 fuel l w1 (fun (y103 : Int) (y104 : Int) (y105 : Int) (y106 : Int) (y107 : Bool) (y108 : Bool) => K (.exit 2) ⟨[(0, .li .i64 l), (2, .ptr 0 2 0 0), (3, .ptr 1 2 0 0), (4, .s (.int .i64 0)), (5, .s (.int .u64 y103)), (6, .s (.int .i64 y104)), (10, .s (.int .i64 0)), (11, .li .i64 l), (12, .s (.int .i64 y105)), (13, .s (.int .i64 y106)), (14, .s (.bool y107)), (17, .s (.int .i64 y104)), (18, .s (.bool y108))], [(0, some ⟨29, .agg [.s (.int .i64 0), .s (.slice none 0 0)], true⟩), (1, some ⟨29, .agg [.s (.int .i64 w1), .s (.slice none 0 0)], true⟩)], 2, none⟩) k w97 w98 w99 w100 w101
  | 0, _, _, _, _, _ => rfl
  | k + 1, w97, w98, w99, w100, w101 => by
    unfold refFromF_l2
    exact (refFromF_s3_eq fuel k K w98 l w97 w99 w100 w101 w1).trans (congr (congr (congr (congr (Eq.refl (refFromF_s3 (R := Out) w98 l w97 w99 w100 w101 w1)) (funext fun a110 => funext fun a111 => funext fun a112 => funext fun a113 => funext fun a114 => refFromF_l2_eq fuel l w1 K k a110 a111 a112 a113 a114)) (funext fun a115 => funext fun a116 => funext fun a117 => funext fun a118 => funext fun a119 => refFromF_l2_eq fuel l w1 K k a115 a116 a117 a118 a119)) (funext fun a120 => funext fun a121 => funext fun a122 => funext fun a123 => funext fun a124 => refFromF_l2_eq fuel l w1 K k a120 a121 a122 a123 a124)) (rfl))
noncomputable def refFromF_s6 {R : Type} (w207 : Int) (w170 : Int) (l : List Int) (w206 : Int) (w208 : Int) (w209 : Int) (w210 : Bool) (w1 : Int) (w171 : Nat) (w172 : List Int) (c0 : Int → Int → Int → Int → Bool → Option R) (c1 : Int → Int → Int → Int → Bool → Option R) (c2 : Int → Int → Int → Int → Bool → Option R) (c3 : Int → Int → Int → Int → Bool → Bool → Option R) : Option R :=
  br (decide (w207 ≥ 0))
    (br (decide ((IntKind.i64.wrap ((IntKind.i64.wrap (64 * w170)) + w207)) < ((l.length : Nat) : Int)))
      (bnd (ix l (IntKind.i64.wrap ((IntKind.i64.wrap (64 * w170)) + w207))) fun e218 =>
      br (e218 == 1)
        (c0 (IntKind.u64.wrap ((IntKind.u64.wrap (2 * w206)) + 1)) (IntKind.i64.wrap (w207 - 1)) w208 w209 w210)
        (c1 (IntKind.u64.wrap (2 * w206)) (IntKind.i64.wrap (w207 - 1)) w208 w209 w210))
      (c2 (IntKind.u64.wrap (2 * w206)) (IntKind.i64.wrap (w207 - 1)) w208 w209 w210))
    (c3 w206 w207 w208 w209 w210 (decide (w207 ≥ 0)))
theorem refFromF_s6_eq (fuel : Nat) (k : Nat) (K : Ex → St → Option Out) (w207 : Int) (w170 : Int) (l : List Int) (w206 : Int) (w208 : Int) (w209 : Int) (w210 : Bool) (w1 : Int) (w171 : Nat) (w172 : List Int) : lpN (sub (sub (bodyOf Tryd.prog 148) [1, 1, 0, 1, 0, 0]) [1, 0, 0, 1, 0, 1, 0, 0]) (fnX Tryd.prog mode2 T_refIn1 fuel 49 0) 562949953420413 [0, 2, 3, 4, 5, 6, 10, 11, 12, 13, 14] (k + 1) ⟨[(0, .li .i64 l), (2, .ptr 0 2 0 0), (3, .ptr 1 2 0 0), (4, .s (.int .i64 w170)), (5, .s (.int .u64 w206)), (6, .s (.int .i64 w207)), (10, .s (.int .i64 w170)), (11, .li .i64 l), (12, .s (.int .i64 w208)), (13, .s (.int .i64 w209)), (14, .s (.bool w210))], [(0, some ⟨29, .agg [.s (.int .i64 0), .s (.slice none 0 0)], true⟩), (1, some ⟨29, .agg [.s (.int .i64 w1), .sl 2 1 0 w171], true⟩), (2, some ⟨22, .li .u64 w172, true⟩)], 3, none⟩ K = refFromF_s6 w207 w170 l w206 w208 w209 w210 w1 w171 w172 (fun (a219 : Int) (a220 : Int) (a221 : Int) (a222 : Int) (a223 : Bool) => lpN (sub (sub (bodyOf Tryd.prog 148) [1, 1, 0, 1, 0, 0]) [1, 0, 0, 1, 0, 1, 0, 0]) (fnX Tryd.prog mode2 T_refIn1 fuel 49 0) 562949953420413 [0, 2, 3, 4, 5, 6, 10, 11, 12, 13, 14] k ⟨[(0, .li .i64 l), (2, .ptr 0 2 0 0), (3, .ptr 1 2 0 0), (4, .s (.int .i64 w170)), (5, .s (.int .u64 a219)), (6, .s (.int .i64 a220)), (10, .s (.int .i64 w170)), (11, .li .i64 l), (12, .s (.int .i64 a221)), (13, .s (.int .i64 a222)), (14, .s (.bool a223))], [(0, some ⟨29, .agg [.s (.int .i64 0), .s (.slice none 0 0)], true⟩), (1, some ⟨29, .agg [.s (.int .i64 w1), .sl 2 1 0 w171], true⟩), (2, some ⟨22, .li .u64 w172, true⟩)], 3, none⟩ K) (fun (a224 : Int) (a225 : Int) (a226 : Int) (a227 : Int) (a228 : Bool) => lpN (sub (sub (bodyOf Tryd.prog 148) [1, 1, 0, 1, 0, 0]) [1, 0, 0, 1, 0, 1, 0, 0]) (fnX Tryd.prog mode2 T_refIn1 fuel 49 0) 562949953420413 [0, 2, 3, 4, 5, 6, 10, 11, 12, 13, 14] k ⟨[(0, .li .i64 l), (2, .ptr 0 2 0 0), (3, .ptr 1 2 0 0), (4, .s (.int .i64 w170)), (5, .s (.int .u64 a224)), (6, .s (.int .i64 a225)), (10, .s (.int .i64 w170)), (11, .li .i64 l), (12, .s (.int .i64 a226)), (13, .s (.int .i64 a227)), (14, .s (.bool a228))], [(0, some ⟨29, .agg [.s (.int .i64 0), .s (.slice none 0 0)], true⟩), (1, some ⟨29, .agg [.s (.int .i64 w1), .sl 2 1 0 w171], true⟩), (2, some ⟨22, .li .u64 w172, true⟩)], 3, none⟩ K) (fun (a229 : Int) (a230 : Int) (a231 : Int) (a232 : Int) (a233 : Bool) => lpN (sub (sub (bodyOf Tryd.prog 148) [1, 1, 0, 1, 0, 0]) [1, 0, 0, 1, 0, 1, 0, 0]) (fnX Tryd.prog mode2 T_refIn1 fuel 49 0) 562949953420413 [0, 2, 3, 4, 5, 6, 10, 11, 12, 13, 14] k ⟨[(0, .li .i64 l), (2, .ptr 0 2 0 0), (3, .ptr 1 2 0 0), (4, .s (.int .i64 w170)), (5, .s (.int .u64 a229)), (6, .s (.int .i64 a230)), (10, .s (.int .i64 w170)), (11, .li .i64 l), (12, .s (.int .i64 a231)), (13, .s (.int .i64 a232)), (14, .s (.bool a233))], [(0, some ⟨29, .agg [.s (.int .i64 0), .s (.slice none 0 0)], true⟩), (1, some ⟨29, .agg [.s (.int .i64 w1), .sl 2 1 0 w171], true⟩), (2, some ⟨22, .li .u64 w172, true⟩)], 3, none⟩ K) (fun (a234 : Int) (a235 : Int) (a236 : Int) (a237 : Int) (a238 : Bool) (a239 : Bool) => K (.exit 2) ⟨[(0, .li .i64 l), (2, .ptr 0 2 0 0), (3, .ptr 1 2 0 0), (4, .s (.int .i64 w170)), (5, .s (.int .u64 a234)), (6, .s (.int .i64 a235)), (10, .s (.int .i64 w170)), (11, .li .i64 l), (12, .s (.int .i64 a236)), (13, .s (.int .i64 a237)), (14, .s (.bool a238)), (17, .s (.int .i64 a235)), (18, .s (.bool a239))], [(0, some ⟨29, .agg [.s (.int .i64 0), .s (.slice none 0 0)], true⟩), (1, some ⟨29, .agg [.s (.int .i64 w1), .sl 2 1 0 w171], true⟩), (2, some ⟨22, .li .u64 w172, true⟩)], 3, none⟩) := by kernel_rfl
noncomputable def refFromF_l4 {R : Type} (fuel : Nat) (l : List Int) (w170 : Int) (w1 : Int) (w171 : Nat) (w172 : List Int) (k0 : Int → Int → Int → Int → Bool → Bool → Option R) : Nat → Int → Int → Int → Int → Bool → Option R
  | 0, _, _, _, _, _ => none
  | k + 1, w206, w207, w208, w209, w210 =>
    (refFromF_s6 w207 w170 l w206 w208 w209 w210 w1 w171 w172 (fun (a219 : Int) (a220 : Int) (a221 : Int) (a222 : Int) (a223 : Bool) => ( refFromF_l4 fuel l w170 w1 w171 w172 k0 k a219 a220 a221 a222 a223 )) (fun (a224 : Int) (a225 : Int) (a226 : Int) (a227 : Int) (a228 : Bool) => ( refFromF_l4 fuel l w170 w1 w171 w172 k0 k a224 a225 a226 a227 a228 )) (fun (a229 : Int) (a230 : Int) (a231 : Int) (a232 : Int) (a233 : Bool) => ( refFromF_l4 fuel l w170 w1 w171 w172 k0 k a229 a230 a231 a232 a233 )) (fun (a234 : Int) (a235 : Int) (a236 : Int) (a237 : Int) (a238 : Bool) (a239 : Bool) => k0 a234 a235 a236 a237 a238 a239))
theorem refFromF_l4_eq (fuel : Nat) (l : List Int) (w170 : Int) (w1 : Int) (w171 : Nat) (w172 : List Int) (K : Ex → St → Option Out) : ∀ (k : Nat) (w206 : Int) (w207 : Int) (w208 : Int) (w209 : Int) (w210 : Bool), lpN (sub (sub (bodyOf Tryd.prog 148) [1, 1, 0, 1, 0, 0]) [1, 0, 0, 1, 0, 1, 0, 0]) (fnX Tryd.prog mode2 T_refIn1 fuel 49 0) 562949953420413 [0, 2, 3, 4, 5, 6, 10, 11, 12, 13, 14] k ⟨[(0, .li .i64 l), (2, .ptr 0 2 0 0), (3, .ptr 1 2 0 0), (4, .s (.int .i64 w170)), (5, .s (.int .u64 w206)), (6, .s (.int .i64 w207)), (10, .s (.int .i64 w170)), (11, .li .i64 l), (12, .s (.int .i64 w208)), (13, .s (.int .i64 w209)), (14, .s (.bool w210))], [(0, some ⟨29, .agg [.s (.int .i64 0), .s (.slice none 0 0)], true⟩), (1, some ⟨29, .agg [.s (.int .i64 w1), .sl 2 1 0 w171], true⟩), (2, some ⟨22, .li .u64 w172, true⟩)], 3, none⟩ K = refFromF_l4 fuel l w170 w1 w171 w172 (fun (y212 : Int) (y213 : Int) (y214 : Int) (y215 : Int) (y216 : Bool) (y217 : Bool) => K (.exit 2) ⟨[(0, .li .i64 l), (2, .ptr 0 2 0 0), (3, .ptr 1 2 0 0), (4, .s (.int .i64 w170)), (5, .s (.int .u64 y212)), (6, .s (.int .i64 y213)), (10, .s (.int .i64 w170)), (11, .li .i64 l), (12, .s (.int .i64 y214)), (13, .s (.int .i64 y215)), (14, .s (.bool y216)), (17, .s (.int .i64 y213)), (18, .s (.bool y217))], [(0, some ⟨29, .agg [.s (.int .i64 0), .s (.slice none 0 0)], true⟩), (1, some ⟨29, .agg [.s (.int .i64 w1), .sl 2 1 0 w171], true⟩), (2, some ⟨22, .li .u64 w172, true⟩)], 3, none⟩) k w206 w207 w208 w209 w210
  | 0, _, _, _, _, _ => rfl
  | k + 1, w206, w207, w208, w209, w210 => by
    unfold refFromF_l4
    exact (refFromF_s6_eq fuel k K w207 w170 l w206 w208 w209 w210 w1 w171 w172).trans (congr (congr (congr (congr (Eq.refl (refFromF_s6 (R := Out) w207 w170 l w206 w208 w209 w210 w1 w171 w172)) (funext fun a219 => funext fun a220 => funext fun a221 => funext fun a222 => funext fun a223 => refFromF_l4_eq fuel l w170 w1 w171 w172 K k a219 a220 a221 a222 a223)) (funext fun a224 => funext fun a225 => funext fun a226 => funext fun a227 => funext fun a228 => refFromF_l4_eq fuel l w170 w1 w171 w172 K k a224 a225 a226 a227 a228)) (funext fun a229 => funext fun a230 => funext fun a231 => funext fun a232 => funext fun a233 => refFromF_l4_eq fuel l w170 w1 w171 w172 K k a229 a230 a231 a232 a233)) (rfl))
noncomputable def refFromF_s7 {R : Type} (w172 : List Int) (w171 : Nat) (w170 : Int) (x245 : Int) (l : List Int) (x246 : Int) (x247 : Int) (x248 : Int) (x249 : Bool) (x250 : Bool) (w1 : Int) (c0 : Int → Nat → List Int → Option R) : Option R :=
  grd (Nat.beq w172.length w171) <|
  grd (okN (w171 + 1) 8) <|
  c0 (IntKind.i64.wrap (w170 + 1)) ((w172 ++ [x245]).length) (w172 ++ [x245])
theorem refFromF_s7_eq (fuel : Nat) (k : Nat) (K : Ex → St → Option Out) (w172 : List Int) (w171 : Nat) (w170 : Int) (x245 : Int) (l : List Int) (x246 : Int) (x247 : Int) (x248 : Int) (x249 : Bool) (x250 : Bool) (w1 : Int) : (kont (fnX Tryd.prog mode2 T_refIn1 fuel 49 0) (sub (bodyOf Tryd.prog 148) [1, 1, 0, 1, 0, 0]) [1, 0, 0, 1, 0, 1, 0] 562949953420413 (rdK (sub (bodyOf Tryd.prog 148) [1, 1, 0, 1, 0, 0]) (fnX Tryd.prog mode2 T_refIn1 fuel 49 0) 281474976710668 [0, 2, 3, 4] k K)) (.exit 2) ⟨[(0, .li .i64 l), (2, .ptr 0 2 0 0), (3, .ptr 1 2 0 0), (4, .s (.int .i64 w170)), (5, .s (.int .u64 x245)), (6, .s (.int .i64 x246)), (10, .s (.int .i64 w170)), (11, .li .i64 l), (12, .s (.int .i64 x247)), (13, .s (.int .i64 x248)), (14, .s (.bool x249)), (17, .s (.int .i64 x246)), (18, .s (.bool x250))], [(0, some ⟨29, .agg [.s (.int .i64 0), .s (.slice none 0 0)], true⟩), (1, some ⟨29, .agg [.s (.int .i64 w1), .sl 2 1 0 w171], true⟩), (2, some ⟨22, .li .u64 w172, true⟩)], 3, none⟩ = refFromF_s7 w172 w171 w170 x245 l x246 x247 x248 x249 x250 w1 (fun (a251 : Int) (a252 : Nat) (a253 : List Int) => lpN (sub (bodyOf Tryd.prog 148) [1, 1, 0, 1, 0, 0]) (fnX Tryd.prog mode2 T_refIn1 fuel 49 0) 281474976710668 [0, 2, 3, 4] k ⟨[(0, .li .i64 l), (2, .ptr 0 2 0 0), (3, .ptr 1 2 0 0), (4, .s (.int .i64 a251))], [(0, some ⟨29, .agg [.s (.int .i64 0), .s (.slice none 0 0)], true⟩), (1, some ⟨29, .agg [.s (.int .i64 w1), .sl 2 1 0 a252], true⟩), (2, some ⟨22, .li .u64 a253, true⟩)], 3, none⟩ K) := by kernel_rfl
noncomputable def refFromF_s5 {R : Type} (l : List Int) (w170 : Int) (w171 : Nat) (w172 : List Int) (w1 : Int) (c0 : Int → Int → Int → Int → Bool → Option R) (c1 : Nat → List Int → Option R) : Option R :=
  grd (decide (0 ≤ ((l.length : Nat) : Int)) && decide (((l.length : Nat) : Int) ≤ 1000000)) <|
  br (decide (w170 < (((nw ((l.length : Nat) : Int) : Nat) : Int))))
    (c0 0 63 ((l.length : Nat) : Int) (((nw ((l.length : Nat) : Int) : Nat) : Int)) (decide (w170 < (((nw ((l.length : Nat) : Int) : Nat) : Int)))))
    (c1 w171 w172)
theorem refFromF_s5_eq (fuel : Nat) (k : Nat) (K : Ex → St → Option Out) (l : List Int) (w170 : Int) (w171 : Nat) (w172 : List Int) (w1 : Int) : lpN (sub (bodyOf Tryd.prog 148) [1, 1, 0, 1, 0, 0]) (fnX Tryd.prog mode2 T_refIn1 fuel 49 0) 281474976710668 [0, 2, 3, 4] (k + 1) ⟨[(0, .li .i64 l), (2, .ptr 0 2 0 0), (3, .ptr 1 2 0 0), (4, .s (.int .i64 w170))], [(0, some ⟨29, .agg [.s (.int .i64 0), .s (.slice none 0 0)], true⟩), (1, some ⟨29, .agg [.s (.int .i64 w1), .sl 2 1 0 w171], true⟩), (2, some ⟨22, .li .u64 w172, true⟩)], 3, none⟩ K = refFromF_s5 l w170 w171 w172 w1 (fun (a240 : Int) (a241 : Int) (a242 : Int) (a243 : Int) (a244 : Bool) => lpN (sub (sub (bodyOf Tryd.prog 148) [1, 1, 0, 1, 0, 0]) [1, 0, 0, 1, 0, 1, 0, 0]) (fnX Tryd.prog mode2 T_refIn1 fuel 49 0) 562949953420413 [0, 2, 3, 4, 5, 6, 10, 11, 12, 13, 14] fuel ⟨[(0, .li .i64 l), (2, .ptr 0 2 0 0), (3, .ptr 1 2 0 0), (4, .s (.int .i64 w170)), (5, .s (.int .u64 a240)), (6, .s (.int .i64 a241)), (10, .s (.int .i64 w170)), (11, .li .i64 l), (12, .s (.int .i64 a242)), (13, .s (.int .i64 a243)), (14, .s (.bool a244))], [(0, some ⟨29, .agg [.s (.int .i64 0), .s (.slice none 0 0)], true⟩), (1, some ⟨29, .agg [.s (.int .i64 w1), .sl 2 1 0 w171], true⟩), (2, some ⟨22, .li .u64 w172, true⟩)], 3, none⟩ (kont (fnX Tryd.prog mode2 T_refIn1 fuel 49 0) (sub (bodyOf Tryd.prog 148) [1, 1, 0, 1, 0, 0]) [1, 0, 0, 1, 0, 1, 0] 562949953420413 (rdK (sub (bodyOf Tryd.prog 148) [1, 1, 0, 1, 0, 0]) (fnX Tryd.prog mode2 T_refIn1 fuel 49 0) 281474976710668 [0, 2, 3, 4] k K))) (fun (a254 : Nat) (a255 : List Int) => K (.exit 0) ⟨[(2, .ptr 0 2 0 0), (3, .ptr 1 2 0 0)], [(0, some ⟨29, .agg [.s (.int .i64 0), .s (.slice none 0 0)], true⟩), (1, some ⟨29, .agg [.s (.int .i64 w1), .sl 2 1 0 a254], true⟩), (2, some ⟨22, .li .u64 a255, true⟩)], 3, none⟩) := by kernel_rfl
noncomputable def refFromF_l3 {R : Type} (fuel : Nat) (l : List Int) (w1 : Int) (k0 : Nat → List Int → Option R) : Nat → Int → Nat → List Int → Option R
  | 0, _, _, _ => none
  | k + 1, w170, w171, w172 =>
    (refFromF_s5 l w170 w171 w172 w1 (fun (a240 : Int) (a241 : Int) (a242 : Int) (a243 : Int) (a244 : Bool) => (refFromF_l4 fuel l w170 w1 w171 w172 (fun (x245 : Int) (x246 : Int) (x247 : Int) (x248 : Int) (x249 : Bool) (x250 : Bool) => (refFromF_s7 w172 w171 w170 x245 l x246 x247 x248 x249 x250 w1 (fun (a251 : Int) (a252 : Nat) (a253 : List Int) => ( refFromF_l3 fuel l w1 k0 k a251 a252 a253 )))) fuel a240 a241 a242 a243 a244)) (fun (a254 : Nat) (a255 : List Int) => k0 a254 a255))
theorem refFromF_l3_eq (fuel : Nat) (l : List Int) (w1 : Int) (K : Ex → St → Option Out) : ∀ (k : Nat) (w170 : Int) (w171 : Nat) (w172 : List Int), lpN (sub (bodyOf Tryd.prog 148) [1, 1, 0, 1, 0, 0]) (fnX Tryd.prog mode2 T_refIn1 fuel 49 0) 281474976710668 [0, 2, 3, 4] k ⟨[(0, .li .i64 l), (2, .ptr 0 2 0 0), (3, .ptr 1 2 0 0), (4, .s (.int .i64 w170))], [(0, some ⟨29, .agg [.s (.int .i64 0), .s (.slice none 0 0)], true⟩), (1, some ⟨29, .agg [.s (.int .i64 w1), .sl 2 1 0 w171], true⟩), (2, some ⟨22, .li .u64 w172, true⟩)], 3, none⟩ K = refFromF_l3 fuel l w1 (fun (y200 : Nat) (y201 : List Int) => K (.exit 0) ⟨[(2, .ptr 0 2 0 0), (3, .ptr 1 2 0 0)], [(0, some ⟨29, .agg [.s (.int .i64 0), .s (.slice none 0 0)], true⟩), (1, some ⟨29, .agg [.s (.int .i64 w1), .sl 2 1 0 y200], true⟩), (2, some ⟨22, .li .u64 y201, true⟩)], 3, none⟩) k w170 w171 w172
  | 0, _, _, _ => rfl
  | k + 1, w170, w171, w172 => by
    unfold refFromF_l3
    exact (refFromF_s5_eq fuel k K l w170 w171 w172 w1).trans (congr (congr (Eq.refl (refFromF_s5 (R := Out) l w170 w171 w172 w1)) (funext fun a240 => funext fun a241 => funext fun a242 => funext fun a243 => funext fun a244 => (refFromF_l4_eq fuel l w170 w1 w171 w172 (kont (fnX Tryd.prog mode2 T_refIn1 fuel 49 0) (sub (bodyOf Tryd.prog 148) [1, 1, 0, 1, 0, 0]) [1, 0, 0, 1, 0, 1, 0] 562949953420413 (rdK (sub (bodyOf Tryd.prog 148) [1, 1, 0, 1, 0, 0]) (fnX Tryd.prog mode2 T_refIn1 fuel 49 0) 281474976710668 [0, 2, 3, 4] k K)) fuel a240 a241 a242 a243 a244).trans (congrFun (congrFun (congrFun (congrFun (congrFun (congrFun (congr (Eq.refl (refFromF_l4 (R := Out) fuel l w170 w1 w171 w172)) (funext fun x245 => funext fun x246 => funext fun x247 => funext fun x248 => funext fun x249 => funext fun x250 => (refFromF_s7_eq fuel k K w172 w171 w170 x245 l x246 x247 x248 x249 x250 w1).trans (congr (Eq.refl (refFromF_s7 (R := Out) w172 w171 w170 x245 l x246 x247 x248 x249 x250 w1)) (funext fun a251 => funext fun a252 => funext fun a253 => refFromF_l3_eq fuel l w1 K k a251 a252 a253)))) fuel) a240) a241) a242) a243) a244))) (rfl))
noncomputable def refFromF_s4 {R : Type} (x136 : Int) (l : List Int) (x137 : Int) (x138 : Int) (x139 : Int) (x140 : Bool) (x141 : Bool) (w1 : Int) (c0 : Int → Nat → List Int → Option R) : Option R :=
  c0 1 1 ([x136])
theorem refFromF_s4_eq (fuel : Nat) (k : Nat) (K : Ex → St → Option Out) (x136 : Int) (l : List Int) (x137 : Int) (x138 : Int) (x139 : Int) (x140 : Bool) (x141 : Bool) (w1 : Int) : (kont (fnX Tryd.prog mode2 T_refIn1 fuel 49 0) (sub (bodyOf Tryd.prog 148) [1, 1, 0, 1, 0, 0]) [1, 0, 0, 1, 0, 1, 0] 562949953420413 (rdK (sub (bodyOf Tryd.prog 148) [1, 1, 0, 1, 0, 0]) (fnX Tryd.prog mode2 T_refIn1 fuel 49 0) 281474976710668 [0, 2, 3, 4] k K)) (.exit 2) ⟨[(0, .li .i64 l), (2, .ptr 0 2 0 0), (3, .ptr 1 2 0 0), (4, .s (.int .i64 0)), (5, .s (.int .u64 x136)), (6, .s (.int .i64 x137)), (10, .s (.int .i64 0)), (11, .li .i64 l), (12, .s (.int .i64 x138)), (13, .s (.int .i64 x139)), (14, .s (.bool x140)), (17, .s (.int .i64 x137)), (18, .s (.bool x141))], [(0, some ⟨29, .agg [.s (.int .i64 0), .s (.slice none 0 0)], true⟩), (1, some ⟨29, .agg [.s (.int .i64 w1), .s (.slice none 0 0)], true⟩)], 2, none⟩ = refFromF_s4 x136 l x137 x138 x139 x140 x141 w1 (fun (a256 : Int) (a257 : Nat) (a258 : List Int) => lpN (sub (bodyOf Tryd.prog 148) [1, 1, 0, 1, 0, 0]) (fnX Tryd.prog mode2 T_refIn1 fuel 49 0) 281474976710668 [0, 2, 3, 4] k ⟨[(0, .li .i64 l), (2, .ptr 0 2 0 0), (3, .ptr 1 2 0 0), (4, .s (.int .i64 a256))], [(0, some ⟨29, .agg [.s (.int .i64 0), .s (.slice none 0 0)], true⟩), (1, some ⟨29, .agg [.s (.int .i64 w1), .sl 2 1 0 a257], true⟩), (2, some ⟨22, .li .u64 a258, true⟩)], 3, none⟩ K) := by kernel_rfl
noncomputable def refFromF_s2 {R : Type} (l : List Int) (w1 : Int) (c0 : Int → Int → Int → Int → Bool → Option R) (c1 : Int → Option R) : Option R :=
  grd (decide (0 ≤ ((l.length : Nat) : Int)) && decide (((l.length : Nat) : Int) ≤ 1000000)) <|
  br (decide ((0 : Int) < (((nw ((l.length : Nat) : Int) : Nat) : Int))))
    (c0 0 63 ((l.length : Nat) : Int) (((nw ((l.length : Nat) : Int) : Nat) : Int)) (decide ((0 : Int) < (((nw ((l.length : Nat) : Int) : Nat) : Int)))))
    (c1 w1)
theorem refFromF_s2_eq (fuel : Nat) (k : Nat) (K : Ex → St → Option Out) (l : List Int) (w1 : Int) : lpN (sub (bodyOf Tryd.prog 148) [1, 1, 0, 1, 0, 0]) (fnX Tryd.prog mode2 T_refIn1 fuel 49 0) 281474976710668 [0, 2, 3, 4] (k + 1) ⟨[(0, .li .i64 l), (2, .ptr 0 2 0 0), (3, .ptr 1 2 0 0), (4, .s (.int .i64 0))], [(0, some ⟨29, .agg [.s (.int .i64 0), .s (.slice none 0 0)], true⟩), (1, some ⟨29, .agg [.s (.int .i64 w1), .s (.slice none 0 0)], true⟩)], 2, none⟩ K = refFromF_s2 l w1 (fun (a131 : Int) (a132 : Int) (a133 : Int) (a134 : Int) (a135 : Bool) => lpN (sub (sub (bodyOf Tryd.prog 148) [1, 1, 0, 1, 0, 0]) [1, 0, 0, 1, 0, 1, 0, 0]) (fnX Tryd.prog mode2 T_refIn1 fuel 49 0) 562949953420413 [0, 2, 3, 4, 5, 6, 10, 11, 12, 13, 14] fuel ⟨[(0, .li .i64 l), (2, .ptr 0 2 0 0), (3, .ptr 1 2 0 0), (4, .s (.int .i64 0)), (5, .s (.int .u64 a131)), (6, .s (.int .i64 a132)), (10, .s (.int .i64 0)), (11, .li .i64 l), (12, .s (.int .i64 a133)), (13, .s (.int .i64 a134)), (14, .s (.bool a135))], [(0, some ⟨29, .agg [.s (.int .i64 0), .s (.slice none 0 0)], true⟩), (1, some ⟨29, .agg [.s (.int .i64 w1), .s (.slice none 0 0)], true⟩)], 2, none⟩ (kont (fnX Tryd.prog mode2 T_refIn1 fuel 49 0) (sub (bodyOf Tryd.prog 148) [1, 1, 0, 1, 0, 0]) [1, 0, 0, 1, 0, 1, 0] 562949953420413 (rdK (sub (bodyOf Tryd.prog 148) [1, 1, 0, 1, 0, 0]) (fnX Tryd.prog mode2 T_refIn1 fuel 49 0) 281474976710668 [0, 2, 3, 4] k K))) (fun (a261 : Int) => K (.exit 0) ⟨[(2, .ptr 0 2 0 0), (3, .ptr 1 2 0 0)], [(0, some ⟨29, .agg [.s (.int .i64 0), .s (.slice none 0 0)], true⟩), (1, some ⟨29, .agg [.s (.int .i64 a261), .s (.slice none 0 0)], true⟩)], 2, none⟩) := by kernel_rfl
noncomputable def refFromF_l1 {R : Type} (fuel : Nat) (l : List Int) (k0 : Int → Nat → List Int → Option R) (k1 : Int → Option R) : Nat → Int → Option R
  | 0, _ => none
  | k + 1, w1 =>
    (refFromF_s2 l w1 (fun (a131 : Int) (a132 : Int) (a133 : Int) (a134 : Int) (a135 : Bool) => (refFromF_l2 fuel l w1 (fun (x136 : Int) (x137 : Int) (x138 : Int) (x139 : Int) (x140 : Bool) (x141 : Bool) => (refFromF_s4 x136 l x137 x138 x139 x140 x141 w1 (fun (a256 : Int) (a257 : Nat) (a258 : List Int) => (refFromF_l3 fuel l w1 (fun (x259 : Nat) (x260 : List Int) => k0 w1 x259 x260) k a256 a257 a258)))) fuel a131 a132 a133 a134 a135)) (fun (a261 : Int) => k1 a261))
theorem refFromF_l1_eq (fuel : Nat) (l : List Int) (K : Ex → St → Option Out) : ∀ (k : Nat) (w1 : Int), lpN (sub (bodyOf Tryd.prog 148) [1, 1, 0, 1, 0, 0]) (fnX Tryd.prog mode2 T_refIn1 fuel 49 0) 281474976710668 [0, 2, 3, 4] k ⟨[(0, .li .i64 l), (2, .ptr 0 2 0 0), (3, .ptr 1 2 0 0), (4, .s (.int .i64 0))], [(0, some ⟨29, .agg [.s (.int .i64 0), .s (.slice none 0 0)], true⟩), (1, some ⟨29, .agg [.s (.int .i64 w1), .s (.slice none 0 0)], true⟩)], 2, none⟩ K = refFromF_l1 fuel l (fun (y89 : Int) (y90 : Nat) (y91 : List Int) => K (.exit 0) ⟨[(2, .ptr 0 2 0 0), (3, .ptr 1 2 0 0)], [(0, some ⟨29, .agg [.s (.int .i64 0), .s (.slice none 0 0)], true⟩), (1, some ⟨29, .agg [.s (.int .i64 y89), .sl 2 1 0 y90], true⟩), (2, some ⟨22, .li .u64 y91, true⟩)], 3, none⟩) (fun (y92 : Int) => K (.exit 0) ⟨[(2, .ptr 0 2 0 0), (3, .ptr 1 2 0 0)], [(0, some ⟨29, .agg [.s (.int .i64 0), .s (.slice none 0 0)], true⟩), (1, some ⟨29, .agg [.s (.int .i64 y92), .s (.slice none 0 0)], true⟩)], 2, none⟩) k w1
  | 0, _ => rfl
  | k + 1, w1 => by
    unfold refFromF_l1
    exact (refFromF_s2_eq fuel k K l w1).trans (congr (congr (Eq.refl (refFromF_s2 (R := Out) l w1)) (funext fun a131 => funext fun a132 => funext fun a133 => funext fun a134 => funext fun a135 => (refFromF_l2_eq fuel l w1 (kont (fnX Tryd.prog mode2 T_refIn1 fuel 49 0) (sub (bodyOf Tryd.prog 148) [1, 1, 0, 1, 0, 0]) [1, 0, 0, 1, 0, 1, 0] 562949953420413 (rdK (sub (bodyOf Tryd.prog 148) [1, 1, 0, 1, 0, 0]) (fnX Tryd.prog mode2 T_refIn1 fuel 49 0) 281474976710668 [0, 2, 3, 4] k K)) fuel a131 a132 a133 a134 a135).trans (congrFun (congrFun (congrFun (congrFun (congrFun (congrFun (congr (Eq.refl (refFromF_l2 (R := Out) fuel l w1)) (funext fun x136 => funext fun x137 => funext fun x138 => funext fun x139 => funext fun x140 => funext fun x141 => (refFromF_s4_eq fuel k K x136 l x137 x138 x139 x140 x141 w1).trans (congr (Eq.refl (refFromF_s4 (R := Out) x136 l x137 x138 x139 x140 x141 w1)) (funext fun a256 => funext fun a257 => funext fun a258 => refFromF_l3_eq fuel l w1 K k a256 a257 a258)))) fuel) a131) a132) a133) a134) a135))) (rfl))
noncomputable def refFromF_s8 {R : Type} (x263 : Int) (x265 : List Int) (x264 : Nat) (c0 : Int → List Int → Option R) : Option R :=
  c0 x263 ((x265.drop 0).take x264)
theorem refFromF_s8_eq (fuel : Nat)  (x263 : Int) (x265 : List Int) (x264 : Nat) : (kont (fnX Tryd.prog mode2 T_refIn1 fuel 49 0) (bodyOf Tryd.prog 148) [1, 1, 0, 1, 0] 4 (endK Tryd.prog 0 0 148)) (.exit 0) ⟨[(2, .ptr 0 2 0 0), (3, .ptr 1 2 0 0)], [(0, some ⟨29, .agg [.s (.int .i64 0), .s (.slice none 0 0)], true⟩), (1, some ⟨29, .agg [.s (.int .i64 x263), .sl 2 1 0 x264], true⟩), (2, some ⟨22, .li .u64 x265, true⟩)], 3, none⟩ = refFromF_s8 x263 x265 x264 (fun (a266 : Int) (a267 : List Int) => some (.agg [.s (.int .i64 a266), .li .u64 a267], [])) := by kernel_rfl
noncomputable def refFromF_s9 {R : Type} (x268 : Int) (c0 : Int → Option R) : Option R :=
  c0 x268
theorem refFromF_s9_eq (fuel : Nat)  (x268 : Int) : (kont (fnX Tryd.prog mode2 T_refIn1 fuel 49 0) (bodyOf Tryd.prog 148) [1, 1, 0, 1, 0] 4 (endK Tryd.prog 0 0 148)) (.exit 0) ⟨[(2, .ptr 0 2 0 0), (3, .ptr 1 2 0 0)], [(0, some ⟨29, .agg [.s (.int .i64 0), .s (.slice none 0 0)], true⟩), (1, some ⟨29, .agg [.s (.int .i64 x268), .s (.slice none 0 0)], true⟩)], 2, none⟩ = refFromF_s9 x268 (fun (a269 : Int) => some (.agg [.s (.int .i64 a269), .s (.slice none 0 0)], [])) := by kernel_rfl
noncomputable def refFromF_s1 {R : Type} (l : List Int) (c0 : Int → Option R) : Option R :=
  c0 ((l.length : Nat) : Int)
theorem refFromF_s1_eq (fuel : Nat)  (l : List Int) : callN Tryd.prog mode2 T_refIn1 fuel 148 [.li .i64 l] [] = refFromF_s1 l (fun (a262 : Int) => lpN (sub (bodyOf Tryd.prog 148) [1, 1, 0, 1, 0, 0]) (fnX Tryd.prog mode2 T_refIn1 fuel 49 0) 281474976710668 [0, 2, 3, 4] fuel ⟨[(0, .li .i64 l), (2, .ptr 0 2 0 0), (3, .ptr 1 2 0 0), (4, .s (.int .i64 0))], [(0, some ⟨29, .agg [.s (.int .i64 0), .s (.slice none 0 0)], true⟩), (1, some ⟨29, .agg [.s (.int .i64 a262), .s (.slice none 0 0)], true⟩)], 2, none⟩ (kont (fnX Tryd.prog mode2 T_refIn1 fuel 49 0) (bodyOf Tryd.prog 148) [1, 1, 0, 1, 0] 4 (endK Tryd.prog 0 0 148))) := by kernel_rfl
noncomputable def refFromF {R : Type} (fuel : Nat) (l : List Int) (r0 : Int → List Int → Option R) (r1 : Int → Option R) : Option R :=
  (refFromF_s1 l (fun (a262 : Int) => (refFromF_l1 fuel l (fun (x263 : Int) (x264 : Nat) (x265 : List Int) => (refFromF_s8 x263 x265 x264 (fun (a266 : Int) (a267 : List Int) => r0 a266 a267))) (fun (x268 : Int) => (refFromF_s9 x268 (fun (a269 : Int) => r1 a269))) fuel a262)))
theorem refFromF_eq (fuel : Nat) (l : List Int) : callN Tryd.prog mode2 T_refIn1 fuel 148 [.li .i64 l] [] = refFromF fuel l (fun (z0 : Int) (z1 : List Int) => some (.agg [.s (.int .i64 z0), .li .u64 z1], [])) (fun (z0 : Int) => some (.agg [.s (.int .i64 z0), .s (.slice none 0 0)], [])) := by
  unfold refFromF
  exact (refFromF_s1_eq fuel  l).trans (congr (Eq.refl (refFromF_s1 (R := Out) l)) (funext fun a262 => (refFromF_l1_eq fuel l (kont (fnX Tryd.prog mode2 T_refIn1 fuel 49 0) (bodyOf Tryd.prog 148) [1, 1, 0, 1, 0] 4 (endK Tryd.prog 0 0 148)) fuel a262).trans (congrFun (congrFun (congr (congr (Eq.refl (refFromF_l1 (R := Out) fuel l)) (funext fun x263 => funext fun x264 => funext fun x265 => (refFromF_s8_eq fuel  x263 x265 x264))) (funext fun x268 => (refFromF_s9_eq fuel  x268))) fuel) a262)))
theorem refFrom_word0 {R : Type} (fuel : Nat) (l : List Int) (hl : l.length ≤ 512) (w1 : Int) (a b : Int) (c : Bool) (k0 : Int → Int → Int → Int → Bool → Bool → Option R) : ∀ (n k : Nat), n ≤ 64 → n < k → refFromF_l2 fuel l w1 k0 k ((bn l / 2 ^ (64 * 0 + n) % 2 ^ (64 - n) : Nat) : Int) ((n : Int) - 1) a b c = k0 ((bn l / 2 ^ (64 * 0) % 18446744073709551616 : Nat) : Int) (-1) a b c false
  | n, 0, hn, hk => by omega
  | 0, k + 1, hn, hk => by
    unfold refFromF_l2 refFromF_s3
    rw [br_if, if_neg (by decide)]
    rfl
  | n + 1, k + 1, hn, hk => by
    unfold refFromF_l2 refFromF_s3
    obtain ⟨hp, hlt⟩ := bn_step l 0 n (by omega)
    have ih := refFrom_word0 fuel l hl w1 a b c k0 n k (by omega) (by omega)
    have e1 : IntKind.i64.wrap (0 + (((n + 1 : Nat) : Int) - 1)) = ((64 * 0 + n : Nat) : Int) := by rw [wrap_i64 (by omega) (by omega)]; omega
    have e2 : IntKind.i64.wrap (((n + 1 : Nat) : Int) - 1 - 1) = (n : Int) - 1 := by rw [wrap_i64 (by omega) (by omega)]; omega
    generalize bn l / 2 ^ (64 * 0 + (n + 1)) % 2 ^ (64 - (n + 1)) = x at *
    have w1 : IntKind.u64.wrap (2 * (x : Int)) = 2 * (x : Int) := wrap_u64 (by omega) (by omega)
    have w2 : IntKind.u64.wrap (2 * (x : Int) + 1) = 2 * (x : Int) + 1 := wrap_u64 (by omega) (by omega)
    rw [hp] at ih
    rw [br_if, if_pos (by simp), br_if, e1, e2, w1, w2]
    by_cases hin : 64 * 0 + n < l.length
    · rw [if_pos (by simp; omega), bnd_of ((ix_nat l _).trans (show _ = some (l.getD (64 * 0 + n) 0) by rw [List.getD_eq_getElem?_getD, List.getElem?_eq_getElem hin]; rfl)), br_if]
      by_cases h1 : l.getD (64 * 0 + n) 0 = 1
      · rw [if_pos (by simpa using h1)]
        rw [if_pos h1] at ih
        rw [← ih]
        congr 1 <;> omega
      · rw [if_neg (by simpa using h1)]
        rw [if_neg h1] at ih
        rw [← ih]
        congr 1 <;> omega
    · rw [if_neg (by simp; omega)]
      have h1 : ¬ l.getD (64 * 0 + n) 0 = 1 := by
        rw [List.getD_eq_getElem?_getD, List.getElem?_eq_none (by omega)]; simp
      rw [if_neg h1] at ih
      rw [← ih]
      congr 1 <;> omega
theorem refFrom_word {R : Type} (fuel : Nat) (l : List Int) (hl : l.length ≤ 512) (i : Nat) (hi : i ≤ 8) (w1 : Int) (w171 : Nat) (w172 : List Int) (a b : Int) (c : Bool) (k0 : Int → Int → Int → Int → Bool → Bool → Option R) : ∀ (n k : Nat), n ≤ 64 → n < k → refFromF_l4 fuel l (i : Int) w1 w171 w172 k0 k ((bn l / 2 ^ (64 * i + n) % 2 ^ (64 - n) : Nat) : Int) ((n : Int) - 1) a b c = k0 ((bn l / 2 ^ (64 * i) % 18446744073709551616 : Nat) : Int) (-1) a b c false
  | n, 0, hn, hk => by omega
  | 0, k + 1, hn, hk => by
    unfold refFromF_l4 refFromF_s6
    rw [br_if, if_neg (by decide)]
    rfl
  | n + 1, k + 1, hn, hk => by
    unfold refFromF_l4 refFromF_s6
    obtain ⟨hp, hlt⟩ := bn_step l i n (by omega)
    have ih := refFrom_word fuel l hl i hi w1 w171 w172 a b c k0 n k (by omega) (by omega)
    have e1 : IntKind.i64.wrap (IntKind.i64.wrap (64 * (i : Int)) + (((n + 1 : Nat) : Int) - 1)) = ((64 * i + n : Nat) : Int) := by rw [wrap_i64 (x := 64 * (i : Int)) (by omega) (by omega), wrap_i64 (by omega) (by omega)]; omega
    have e2 : IntKind.i64.wrap (((n + 1 : Nat) : Int) - 1 - 1) = (n : Int) - 1 := by rw [wrap_i64 (by omega) (by omega)]; omega
    generalize bn l / 2 ^ (64 * i + (n + 1)) % 2 ^ (64 - (n + 1)) = x at *
    have w1 : IntKind.u64.wrap (2 * (x : Int)) = 2 * (x : Int) := wrap_u64 (by omega) (by omega)
    have w2 : IntKind.u64.wrap (2 * (x : Int) + 1) = 2 * (x : Int) + 1 := wrap_u64 (by omega) (by omega)
    rw [hp] at ih
    rw [br_if, if_pos (by simp), br_if, e1, e2, w1, w2]
    by_cases hin : 64 * i + n < l.length
    · rw [if_pos (by simp; omega), bnd_of ((ix_nat l _).trans (show _ = some (l.getD (64 * i + n) 0) by rw [List.getD_eq_getElem?_getD, List.getElem?_eq_getElem hin]; rfl)), br_if]
      by_cases h1 : l.getD (64 * i + n) 0 = 1
      · rw [if_pos (by simpa using h1)]
        rw [if_pos h1] at ih
        rw [← ih]
        congr 1 <;> omega
      · rw [if_neg (by simpa using h1)]
        rw [if_neg h1] at ih
        rw [← ih]
        congr 1 <;> omega
    · rw [if_neg (by simp; omega)]
      have h1 : ¬ l.getD (64 * i + n) 0 = 1 := by
        rw [List.getD_eq_getElem?_getD, List.getElem?_eq_none (by omega)]; simp
      rw [if_neg h1] at ih
      rw [← ih]
      congr 1 <;> omega
theorem refFrom_rest {R : Type} (F : Nat) (hF : 70 ≤ F) (l : List Int) (hl : l.length ≤ 512) (w1 : Int) (k0 : Nat → List Int → Option R) : ∀ (k i : Nat), i ≤ nw (l.length : Int) → nw (l.length : Int) < i + k → refFromF_l3 F l w1 k0 k (i : Int) i (words i (bn l)) = k0 (nw (l.length : Int)) (words (nw (l.length : Int)) (bn l))
  | 0, i, h1, h2 => by omega
  | k + 1, i, h1, h2 => by
    have hn := nw_le (n := (l.length : Int)) (by omega)
    unfold refFromF_l3 refFromF_s5
    rw [grd_of (by simp; omega), br_if]
    by_cases hc : i < nw (l.length : Int)
    · rw [if_pos (by simpa using hc)]
      have h := refFrom_word (R := R) F l hl i (by omega) w1 i (words i (bn l)) (l.length : Int) ((nw (l.length : Int) : Nat) : Int) (decide ((i : Int) < ((nw (l.length : Int) : Nat) : Int)))
      have h := fun k0 => h k0 64 F (by omega) (by omega)
      rw [show bn l / 2 ^ (64 * i + 64) % 2 ^ (64 - 64) = 0 by rw [Nat.sub_self]; omega, show ((64 : Nat) : Int) - 1 = 63 from rfl, Int.natCast_zero] at h
      dsimp only
      rw [h]
      unfold refFromF_s7
      rw [grd_of (by rw [length_words]; exact beq_self _), grd_of (okN_of (by omega) (by omega)), wrap_i64 (by omega) (by omega), ← words_snoc, length_words, show (i : Int) + 1 = ((i + 1 : Nat) : Int) by omega]
      exact refFrom_rest F hF l hl w1 k0 k (i + 1) (by omega) (by omega)
    · rw [if_neg (by simpa using hc), show i = nw (l.length : Int) by omega]
theorem refFrom_fact (l : List Int) (hg : (decide (l.length ≤ 512)) = true) : Fact Tryd.prog gTab 148 [.li .i64 l] [] (.agg [.s (.int .i64 ((l.length : Nat) : Int)), .li .u64 (fromS l)], []) := by
  have hl := of_decide_eq_true hg
  obtain ⟨F, hF⟩ : ∃ F : Nat, F = 99 := ⟨_, rfl⟩
  have hn := nw_le (n := (l.length : Int)) (by omega)
  have hn2 := nw_cast (n := (l.length : Int)) (by omega)
  rw [fromS_eq]
  unfold fromI
  by_cases h0 : l.length = 0
  · refine Fact.out (v := .agg [.s (.int .i64 ((l.length : Nat) : Int)), .s (.slice none 0 0)]) (bs' := []) ?_ (fun _ _ _ x h => RV_agg_two (fun _ h => RVs_two (fun _ h => h) (fun _ h => RVs_two (fun _ h => (show words (nw (l.length : Int)) (bn l) = [] by rw [show nw (l.length : Int) = 0 by omega]; rfl) ▸ RV_nil_li h) (fun _ h => h) h) h) h)
    refine callN_fact hN hM T_refIn1_ok (n := F + 1) (mode := mode2) ?_
    rw [refFromF_eq]
    unfold refFromF refFromF_s1
    dsimp only
    unfold refFromF_l1 refFromF_s2
    dsimp only
    rw [grd_of (by simp; omega), br_if, if_neg (by simp; omega)]
    rfl
  · refine callN_fact hN hM T_refIn1_ok (n := F + 1) (mode := mode2) ?_
    rw [refFromF_eq]
    unfold refFromF refFromF_s1
    dsimp only
    unfold refFromF_l1 refFromF_s2
    dsimp only
    rw [grd_of (by simp; omega), br_if, if_pos (by simp; omega)]
    have h := refFrom_word0 (R := Out) (F + 1) l hl (l.length : Int) (l.length : Int) ((nw (l.length : Int) : Nat) : Int) (decide ((0 : Int) < ((nw (l.length : Int) : Nat) : Int)))
    have h := fun k0 => h k0 64 (F + 1) (by omega) (by omega)
    rw [show bn l / 2 ^ (64 * 0 + 64) % 2 ^ (64 - 64) = 0 by rw [Nat.sub_self]; omega, show ((64 : Nat) : Int) - 1 = 63 from rfl, Int.natCast_zero] at h
    rw [h]
    unfold refFromF_s4
    have hr := fun k0 => refFrom_rest (R := Out) (F + 1) (by omega) l hl (l.length : Int) k0 F 1 (by omega) (by omega)
    rw [show words 1 (bn l) = [((bn l / 2 ^ (64 * 0) % 18446744073709551616 : Nat) : Int)] by simp [words], show ((1 : Nat) : Int) = 1 from rfl] at hr
    dsimp only
    rw [hr]
    unfold refFromF_s8
    rw [List.drop_zero, List.take_of_length_le (by rw [length_words]; omega)]
noncomputable def refFrom_ent : List V → List Blk → Option (Bool × Out)
  | [w0], [] => (asSl (.int .i64) w0).bind fun l => some ((decide (l.length ≤ 512)), (.agg [.s (.int .i64 ((l.length : Nat) : Int)), .li .u64 (fromS l)], []))
  | _, _ => none
theorem refFrom_ok : ∀ args bs out, refFrom_ent args bs = some (true, out) → Fact Tryd.prog gTab 148 args bs out := by
  intro args bs out h
  unfold refFrom_ent at h
  split at h
  · rename_i w0
    obtain ⟨l, h_l, h⟩ := Option.bind_eq_some_iff.1 h
    simp only [Option.some.injEq, Prod.mk.injEq] at h
    obtain ⟨hg, rfl⟩ := h
    exact (refFrom_fact l hg).args (fun _ _ _ => fun _ h => RVs_two (fun _ h => RV_li h_l h) (fun _ h => h) h)
  · cases h
noncomputable def T_refFrom : Tbl := Tbl.cons 148 refFrom_ent T_refIn1
theorem T_refFrom_ok : CallOk Tryd.prog gTab T_refFrom := cons_ok T_refIn1_ok refFrom_ok
/-! downpour/downpourref01.Of -/
noncomputable def refOfF_s2 {R : Type} (w2 : Int) (n : Int) (l : List Int) (w3 : List Int) (w1 : Nat) (c0 : Nat → Int → List Int → Option R) (c1 : Nat → Int → List Int → Option R) (c2 : Nat → List Int → Option R) : Option R :=
  br (decide (w2 < n))
    (grd (decide (l.length ≤ 1000000)) <|
    br (inL l w2)
      (grd (Nat.beq w3.length w1) <|
      grd (okN (w1 + 1) 8) <|
      c0 ((w3 ++ [1]).length) (IntKind.i64.wrap (w2 + 1)) (w3 ++ [1]))
      (grd (Nat.beq w3.length w1) <|
      grd (okN (w1 + 1) 8) <|
      c1 ((w3 ++ [0]).length) (IntKind.i64.wrap (w2 + 1)) (w3 ++ [0])))
    (c2 w1 w3)
theorem refOfF_s2_eq (fuel : Nat) (k : Nat) (K : Ex → St → Option Out) (w2 : Int) (n : Int) (l : List Int) (w3 : List Int) (w1 : Nat) : lpN (sub (bodyOf Tryd.prog 151) [1, 1, 0, 1, 0, 0]) (fnX Tryd.prog mode2 T_refFrom fuel 23 0) 6291504 [0, 1, 4, 5, 6] (k + 1) ⟨[(0, .s (.int .i64 n)), (1, .li .i64 l), (4, .ptr 0 2 0 0), (5, .sl 1 1 0 w1), (6, .s (.int .i64 w2))], [(0, some ⟨29, .agg [.s (.int .i64 0), .s (.slice none 0 0)], true⟩), (1, some ⟨3, .li .i64 w3, true⟩)], 2, none⟩ K = refOfF_s2 w2 n l w3 w1 (fun (a6 : Nat) (a7 : Int) (a8 : List Int) => lpN (sub (bodyOf Tryd.prog 151) [1, 1, 0, 1, 0, 0]) (fnX Tryd.prog mode2 T_refFrom fuel 23 0) 6291504 [0, 1, 4, 5, 6] k ⟨[(0, .s (.int .i64 n)), (1, .li .i64 l), (4, .ptr 0 2 0 0), (5, .sl 1 1 0 a6), (6, .s (.int .i64 a7))], [(0, some ⟨29, .agg [.s (.int .i64 0), .s (.slice none 0 0)], true⟩), (1, some ⟨3, .li .i64 a8, true⟩)], 2, none⟩ K) (fun (a9 : Nat) (a10 : Int) (a11 : List Int) => lpN (sub (bodyOf Tryd.prog 151) [1, 1, 0, 1, 0, 0]) (fnX Tryd.prog mode2 T_refFrom fuel 23 0) 6291504 [0, 1, 4, 5, 6] k ⟨[(0, .s (.int .i64 n)), (1, .li .i64 l), (4, .ptr 0 2 0 0), (5, .sl 1 1 0 a9), (6, .s (.int .i64 a10))], [(0, some ⟨29, .agg [.s (.int .i64 0), .s (.slice none 0 0)], true⟩), (1, some ⟨3, .li .i64 a11, true⟩)], 2, none⟩ K) (fun (a12 : Nat) (a13 : List Int) => K (.exit 0) ⟨[(4, .ptr 0 2 0 0), (5, .sl 1 1 0 a12)], [(0, some ⟨29, .agg [.s (.int .i64 0), .s (.slice none 0 0)], true⟩), (1, some ⟨3, .li .i64 a13, true⟩)], 2, none⟩) := by kernel_rfl
noncomputable def refOfF_l1 {R : Type} (fuel : Nat) (n : Int) (l : List Int) (k0 : Nat → List Int → Option R) : Nat → Nat → Int → List Int → Option R
  | 0, _, _, _ => none
  | k + 1, w1, w2, w3 =>
    (refOfF_s2 w2 n l w3 w1 (fun (a6 : Nat) (a7 : Int) (a8 : List Int) => ( refOfF_l1 fuel n l k0 k a6 a7 a8 )) (fun (a9 : Nat) (a10 : Int) (a11 : List Int) => ( refOfF_l1 fuel n l k0 k a9 a10 a11 )) (fun (a12 : Nat) (a13 : List Int) => k0 a12 a13))
theorem refOfF_l1_eq (fuel : Nat) (n : Int) (l : List Int) (K : Ex → St → Option Out) : ∀ (k : Nat) (w1 : Nat) (w2 : Int) (w3 : List Int), lpN (sub (bodyOf Tryd.prog 151) [1, 1, 0, 1, 0, 0]) (fnX Tryd.prog mode2 T_refFrom fuel 23 0) 6291504 [0, 1, 4, 5, 6] k ⟨[(0, .s (.int .i64 n)), (1, .li .i64 l), (4, .ptr 0 2 0 0), (5, .sl 1 1 0 w1), (6, .s (.int .i64 w2))], [(0, some ⟨29, .agg [.s (.int .i64 0), .s (.slice none 0 0)], true⟩), (1, some ⟨3, .li .i64 w3, true⟩)], 2, none⟩ K = refOfF_l1 fuel n l (fun (y4 : Nat) (y5 : List Int) => K (.exit 0) ⟨[(4, .ptr 0 2 0 0), (5, .sl 1 1 0 y4)], [(0, some ⟨29, .agg [.s (.int .i64 0), .s (.slice none 0 0)], true⟩), (1, some ⟨3, .li .i64 y5, true⟩)], 2, none⟩) k w1 w2 w3
  | 0, _, _, _ => rfl
  | k + 1, w1, w2, w3 => by
    unfold refOfF_l1
    exact (refOfF_s2_eq fuel k K w2 n l w3 w1).trans (congr (congr (congr (Eq.refl (refOfF_s2 (R := Out) w2 n l w3 w1)) (funext fun a6 => funext fun a7 => funext fun a8 => refOfF_l1_eq fuel n l K k a6 a7 a8)) (funext fun a9 => funext fun a10 => funext fun a11 => refOfF_l1_eq fuel n l K k a9 a10 a11)) (rfl))
noncomputable def refOfF_s3 {R : Type} (x18 : List Int) (x17 : Nat) (c0 : Int → List Int → Option R) : Option R :=
  grd (decide (((x18.drop 0).take x17).length ≤ 512)) <|
  c0 ((((x18.drop 0).take x17).length : Nat) : Int) (fromS ((x18.drop 0).take x17))
theorem refOfF_s3_eq (fuel : Nat)  (x18 : List Int) (x17 : Nat) : (kont (fnX Tryd.prog mode2 T_refFrom fuel 23 0) (bodyOf Tryd.prog 151) [1, 1, 0, 1, 0] 16 (endK Tryd.prog 0 0 151)) (.exit 0) ⟨[(4, .ptr 0 2 0 0), (5, .sl 1 1 0 x17)], [(0, some ⟨29, .agg [.s (.int .i64 0), .s (.slice none 0 0)], true⟩), (1, some ⟨3, .li .i64 x18, true⟩)], 2, none⟩ = refOfF_s3 x18 x17 (fun (a19 : Int) (a20 : List Int) => some (.agg [.s (.int .i64 a19), .li .u64 a20], [])) := by kernel_rfl
noncomputable def refOfF_s1 {R : Type} (n : Int) (l : List Int) (c0 : Nat → Int → List Int → Option R) : Option R :=
  c0 0 0 ([])
theorem refOfF_s1_eq (fuel : Nat)  (n : Int) (l : List Int) : callN Tryd.prog mode2 T_refFrom fuel 151 [.s (.int .i64 n), .li .i64 l] [] = refOfF_s1 n l (fun (a14 : Nat) (a15 : Int) (a16 : List Int) => lpN (sub (bodyOf Tryd.prog 151) [1, 1, 0, 1, 0, 0]) (fnX Tryd.prog mode2 T_refFrom fuel 23 0) 6291504 [0, 1, 4, 5, 6] fuel ⟨[(0, .s (.int .i64 n)), (1, .li .i64 l), (4, .ptr 0 2 0 0), (5, .sl 1 1 0 a14), (6, .s (.int .i64 a15))], [(0, some ⟨29, .agg [.s (.int .i64 0), .s (.slice none 0 0)], true⟩), (1, some ⟨3, .li .i64 a16, true⟩)], 2, none⟩ (kont (fnX Tryd.prog mode2 T_refFrom fuel 23 0) (bodyOf Tryd.prog 151) [1, 1, 0, 1, 0] 16 (endK Tryd.prog 0 0 151))) := by kernel_rfl
noncomputable def refOfF {R : Type} (fuel : Nat) (n : Int) (l : List Int) (r0 : Int → List Int → Option R) : Option R :=
  (refOfF_s1 n l (fun (a14 : Nat) (a15 : Int) (a16 : List Int) => (refOfF_l1 fuel n l (fun (x17 : Nat) (x18 : List Int) => (refOfF_s3 x18 x17 (fun (a19 : Int) (a20 : List Int) => r0 a19 a20))) fuel a14 a15 a16)))
theorem refOfF_eq (fuel : Nat) (n : Int) (l : List Int) : callN Tryd.prog mode2 T_refFrom fuel 151 [.s (.int .i64 n), .li .i64 l] [] = refOfF fuel n l (fun (z0 : Int) (z1 : List Int) => some (.agg [.s (.int .i64 z0), .li .u64 z1], [])) := by
  unfold refOfF
  exact (refOfF_s1_eq fuel  n l).trans (congr (Eq.refl (refOfF_s1 (R := Out) n l)) (funext fun a14 => funext fun a15 => funext fun a16 => (refOfF_l1_eq fuel n l (kont (fnX Tryd.prog mode2 T_refFrom fuel 23 0) (bodyOf Tryd.prog 151) [1, 1, 0, 1, 0] 16 (endK Tryd.prog 0 0 151)) fuel a14 a15 a16).trans (congrFun (congrFun (congrFun (congrFun (congr (Eq.refl (refOfF_l1 (R := Out) fuel n l)) (funext fun x17 => funext fun x18 => (refOfF_s3_eq fuel  x18 x17))) fuel) a14) a15) a16)))
theorem refOf_loop {R : Type} (fuel : Nat) (n : Nat) (l : List Int) (hn : n ≤ 512) (hl : l.length ≤ 1000000) (k0 : Nat → List Int → Option R) : ∀ (k j : Nat), j ≤ n → n < j + k → refOfF_l1 fuel (n : Int) l k0 k j (j : Int) (bitsL j l) = k0 n (bitsL n l)
  | 0, j, h1, h2 => by omega
  | k + 1, j, h1, h2 => by
    unfold refOfF_l1 refOfF_s2
    rw [br_if]
    by_cases hc : j < n
    · have ih := refOf_loop fuel n l hn hl k0 k (j + 1) (by omega) (by omega)
      rw [bitsL_succ] at ih
      rw [if_pos (by simpa using hc), grd_of (decide_eq_true hl), br_if, wrap_i64 (by omega) (by omega), show (j : Int) + 1 = ((j + 1 : Nat) : Int) by omega]
      by_cases hm : inL l (j : Int) = true
      · rw [if_pos hm] at ih
        rw [if_pos hm, grd_of (by rw [bitsL_len]; exact beq_self _), grd_of (okN_of (by omega) (by omega)), List.length_append, bitsL_len]
        exact ih
      · rw [if_neg hm] at ih
        rw [if_neg hm, grd_of (by rw [bitsL_len]; exact beq_self _), grd_of (okN_of (by omega) (by omega)), List.length_append, bitsL_len]
        exact ih
    · rw [if_neg (by simpa using hc), show j = n by omega]
theorem refOf_fact (n : Int) (l : List Int) (hg : (decide (0 ≤ n) && decide (n ≤ 512) && decide (l.length ≤ 1000000)) = true) : Fact Tryd.prog gTab 151 [.s (.int .i64 n), .li .i64 l] [] (.agg [.s (.int .i64 n), .li .u64 (ofS n l)], []) := by
  simp only [Bool.and_eq_true, decide_eq_true_eq] at hg
  obtain ⟨⟨h0, h1⟩, h2⟩ := hg
  obtain ⟨j, rfl⟩ : ∃ j : Nat, n = (j : Int) := ⟨n.toNat, by omega⟩
  refine callN_fact hN hM T_refFrom_ok (n := j + 1) (mode := mode2) ?_
  rw [refOfF_eq]
  unfold refOfF refOfF_s1
  have h := fun k0 => refOf_loop (R := Out) (j + 1) j l (by omega) h2 k0 (j + 1) 0 (by omega) (by omega)
  rw [show bitsL 0 l = [] from rfl, Int.natCast_zero] at h
  dsimp only
  rw [h]
  unfold refOfF_s3
  rw [List.drop_zero, List.take_of_length_le (by rw [bitsL_len]; omega), bitsL_len, grd_of (by simp; omega), from_bits]
noncomputable def refOf_ent : List V → List Blk → Option (Bool × Out)
  | [.s (.int .i64 n), w0], [] => (asSl (.int .i64) w0).bind fun l => some ((decide (0 ≤ n) && decide (n ≤ 512) && decide (l.length ≤ 1000000)), (.agg [.s (.int .i64 n), .li .u64 (ofS n l)], []))
  | _, _ => none
theorem refOf_ok : ∀ args bs out, refOf_ent args bs = some (true, out) → Fact Tryd.prog gTab 151 args bs out := by
  intro args bs out h
  unfold refOf_ent at h
  split at h
  · rename_i n w0
    obtain ⟨l, h_l, h⟩ := Option.bind_eq_some_iff.1 h
    simp only [Option.some.injEq, Prod.mk.injEq] at h
    obtain ⟨hg, rfl⟩ := h
    exact (refOf_fact n l hg).args (fun _ _ _ => fun _ h => RVs_two (fun _ h => h) (fun _ h => RVs_two (fun _ h => RV_li h_l h) (fun _ h => h) h) h)
  · cases h
noncomputable def T_refOf : Tbl := Tbl.cons 151 refOf_ent T_refFrom
theorem T_refOf_ok : CallOk Tryd.prog gTab T_refOf := cons_ok T_refFrom_ok refOf_ok
/-! downpour/downpourref01.Same -/
noncomputable def refSameF_s2 {R : Type} (w7 : Int) (w6 : Int) (a : List Int) (b : List Int) (n : Int) (m : Int) (c0 : Option R) (c1 : Int → Int → Option R) (c2 : Option R) : Option R :=
  br (decide (w7 < w6))
    (bnd (ix a w7) fun e10 =>
    bnd (ix b w7) fun e11 =>
    br (e10 != e11)
      (c0)
      (c1 w6 (IntKind.i64.wrap (w7 + 1))))
    (c2)
theorem refSameF_s2_eq (fuel : Nat) (k : Nat) (K : Ex → St → Option Out) (w7 : Int) (w6 : Int) (a : List Int) (b : List Int) (n : Int) (m : Int) : lpN (sub (bodyOf Tryd.prog 20) [1, 1, 0, 1, 0, 0]) (fnX Tryd.prog mode2 T_refOf fuel 38 0) 16 [2, 3, 4, 22, 23] (k + 1) ⟨[(2, .ptr 0 2 0 0), (3, .ptr 1 2 0 0), (4, .s (.bool false)), (22, .s (.int .i64 w6)), (23, .s (.int .i64 w7))], [(0, some ⟨29, .agg [.s (.int .i64 n), .li .u64 a], true⟩), (1, some ⟨29, .agg [.s (.int .i64 m), .li .u64 b], true⟩)], 2, none⟩ K = refSameF_s2 w7 w6 a b n m (K .ret ⟨[(4, .s (.bool false))], [], 0, none⟩) (fun (a12 : Int) (a13 : Int) => lpN (sub (bodyOf Tryd.prog 20) [1, 1, 0, 1, 0, 0]) (fnX Tryd.prog mode2 T_refOf fuel 38 0) 16 [2, 3, 4, 22, 23] k ⟨[(2, .ptr 0 2 0 0), (3, .ptr 1 2 0 0), (4, .s (.bool false)), (22, .s (.int .i64 a12)), (23, .s (.int .i64 a13))], [(0, some ⟨29, .agg [.s (.int .i64 n), .li .u64 a], true⟩), (1, some ⟨29, .agg [.s (.int .i64 m), .li .u64 b], true⟩)], 2, none⟩ K) (K (.exit 0) ⟨[(4, .s (.bool false))], [], 0, none⟩) := by kernel_rfl
noncomputable def refSameF_l1 {R : Type} (fuel : Nat) (n : Int) (a : List Int) (m : Int) (b : List Int) (k0 : Option R) (k1 : Option R) : Nat → Int → Int → Option R
  | 0, _, _ => none
  | k + 1, w6, w7 =>
    (refSameF_s2 w7 w6 a b n m (k0) (fun (a12 : Int) (a13 : Int) => ( refSameF_l1 fuel n a m b k0 k1 k a12 a13 )) (k1))
theorem refSameF_l1_eq (fuel : Nat) (n : Int) (a : List Int) (m : Int) (b : List Int) (K : Ex → St → Option Out) : ∀ (k : Nat) (w6 : Int) (w7 : Int), lpN (sub (bodyOf Tryd.prog 20) [1, 1, 0, 1, 0, 0]) (fnX Tryd.prog mode2 T_refOf fuel 38 0) 16 [2, 3, 4, 22, 23] k ⟨[(2, .ptr 0 2 0 0), (3, .ptr 1 2 0 0), (4, .s (.bool false)), (22, .s (.int .i64 w6)), (23, .s (.int .i64 w7))], [(0, some ⟨29, .agg [.s (.int .i64 n), .li .u64 a], true⟩), (1, some ⟨29, .agg [.s (.int .i64 m), .li .u64 b], true⟩)], 2, none⟩ K = refSameF_l1 fuel n a m b (K .ret ⟨[(4, .s (.bool false))], [], 0, none⟩) (K (.exit 0) ⟨[(4, .s (.bool false))], [], 0, none⟩) k w6 w7
  | 0, _, _ => rfl
  | k + 1, w6, w7 => by
    unfold refSameF_l1
    exact (refSameF_s2_eq fuel k K w7 w6 a b n m).trans (congr (congr (congr (Eq.refl (refSameF_s2 (R := Out) w7 w6 a b n m)) (rfl)) (funext fun a12 => funext fun a13 => refSameF_l1_eq fuel n a m b K k a12 a13)) (rfl))
noncomputable def refSameF_s3 {R : Type}  (c0 : Bool → Option R) : Option R :=
  c0 false
theorem refSameF_s3_eq (fuel : Nat)   : (kont (fnX Tryd.prog mode2 T_refOf fuel 38 0) (bodyOf Tryd.prog 20) [1, 1, 0, 1, 0] 16 (endK Tryd.prog 0 0 20)) .ret ⟨[(4, .s (.bool false))], [], 0, none⟩ = refSameF_s3  (fun (a16 : Bool) => some (.s (.bool a16), [])) := by kernel_rfl
noncomputable def refSameF_s4 {R : Type}  (c0 : Bool → Option R) : Option R :=
  c0 true
theorem refSameF_s4_eq (fuel : Nat)   : (kont (fnX Tryd.prog mode2 T_refOf fuel 38 0) (bodyOf Tryd.prog 20) [1, 1, 0, 1, 0] 16 (endK Tryd.prog 0 0 20)) (.exit 0) ⟨[(4, .s (.bool false))], [], 0, none⟩ = refSameF_s4  (fun (a17 : Bool) => some (.s (.bool a17), [])) := by kernel_rfl
noncomputable def refSameF_s1 {R : Type} (n : Int) (m : Int) (a : List Int) (b : List Int) (c0 : Bool → Option R) (c1 : Int → Int → Option R) : Option R :=
  br (n != m)
    (c0 false)
    (br ((((a.length : Nat) : Int) : Int) != ((b.length : Nat) : Int))
      (c0 false)
      (c1 ((a.length : Nat) : Int) 0))
theorem refSameF_s1_eq (fuel : Nat)  (n : Int) (m : Int) (a : List Int) (b : List Int) : callN Tryd.prog mode2 T_refOf fuel 20 [.agg [.s (.int .i64 n), .li .u64 a], .agg [.s (.int .i64 m), .li .u64 b]] [] = refSameF_s1 n m a b (fun (a1 : Bool) => some (.s (.bool a1), [])) (fun (a14 : Int) (a15 : Int) => lpN (sub (bodyOf Tryd.prog 20) [1, 1, 0, 1, 0, 0]) (fnX Tryd.prog mode2 T_refOf fuel 38 0) 16 [2, 3, 4, 22, 23] fuel ⟨[(2, .ptr 0 2 0 0), (3, .ptr 1 2 0 0), (4, .s (.bool false)), (22, .s (.int .i64 a14)), (23, .s (.int .i64 a15))], [(0, some ⟨29, .agg [.s (.int .i64 n), .li .u64 a], true⟩), (1, some ⟨29, .agg [.s (.int .i64 m), .li .u64 b], true⟩)], 2, none⟩ (kont (fnX Tryd.prog mode2 T_refOf fuel 38 0) (bodyOf Tryd.prog 20) [1, 1, 0, 1, 0] 16 (endK Tryd.prog 0 0 20))) := by kernel_rfl
noncomputable def refSameF {R : Type} (fuel : Nat) (n : Int) (a : List Int) (m : Int) (b : List Int) (r0 : Bool → Option R) : Option R :=
  (refSameF_s1 n m a b (fun (a1 : Bool) => r0 a1) (fun (a14 : Int) (a15 : Int) => (refSameF_l1 fuel n a m b ((refSameF_s3 (fun (a16 : Bool) => r0 a16))) ((refSameF_s4 (fun (a17 : Bool) => r0 a17))) fuel a14 a15)))
theorem refSameF_eq (fuel : Nat) (n : Int) (a : List Int) (m : Int) (b : List Int) : callN Tryd.prog mode2 T_refOf fuel 20 [.agg [.s (.int .i64 n), .li .u64 a], .agg [.s (.int .i64 m), .li .u64 b]] [] = refSameF fuel n a m b (fun (z0 : Bool) => some (.s (.bool z0), [])) := by
  unfold refSameF
  exact (refSameF_s1_eq fuel  n m a b).trans (congr (congr (Eq.refl (refSameF_s1 (R := Out) n m a b)) (rfl)) (funext fun a14 => funext fun a15 => (refSameF_l1_eq fuel n a m b (kont (fnX Tryd.prog mode2 T_refOf fuel 38 0) (bodyOf Tryd.prog 20) [1, 1, 0, 1, 0] 16 (endK Tryd.prog 0 0 20)) fuel a14 a15).trans (congrFun (congrFun (congrFun (congr (congr (Eq.refl (refSameF_l1 (R := Out) fuel n a m b)) ((refSameF_s3_eq fuel  ))) ((refSameF_s4_eq fuel  ))) fuel) a14) a15)))
theorem refSame_loop {R : Type} (fuel : Nat) (n m : Int) (a b : List Int) (hab : a.length = b.length) (hx : a.length ≤ 1000000) (k0 k1 : Option R) : ∀ (k j : Nat), j ≤ a.length → a.length < j + k → refSameF_l1 fuel n a m b k0 k1 k (a.length : Int) (j : Int) = if a.drop j = b.drop j then k1 else k0
  | 0, j, h1, h2 => by omega
  | k + 1, j, h1, h2 => by
    unfold refSameF_l1 refSameF_s2
    rw [br_if]
    by_cases hc : j < a.length
    · have hc2 : j < b.length := by omega
      rw [if_pos (by simpa using hc), bnd_of ((ix_nat a j).trans (List.getElem?_eq_getElem hc)), bnd_of ((ix_nat b j).trans (List.getElem?_eq_getElem hc2)), br_if, List.drop_eq_getElem_cons hc, List.drop_eq_getElem_cons hc2, wrap_i64 (by omega) (by omega), show (j : Int) + 1 = ((j + 1 : Nat) : Int) by omega]
      dsimp only
      rw [refSame_loop fuel n m a b hab hx k0 k1 k (j + 1) (by omega) (by omega)]
      generalize a[j] = x
      generalize b[j] = y
      generalize a.drop (j + 1) = t
      generalize b.drop (j + 1) = u
      by_cases he : x = y <;> simp [he]
    · rw [if_neg (by simpa using hc), List.drop_eq_nil_of_le (by omega), List.drop_eq_nil_of_le (by omega)]
      simp
theorem refSame_fact (n : Int) (a : List Int) (m : Int) (b : List Int) (hg : (decide (a.length ≤ 1000000)) = true) : Fact Tryd.prog gTab 20 [.agg [.s (.int .i64 n), .li .u64 a], .agg [.s (.int .i64 m), .li .u64 b]] [] (.s (.bool (eqRow n a m b)), []) := by
  have hg := of_decide_eq_true hg
  refine callN_fact hN hM T_refOf_ok (n := a.length + 1) (mode := mode2) ?_
  rw [refSameF_eq]
  unfold refSameF refSameF_s1
  rw [br_if, br_if, eqRow_eq]
  unfold eqRowI
  by_cases hn : n = m
  · rw [if_neg (by simpa using hn)]
    by_cases hab : a.length = b.length
    · rw [if_neg (by simp; omega)]
      dsimp only
      have := refSame_loop (R := Out) (a.length + 1) n m a b hab hg
      rw [show (0 : Int) = ((0 : Nat) : Int) from rfl, this _ _ _ _ (by omega) (by omega), List.drop_zero, List.drop_zero]
      unfold refSameF_s3 refSameF_s4
      by_cases h : a = b <;> simp [h, hn]
    · rw [if_pos (by simp; omega)]
      have : a ≠ b := by rintro rfl; exact hab rfl
      simp [this]
  · rw [if_pos (by simpa using hn)]
    simp [hn]
noncomputable def refSame_ent : List V → List Blk → Option (Bool × Out)
  | [.agg [.s (.int .i64 n), w0], .agg [.s (.int .i64 m), w1]], [] => (asSl (.int .u64) w0).bind fun a => (asSl (.int .u64) w1).bind fun b => some ((decide (a.length ≤ 1000000)), (.s (.bool (eqRow n a m b)), []))
  | _, _ => none
theorem refSame_ok : ∀ args bs out, refSame_ent args bs = some (true, out) → Fact Tryd.prog gTab 20 args bs out := by
  intro args bs out h
  unfold refSame_ent at h
  split at h
  · rename_i n w0 m w1
    obtain ⟨a, h_a, h⟩ := Option.bind_eq_some_iff.1 h
    obtain ⟨b, h_b, h⟩ := Option.bind_eq_some_iff.1 h
    simp only [Option.some.injEq, Prod.mk.injEq] at h
    obtain ⟨hg, rfl⟩ := h
    exact (refSame_fact n a m b hg).args (fun _ _ _ => fun _ h => RVs_two (fun _ h => RV_agg_two (fun _ h => RVs_two (fun _ h => h) (fun _ h => RVs_two (fun _ h => RV_li h_a h) (fun _ h => h) h) h) h) (fun _ h => RVs_two (fun _ h => RV_agg_two (fun _ h => RVs_two (fun _ h => h) (fun _ h => RVs_two (fun _ h => RV_li h_b h) (fun _ h => h) h) h) h) (fun _ h => h) h) h)
  · cases h
noncomputable def T_refSame : Tbl := Tbl.cons 20 refSame_ent T_refOf
theorem T_refSame_ok : CallOk Tryd.prog gTab T_refSame := cons_ok T_refOf_ok refSame_ok
/-! downpour/downpourref01.Bit -/
noncomputable def refBitF_s1 {R : Type} (i : Int) (ws : List Int) (n : Int) (c0 : Int → Option R) : Option R :=
  bnd (divI .quo .i64 i 64) fun v1 =>
  bnd (ix ws v1) fun e2 =>
  bnd (divI .rem .i64 i 64) fun v3 =>
  bnd (shfI .shr .u64 e2 v3) fun v4 =>
  bnd (divI .rem .u64 v4 2) fun v5 =>
  c0 (IntKind.i64.wrap v5)
theorem refBitF_s1_eq (fuel : Nat)  (i : Int) (ws : List Int) (n : Int) : callN Tryd.prog mode2 T_refSame fuel 134 [.agg [.s (.int .i64 n), .li .u64 ws], .s (.int .i64 i)] [] = refBitF_s1 i ws n (fun (a6 : Int) => some (.s (.int .i64 a6), [])) := by kernel_rfl
noncomputable def refBitF {R : Type} (fuel : Nat) (n : Int) (ws : List Int) (i : Int) (r0 : Int → Option R) : Option R :=
  (refBitF_s1 i ws n (fun (a6 : Int) => r0 a6))
theorem refBitF_eq (fuel : Nat) (n : Int) (ws : List Int) (i : Int) : callN Tryd.prog mode2 T_refSame fuel 134 [.agg [.s (.int .i64 n), .li .u64 ws], .s (.int .i64 i)] [] = refBitF fuel n ws i (fun (z0 : Int) => some (.s (.int .i64 z0), [])) := by
  unfold refBitF
  exact (refBitF_s1_eq fuel  i ws n)
theorem refBit_fact (n : Int) (ws : List Int) (i : Int) (hg : (okW ws && decide (0 ≤ i) && decide (i < 64 * (ws.length : Int)) && decide (ws.length ≤ 1000000)) = true) : Fact Tryd.prog gTab 134 [.agg [.s (.int .i64 n), .li .u64 ws], .s (.int .i64 i)] [] (.s (.int .i64 (bitS ws i)), []) := by
  simp only [Bool.and_eq_true, decide_eq_true_eq] at hg
  obtain ⟨⟨⟨h1, h2⟩, h3⟩, h4⟩ := hg
  have hok := okW_iff.1 h1
  refine callN_fact hN hM T_refSame_ok (n := 0) (mode := mode2) ?_
  rw [refBitF_eq]
  unfold refBitF refBitF_s1
  obtain ⟨j, rfl⟩ : ∃ j : Nat, i = (j : Int) := ⟨i.toNat, by omega⟩
  have hj : j / 64 < ws.length := by omega
  have e1 : divI .quo .i64 (j : Int) 64 = some ((j / 64 : Nat) : Int) := by rw [quo_i64 (by omega) (by omega) (by decide)]; norm_cast
  have e2 : divI .rem .i64 (j : Int) 64 = some ((j % 64 : Nat) : Int) := by rw [rem_pos (by omega) (by decide)]; norm_cast
  have e4 : ix ws ((j / 64 : Nat) : Int) = some (ws.getD (j / 64) 0) := by rw [ix_nat, List.getD_eq_getElem?_getD, List.getElem?_eq_getElem hj]; rfl
  have hg := hok.getD (j / 64)
  have hb64 : j % 64 < 64 := Nat.mod_lt _ (by decide)
  have e5 : divI .rem .u64 (((ws.getD (j / 64) 0).toNat / 2 ^ (j % 64) : Nat) : Int) 2 = some (((ws.getD (j / 64) 0).toNat / 2 ^ (j % 64) % 2 : Nat) : Int) := by rw [rem_pos (Int.natCast_nonneg _) (by decide)]; norm_cast
  simp only [e1, bnd_some, e4, e2, shr_nat hg.1 hb64, e5]
  have hw : IntKind.i64.wrap (((ws.getD (j / 64) 0).toNat / 2 ^ (j % 64) % 2 : Nat) : Int) = bitS ws (j : Int) := by
    rw [wrap_i64 (by omega) (by omega), bitS_eq]
    unfold bitI
    rw [Int.toNat_natCast, testBit_val hok, Nat.testBit_eq_decide_div_mod_eq]
    generalize (ws.getD (j / 64) 0).toNat / 2 ^ (j % 64) = q
    by_cases h : q % 2 = 1
    · simp [h]
    · simp [h]; omega
  rw [hw]
noncomputable def refBit_ent : List V → List Blk → Option (Bool × Out)
  | [.agg [.s (.int .i64 n), w0], .s (.int .i64 i)], [] => (asSl (.int .u64) w0).bind fun ws => some ((okW ws && decide (0 ≤ i) && decide (i < 64 * (ws.length : Int)) && decide (ws.length ≤ 1000000)), (.s (.int .i64 (bitS ws i)), []))
  | _, _ => none
theorem refBit_ok : ∀ args bs out, refBit_ent args bs = some (true, out) → Fact Tryd.prog gTab 134 args bs out := by
  intro args bs out h
  unfold refBit_ent at h
  split at h
  · rename_i n w0 i
    obtain ⟨ws, h_ws, h⟩ := Option.bind_eq_some_iff.1 h
    simp only [Option.some.injEq, Prod.mk.injEq] at h
    obtain ⟨hg, rfl⟩ := h
    exact (refBit_fact n ws i hg).args (fun _ _ _ => fun _ h => RVs_two (fun _ h => RV_agg_two (fun _ h => RVs_two (fun _ h => h) (fun _ h => RVs_two (fun _ h => RV_li h_ws h) (fun _ h => h) h) h) h) (fun _ h => h) h)
  · cases h
noncomputable def T_refBit : Tbl := Tbl.cons 134 refBit_ent T_refSame
theorem T_refBit_ok : CallOk Tryd.prog gTab T_refBit := cons_ok T_refSame_ok refBit_ok
/-! downpour/downpourref01.Right -/
noncomputable def refRightF_s2 {R : Type} (w4 : Int) (ws : List Int) (n : Int) (c0 : Option R) (c1 : Int → Option R) (c2 : Option R) : Option R :=
  br (decide (w4 < (IntKind.i64.wrap (64 * ((ws.length : Nat) : Int)))))
    (grd (okW ws && decide (0 ≤ w4) && decide (w4 < 64 * (ws.length : Int)) && decide (ws.length ≤ 1000000)) <|
    br (((bitS ws w4) : Int) == 1)
      (c0)
      (c1 (IntKind.i64.wrap (w4 + 1))))
    (c2)
theorem refRightF_s2_eq (fuel : Nat) (k : Nat) (K : Ex → St → Option Out) (w4 : Int) (ws : List Int) (n : Int) : lpN (sub (bodyOf Tryd.prog 75) [1, 1, 0, 1, 0, 0]) (fnX Tryd.prog mode2 T_refBit fuel 35 0) 4 [1, 2, 3] (k + 1) ⟨[(1, .ptr 0 2 0 0), (2, .s (.bool false)), (3, .s (.int .i64 w4))], [(0, some ⟨29, .agg [.s (.int .i64 n), .li .u64 ws], true⟩)], 1, none⟩ K = refRightF_s2 w4 ws n (K .ret ⟨[(2, .s (.bool false))], [], 0, none⟩) (fun (a5 : Int) => lpN (sub (bodyOf Tryd.prog 75) [1, 1, 0, 1, 0, 0]) (fnX Tryd.prog mode2 T_refBit fuel 35 0) 4 [1, 2, 3] k ⟨[(1, .ptr 0 2 0 0), (2, .s (.bool false)), (3, .s (.int .i64 a5))], [(0, some ⟨29, .agg [.s (.int .i64 n), .li .u64 ws], true⟩)], 1, none⟩ K) (K (.exit 0) ⟨[(2, .s (.bool false))], [], 0, none⟩) := by kernel_rfl
noncomputable def refRightF_l1 {R : Type} (fuel : Nat) (n : Int) (ws : List Int) (k0 : Option R) (k1 : Option R) : Nat → Int → Option R
  | 0, _ => none
  | k + 1, w4 =>
    (refRightF_s2 w4 ws n (k0) (fun (a5 : Int) => ( refRightF_l1 fuel n ws k0 k1 k a5 )) (k1))
theorem refRightF_l1_eq (fuel : Nat) (n : Int) (ws : List Int) (K : Ex → St → Option Out) : ∀ (k : Nat) (w4 : Int), lpN (sub (bodyOf Tryd.prog 75) [1, 1, 0, 1, 0, 0]) (fnX Tryd.prog mode2 T_refBit fuel 35 0) 4 [1, 2, 3] k ⟨[(1, .ptr 0 2 0 0), (2, .s (.bool false)), (3, .s (.int .i64 w4))], [(0, some ⟨29, .agg [.s (.int .i64 n), .li .u64 ws], true⟩)], 1, none⟩ K = refRightF_l1 fuel n ws (K .ret ⟨[(2, .s (.bool false))], [], 0, none⟩) (K (.exit 0) ⟨[(2, .s (.bool false))], [], 0, none⟩) k w4
  | 0, _ => rfl
  | k + 1, w4 => by
    unfold refRightF_l1
    exact (refRightF_s2_eq fuel k K w4 ws n).trans (congr (congr (congr (Eq.refl (refRightF_s2 (R := Out) w4 ws n)) (rfl)) (funext fun a5 => refRightF_l1_eq fuel n ws K k a5)) (rfl))
noncomputable def refRightF_s3 {R : Type}  (c0 : Bool → Option R) : Option R :=
  c0 false
theorem refRightF_s3_eq (fuel : Nat)   : (kont (fnX Tryd.prog mode2 T_refBit fuel 35 0) (bodyOf Tryd.prog 75) [1, 1, 0, 1, 0] 4 (endK Tryd.prog 0 0 75)) .ret ⟨[(2, .s (.bool false))], [], 0, none⟩ = refRightF_s3  (fun (a7 : Bool) => some (.s (.bool a7), [])) := by kernel_rfl
noncomputable def refRightF_s4 {R : Type}  (c0 : Bool → Option R) : Option R :=
  c0 true
theorem refRightF_s4_eq (fuel : Nat)   : (kont (fnX Tryd.prog mode2 T_refBit fuel 35 0) (bodyOf Tryd.prog 75) [1, 1, 0, 1, 0] 4 (endK Tryd.prog 0 0 75)) (.exit 0) ⟨[(2, .s (.bool false))], [], 0, none⟩ = refRightF_s4  (fun (a8 : Bool) => some (.s (.bool a8), [])) := by kernel_rfl
noncomputable def refRightF_s1 {R : Type} (n : Int) (ws : List Int) (c0 : Bool → Option R) (c1 : Int → Option R) : Option R :=
  br (decide (n < 0))
    (c0 false)
    (br (decide (n > 512))
      (c0 false)
      (grd (decide (0 ≤ n) && decide (n ≤ 1000000)) <|
      br ((((ws.length : Nat) : Int) : Int) != (((nw n : Nat) : Int)))
        (c0 false)
        (c1 n)))
theorem refRightF_s1_eq (fuel : Nat)  (n : Int) (ws : List Int) : callN Tryd.prog mode2 T_refBit fuel 75 [.agg [.s (.int .i64 n), .li .u64 ws]] [] = refRightF_s1 n ws (fun (a1 : Bool) => some (.s (.bool a1), [])) (fun (a6 : Int) => lpN (sub (bodyOf Tryd.prog 75) [1, 1, 0, 1, 0, 0]) (fnX Tryd.prog mode2 T_refBit fuel 35 0) 4 [1, 2, 3] fuel ⟨[(1, .ptr 0 2 0 0), (2, .s (.bool false)), (3, .s (.int .i64 a6))], [(0, some ⟨29, .agg [.s (.int .i64 n), .li .u64 ws], true⟩)], 1, none⟩ (kont (fnX Tryd.prog mode2 T_refBit fuel 35 0) (bodyOf Tryd.prog 75) [1, 1, 0, 1, 0] 4 (endK Tryd.prog 0 0 75))) := by kernel_rfl
noncomputable def refRightF {R : Type} (fuel : Nat) (n : Int) (ws : List Int) (r0 : Bool → Option R) : Option R :=
  (refRightF_s1 n ws (fun (a1 : Bool) => r0 a1) (fun (a6 : Int) => (refRightF_l1 fuel n ws ((refRightF_s3 (fun (a7 : Bool) => r0 a7))) ((refRightF_s4 (fun (a8 : Bool) => r0 a8))) fuel a6)))
theorem refRightF_eq (fuel : Nat) (n : Int) (ws : List Int) : callN Tryd.prog mode2 T_refBit fuel 75 [.agg [.s (.int .i64 n), .li .u64 ws]] [] = refRightF fuel n ws (fun (z0 : Bool) => some (.s (.bool z0), [])) := by
  unfold refRightF
  exact (refRightF_s1_eq fuel  n ws).trans (congr (congr (Eq.refl (refRightF_s1 (R := Out) n ws)) (rfl)) (funext fun a6 => (refRightF_l1_eq fuel n ws (kont (fnX Tryd.prog mode2 T_refBit fuel 35 0) (bodyOf Tryd.prog 75) [1, 1, 0, 1, 0] 4 (endK Tryd.prog 0 0 75)) fuel a6).trans (congrFun (congrFun (congr (congr (Eq.refl (refRightF_l1 (R := Out) fuel n ws)) ((refRightF_s3_eq fuel  ))) ((refRightF_s4_eq fuel  ))) fuel) a6)))
open Classical in
theorem refRight_loop {R : Type} (fuel : Nat) (n : Int) (ws : List Int) (hok : okW ws = true) (hx : ws.length ≤ 8) (k0 k1 : Option R) : ∀ (k j : Nat), j ≤ 64 * ws.length → 64 * ws.length < j + k → refRightF_l1 fuel n ws k0 k1 k (j : Int) = if ∃ i, j ≤ i ∧ i < 64 * ws.length ∧ (val ws).testBit i = true then k0 else k1
  | 0, j, h1, h2 => by omega
  | k + 1, j, h1, h2 => by
    unfold refRightF_l1 refRightF_s2
    rw [wrap_i64 (x := 64 * ((ws.length : Nat) : Int)) (by omega) (by omega), br_if]
    by_cases hc : j < 64 * ws.length
    · rw [if_pos (by simp; omega), grd_of (by simp [hok]; omega), br_if, wrap_i64 (by omega) (by omega), show (j : Int) + 1 = ((j + 1 : Nat) : Int) by omega, bitS_eq]
      unfold bitI
      rw [Int.toNat_natCast]
      dsimp only
      by_cases hb : (val ws).testBit j = true
      · rw [if_pos (by simp [hb]), if_pos ⟨j, by omega, hc, hb⟩]
      · rw [if_neg (by simp [hb]), refRight_loop fuel n ws hok hx k0 k1 k (j + 1) (by omega) (by omega)]
        have : (∃ i, j + 1 ≤ i ∧ i < 64 * ws.length ∧ (val ws).testBit i = true) ↔ (∃ i, j ≤ i ∧ i < 64 * ws.length ∧ (val ws).testBit i = true) := by
          constructor
          · rintro ⟨i, a, b, c⟩; exact ⟨i, by omega, b, c⟩
          · rintro ⟨i, a, b, c⟩
            have : i ≠ j := by rintro rfl; exact hb c
            exact ⟨i, by omega, b, c⟩
        simp only [this]
    · rw [if_neg (by simp; omega), if_neg (by rintro ⟨i, a, b, _⟩; omega)]
theorem no_bits {v n m : Nat} (hv : v < 2 ^ m) : (¬ ∃ i, n ≤ i ∧ i < m ∧ v.testBit i = true) ↔ v < 2 ^ n := by
  constructor
  · intro h
    refine Nat.lt_pow_two_of_testBit _ fun i hi => ?_
    by_cases him : i < m
    · rw [Bool.eq_false_iff]; exact fun e => h ⟨i, hi, him, e⟩
    · exact Nat.testBit_lt_two_pow (Nat.lt_of_lt_of_le hv (Nat.pow_le_pow_right (by omega) (by omega)))
  · rintro h ⟨i, a, b, c⟩
    rw [Nat.testBit_lt_two_pow (Nat.lt_of_lt_of_le h (Nat.pow_le_pow_right (by omega) a))] at c
    cases c
theorem refRight_fact (n : Int) (ws : List Int) (hg : (okW ws) = true) : Fact Tryd.prog gTab 75 [.agg [.s (.int .i64 n), .li .u64 ws]] [] (.s (.bool (rtS n ws)), []) := by
  have hok := okW_iff.1 hg
  refine callN_fact hN hM T_refBit_ok (n := 600) (mode := mode2) ?_
  rw [refRightF_eq]
  unfold refRightF refRightF_s1
  have hno : ∀ h : ¬ rtS n ws = true, rtS n ws = false := fun h => by rw [Bool.eq_false_iff]; exact h
  rw [br_if, br_if]
  by_cases h0 : n < 0
  · rw [if_pos (by simpa using h0), hno fun h => by have := (rtS_iff.1 h).1.1; omega]
  · rw [if_neg (by simpa using h0)]
    by_cases h1 : n > 512
    · rw [if_pos (by simpa using h1), hno fun h => by have := (rtS_iff.1 h).1.2; omega]
    · rw [if_neg (by simpa using h1), grd_of (by simp; omega), br_if]
      by_cases hl : ws.length = nw n
      · rw [if_neg (by simp [hl])]
        dsimp only
        obtain ⟨j, rfl⟩ : ∃ j : Nat, n = (j : Int) := ⟨n.toNat, by omega⟩
        have hw := nw_cast (n := (j : Int)) (by omega)
        have hloop := refRight_loop (R := Out) 600 (j : Int) ws hg (by omega)
        rw [hloop _ _ 600 j (by omega) (by omega)]
        have hb := no_bits (n := j) (val_lt hok)
        by_cases hc : ∃ i, j ≤ i ∧ i < 64 * ws.length ∧ (val ws).testBit i = true
        · rw [if_pos hc, hno fun h => hb.2 (by have := (rtS_iff.1 h).2.2; rwa [Int.toNat_natCast] at this) hc]
          rfl
        · rw [if_neg hc, rtS_iff.2 ⟨⟨by omega, by omega⟩, hl, by rw [Int.toNat_natCast]; exact hb.1 hc⟩]
          rfl
      · rw [if_pos (by simp; omega), hno fun h => hl (rtS_iff.1 h).2.1]
noncomputable def refRight_ent : List V → List Blk → Option (Bool × Out)
  | [.agg [.s (.int .i64 n), w0]], [] => (asSl (.int .u64) w0).bind fun ws => some ((okW ws), (.s (.bool (rtS n ws)), []))
  | _, _ => none
theorem refRight_ok : ∀ args bs out, refRight_ent args bs = some (true, out) → Fact Tryd.prog gTab 75 args bs out := by
  intro args bs out h
  unfold refRight_ent at h
  split at h
  · rename_i n w0
    obtain ⟨ws, h_ws, h⟩ := Option.bind_eq_some_iff.1 h
    simp only [Option.some.injEq, Prod.mk.injEq] at h
    obtain ⟨hg, rfl⟩ := h
    exact (refRight_fact n ws hg).args (fun _ _ _ => fun _ h => RVs_two (fun _ h => RV_agg_two (fun _ h => RVs_two (fun _ h => h) (fun _ h => RVs_two (fun _ h => RV_li h_ws h) (fun _ h => h) h) h) h) (fun _ h => h) h)
  · cases h
noncomputable def T_refRight : Tbl := Tbl.cons 75 refRight_ent T_refBit
theorem T_refRight_ok : CallOk Tryd.prog gTab T_refRight := cons_ok T_refBit_ok refRight_ok
/-! math/bits.TrailingZeros64 -/
def lays29_ren : Go.Shelf.Ren := ⟨fun | 29 => 127 | n => n, fun | 22 => 22 | 3 => 3 | 4 => 4 | 25 => 191 | 54 => 219 | 0 => 0 | 5 => 5 | n => n, fun | 1 => 0 | n => n⟩
theorem lays29 : Go.Proofs.Lays7.n29 Tryd.prog lays29_ren where
  mixed := by kernel_rfl
  f29 := Tryd.func127.trans (congrArg some (by kernel_rfl))
  t0 := Tryd.underlying0
  a0 := Tryd.isAgg0
  z0 := Tryd.sizeOf0
  v0 := Tryd.zeroValue0
  i0 := by kernel_rfl
  t3 := Tryd.underlying3
  a3 := Tryd.isAgg3
  z3 := Tryd.sizeOf3
  v3 := Tryd.zeroValue3
  i3 := by kernel_rfl
  t4 := Tryd.underlying4
  a4 := Tryd.isAgg4
  z4 := Tryd.sizeOf4
  v4 := Tryd.zeroValue4
  i4 := by kernel_rfl
  t5 := Tryd.underlying5
  a5 := Tryd.isAgg5
  z5 := Tryd.sizeOf5
  v5 := Tryd.zeroValue5
  i5 := by kernel_rfl
  t22 := Tryd.underlying22
  a22 := Tryd.isAgg22
  z22 := Tryd.sizeOf22
  v22 := Tryd.zeroValue22
  i22 := by kernel_rfl
  t25 := Tryd.underlying191
  a25 := Tryd.isAgg191
  z25 := Tryd.sizeOf191
  v25 := Tryd.zeroValue191
  i25 := by kernel_rfl
  t54 := Tryd.underlying219
  a54 := Tryd.isAgg219
  z54 := Tryd.sizeOf219
  g1 := by kernel_rfl
noncomputable def tzI (x : Int) : Int := (Lib.ctz 64 x.toNat : Nat)
noncomputable def tzS : Int → Int := Classical.choose (⟨tzI, rfl⟩ : ∃ f, f = tzI)
theorem tzS_eq : tzS = tzI := Classical.choose_spec (⟨tzI, rfl⟩ : ∃ f, f = tzI)
theorem tz_fact (x : Int) (hg : (decide (1 ≤ x) && decide (x < 18446744073709551616)) = true) : Fact Tryd.prog gTab 127 [.s (.int .u64 x)] [] (.s (.int .i64 (tzS x)), []) := by
  simp only [Bool.and_eq_true, decide_eq_true_eq] at hg
  refine fact_pure (Go.PM.enters_of (by kernel_rfl)) fun w ρ I xs hG hr => ?_
  simp only [RVs, RV] at hr
  obtain ⟨y, r, rfl, rfl, rfl⟩ := hr
  have hT : TabAt 0 Lib.deBruijn64tab w := fun j hj => (hG 0 _ rfl).2 j _ (by
    rw [List.getElem?_map, List.getD_eq_getElem?_getD, List.getElem?_eq_getElem hj]; rfl)
  obtain ⟨n, rfl⟩ : ∃ n : Nat, x = (n : Int) := ⟨x.toNat, by omega⟩
  have h := Any7.bits_TrailingZeros64 lays29 n (by omega) w (fun _ => hT)
  refine h.mono fun e w' ⟨he, hw⟩ => ⟨_, he, hw, ?_⟩
  simp only [RV]
  rw [tzS_eq]
  rfl
noncomputable def tz_ent : List V → List Blk → Option (Bool × Out)
  | [.s (.int .u64 x)], [] => some ((decide (1 ≤ x) && decide (x < 18446744073709551616)), (.s (.int .i64 (tzS x)), []))
  | _, _ => none
theorem tz_ok : ∀ args bs out, tz_ent args bs = some (true, out) → Fact Tryd.prog gTab 127 args bs out := by
  intro args bs out h
  unfold tz_ent at h
  split at h
  · rename_i x
    simp only [Option.some.injEq, Prod.mk.injEq] at h
    obtain ⟨hg, rfl⟩ := h
    exact tz_fact x hg
  · cases h
noncomputable def T_tz : Tbl := Tbl.cons 127 tz_ent T_refRight
theorem T_tz_ok : CallOk Tryd.prog gTab T_tz := cons_ok T_refRight_ok tz_ok
def mode3 : FuncId → Nat := fun f => bif Nat.beq f 70 then 2 else bif Nat.beq f 125 then 2 else bif Nat.beq f 71 then 2 else 0
/-! downpour/bitrow.places -/
noncomputable def placesF_s1 {R : Type} (n : Int) (ws : List Int) (c0 : Nat → Int → List Int → Option R) : Option R :=
  c0 0 n ws
theorem placesF_s1_eq (fuel : Nat)  (n : Int) (ws : List Int) : callN Tryd.prog mode3 T_tz fuel 71 [.agg [.s (.int .i64 n), .li .u64 ws]] [] = placesF_s1 n ws (fun (a1 : Nat) (a2 : Int) (a3 : List Int) => some (.fn (.func 126) [] [.ptr 0 2 a1 0], [some ⟨29, .agg [.s (.int .i64 a2), .li .u64 a3], true⟩])) := by kernel_rfl
noncomputable def placesF {R : Type} (fuel : Nat) (n : Int) (ws : List Int) (r0 : Nat → Int → List Int → Option R) : Option R :=
  (placesF_s1 n ws (fun (a1 : Nat) (a2 : Int) (a3 : List Int) => r0 a1 a2 a3))
theorem placesF_eq (fuel : Nat) (n : Int) (ws : List Int) : callN Tryd.prog mode3 T_tz fuel 71 [.agg [.s (.int .i64 n), .li .u64 ws]] [] = placesF fuel n ws (fun (z0 : Nat) (z1 : Int) (z2 : List Int) => some (.fn (.func 126) [] [.ptr 0 2 z0 0], [some ⟨29, .agg [.s (.int .i64 z1), .li .u64 z2], true⟩])) := by
  unfold placesF
  exact (placesF_s1_eq fuel  n ws)
theorem places_fact (n : Int) (ws : List Int) : Fact Tryd.prog gTab 71 [.agg [.s (.int .i64 n), .li .u64 ws]] [] (.fn (.func 126) [] [.ptr 0 2 0 0], [some ⟨29, .agg [.s (.int .i64 n), .li .u64 ws], true⟩]) := by
  refine callN_fact hN hM T_tz_ok (n := 0) (mode := mode3) ?_
  rw [placesF_eq]
  rfl
noncomputable def places_ent : List V → List Blk → Option (Bool × Out)
  | [.agg [.s (.int .i64 n), w0]], [] => (asSl (.int .u64) w0).bind fun ws => some (true, (.fn (.func 126) [] [.ptr 0 2 0 0], [some ⟨29, .agg [.s (.int .i64 n), .li .u64 ws], true⟩]))
  | _, _ => none
theorem places_ok : ∀ args bs out, places_ent args bs = some (true, out) → Fact Tryd.prog gTab 71 args bs out := by
  intro args bs out h
  unfold places_ent at h
  split at h
  · rename_i n w0
    obtain ⟨ws, h_ws, h⟩ := Option.bind_eq_some_iff.1 h
    simp only [Option.some.injEq, Prod.mk.injEq] at h
    obtain ⟨_, rfl⟩ := h
    exact (places_fact n ws).args (fun _ _ _ => fun _ h => RVs_two (fun _ h => RV_agg_two (fun _ h => RVs_two (fun _ h => h) (fun _ h => RVs_two (fun _ h => RV_li h_ws h) (fun _ h => h) h) h) h) (fun _ h => h) h)
  · cases h
noncomputable def T_places : Tbl := Tbl.cons 71 places_ent T_tz
theorem T_places_ok : CallOk Tryd.prog gTab T_places := cons_ok T_tz_ok places_ok
end Go.Proofs.YtleagoeimkcekaaDoor
